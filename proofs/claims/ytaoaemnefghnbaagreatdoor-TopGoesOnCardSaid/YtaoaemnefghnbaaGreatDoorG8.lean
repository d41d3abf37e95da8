/- Texts of this claim, one behind the other. -/
import Derived.Test.YtaoaemnefghnbaaGreatDoorG7
import Derived.Test.YtaoaemnefghnbaaGreatDoorG2
import Derived.Test.YtaoaemnefghnbaaGreatDoorG6
import Derived.Test.YtaoaemnefghnbaaGreatDoorG5
import Derived.Test.YtaoaemnefghnbaaGreatDoorCards
import Derived.Test.YtaoaemnefghnbaaGreatDoorTie
import Derived.WalkKit
import Derived.ProofKit
import Derived.OpenShut
import Derived.Carry
import Derived.OpenVars
import Derived.Deep.DeepHandedRow
import Derived.Lib.LaidTab
set_option linter.unusedVariables false
set_option linter.unusedSectionVars false
set_option maxRecDepth 100000
set_option maxHeartbeats 16000000
namespace Go.V
end Go.V
namespace Go.Proofs.YtaoaemnefghnbaaGreatDoor
end Go.Proofs.YtaoaemnefghnbaaGreatDoor
open Go.V Go.Proofs.YtaoaemnefghnbaaGreatDoor
namespace Go.Proofs.YtaoaemnefghnbaaGreatDoor
def Fc(T:Nat)(nn:List Bool)(s:Int):Bool:=decide (s<(T:Int))|| !bt nn (s.toNat-T)
def vb(T:Nat)(nn:List Bool)(row:List Int):Nat:=(row.filter (Fc T nn)).length
def PL(g:ah)(nn:List Bool)(p:aO)(b:Nat):Prop:=vb g.T nn p.right=0\/(vb g.T nn p.right=1/\Fc g.T nn ((g.T+b:Nat):Int)=true)
def PM(g:ah)(nn:List Bool)(p:aO)(i a b:Nat):Prop:=p.left=((g.T+a:Nat):Int)/\((g.T+b:Nat):Int)∈p.right.take i/\PL g nn p b
def C8(g:ah)(nn:List Bool)(p:aO)(a b:Nat):Prop:=p.left=((g.T+a:Nat):Int)/\((g.T+b:Nat):Int)∈p.right/\PL g nn p b
def Stp(g:ah)(a b:Nat):Prop:=∃nn,u6 g nn/\∃p∈g.prods,C8 g nn p a b
theorem abe{g:ah}{nn:List Bool}(h:u6 g nn){a b:Nat}:Stp g a b↔∃p∈g.prods,C8 g nn p a b:=
 ⟨λ⟨nn',h',hp⟩=>(h'.inj h)▸hp,λhp=>⟨nn,h,hp⟩⟩
structure TH(N:Nat)(vs:List (List Bool))(Q:Nat->Nat->Prop):Prop where
 ln:vs.length=N
 le:∀v∈vs,v.length=N
 st:∀(a:Nat) v,vs[a]? =some v->∀b,bt v b=true↔Q a b
theorem TH.congr{N:Nat}{vs:List (List Bool)}{Q Q':Nat->Nat->Prop}(h:TH N vs Q)(hq:∀a b,a<N->(Q a b↔Q' a b)):TH N vs Q':=
 ⟨h.ln,h.le,λa v u b=>(h.st a v u b).trans (hq a b (by rw[<-h.ln];grind))⟩
theorem ae8{v:List Bool}{b0 b:Nat}(h:b0<v.length):bt (db v [(b0:Int)]) b=true↔bt v b=true\/b=b0:=by
 rw[eF];unfold fY
 grind
theorem TH.add{N:Nat}{vs:List (List Bool)}{Q:Nat->Nat->Prop}(h:TH N vs Q){a b:Nat}{v:List Bool}(hv:vs[a]? =some v)(hb:b<N):TH N (vs.set a (db v [(b:Int)])) λx y=>Q x y\/(x=a/\y=b):=by
 have O:=h.le v (afI hv)
 refine⟨by rw[agF];exact h.ln,λu J=>?_,λx u J y=>?_⟩
 ·rcases List.mem_or_eq_of_mem_set J with J|rfl
  ·exact h.le u J
  simp_all[bu]
 ·rw[List.getElem?_set] at J
  split at J
  ·rename_i e;subst e;rw[afZ (afK.1 hv).1] at J;cases J;rw[ae8 ω,h.st _ v hv];simp
  ·rename_i e;rw[h.st x u J]
   grind
theorem IZ(T:Nat)(nn:List Bool)(row:List Int)(s:Int):vb T nn (row++[s])=vb T nn row+(if Fc T nn s then 1 else 0):=by grind[vb,List.length_append,Fc]
theorem PN(T:Nat)(nn:List Bool)(row:List Int):vb T nn row<=row.length:=agp _ _
theorem abf{N:Nat}(h:N<=65):(yk (N:Int) []).length=N/\∀k,bt (yk (N:Int) []) k=false:=by
 have e:Kx (N:Int)=N:=by
  unfold Kx;omega
 refine⟨by rw[LJ,e],λk=>?_⟩;simp[yk,eF,fY,qt]
section
variable{w:ahs}{L:List aC}{g:ah}{x:GA}
theorem abg{T k20 k23 k24 n c l:Nat}{nn:List Bool}{o o2:ahr}{c2:Nat}{s:Int}(h24:aj (hp w) ⟨k24,0,none⟩ [.pointer (some ⟨k23,0,none⟩)])(h23:aj (hp w) ⟨k23,0,none⟩ [vS o2 l c2,iI (T:Int)])(h20:aj (hp w) ⟨k20,0,none⟩ [vS o n c])(hn:aY (hp w) nn o n)(hs:0<=s/\s<(T:Int)+n)(hT:T<=65)(hN:n<=65):
  ρ 180 [iI s,.pointer (some ⟨k24,0,none⟩),.pointer (some ⟨k20,0,none⟩)] w λv w'=>v=vB (Fc T nn s)/\hp w'=hp w:=by
 refine C7 λw1 hd=>?_;have e:=gU hd;have Y:=hn.1;have J:∀w',hp w'=hp w->aj (hp w') ⟨k24,0,none⟩ [.pointer (some ⟨k23,0,none⟩)]:=λw' e=>by simp_all
 have O:∀w',hp w'=hp w->aj (hp w') ⟨k23,0,none⟩ [vS o2 l c2,iI (T:Int)]:=λw' e=>by simp_all
 have U:∀w',hp w'=hp w->aj (hp w') ⟨k20,0,none⟩ [vS o n c]:=λw' e=>by simp_all
 refine⟨λw'=>hp w'=hp w,e,some ⟨k23,0,none⟩,λw' q=>(J w' q).cell0 sZZ,(T:Int),λw' q=>(O w' q).cell sZZ (j:=1) rfl,ae (λu=>?_) λu=>?_⟩
 ·simp_all[afO,Fc]
 have u:¬s<(T:Int):=afN u;have X:s-(T:Int)=((s.toNat-T:Nat):Int):=ω
 obtain⟨b,ad,Z,W,V⟩:=hn.dS (i:=s.toNat-T) ω;refine⟨_,_,_,λw' q=>(U w' q).cell0 sZZ,some ⟨k23,0,none⟩,λw' q=>(J w' q).cell0 sZZ,(T:Int),λw' q=>(O w' q).cell sZZ (j:=1) rfl,⟨ω,ω⟩,?_⟩;rw[X];refine ay W ω ⟨_,λw' q=>V w' (Gr.of_eq q),?_,e⟩
 grind[Fc,LK,kN.val]
theorem adV(hg:gR (hp w) g x)(hb:mi g)(ht:dK (hp w)):ρ 86 [.agg ⟨x.cells⟩] w λv w'=>
  (¬ax g/\v=.tuple #[vP none,iI 1]/\Gr w w')\/
  (ax g/\∃(b:Nat)(o:ahr)(c:Nat)(ps:List Nat)(vs:List (List Bool)),v=.tuple #[.pointer (some ⟨b,0,none⟩),iI 0]/\TH g.N vs (Stp g)/\ps.length=g.N/\
   St w' (az b [vS o g.N c,iI (g.T:Int)]::own 1 o g.N c (pv (ps.map bk))::aV (cU ps vs)::all w)):=by
 refine IX ?_;refine gH hg λk1 w1 gw hg B=>?_;have tl:g.T=x.tl:=hg.t.1;have nl:g.N=x.nl:=hg.n.1;have pl:=hg.p.1;have gs:sub (hp w) (hp w1):=gw;refine⟨_,_,_,_,_,_,_,_,_,_,_,_,_,B.row sZZ,(sx (x:=x) hg hb).mono ?_⟩;rintro _ w2⟨⟨r,rfl,hr⟩,g2⟩
 refine⟨_,rfl,ae (λcg=>?_) λcg=>?_⟩
 ·exact .inl ⟨λh=>(by simp_all),rfl,sub.trans gs g2⟩
 have b1:ax g:=hr.1 (by simp_all);have he:bZ g:=.inr b1;obtain⟨iG,bT,bN,pN,pT,bP⟩:=Jc he;refine⟨_,_,_,_,_,_,_,_,_,_,_,_,_,B.row g2,(OZ (x:=x) (hg.mono g2) hb (ec.mono (sub.trans gs g2) ht)).mono ?_⟩;rintro _ w3⟨o9,n9,c9,e9,rfl,g3,hN⟩
 rcases hN with⟨h1,_⟩|⟨_,rfl,rfl,nn,b2,aa⟩
 ·simp_all
 refine⟨_,_,_,_,rfl,ag (St.all w3) λa6 w4 h=>aR h σ λw5 h=>?_⟩;have h:St w5 [az a6 [vS o9 g.N c9],has (hp w3)]:=h;have c5:aj (hp w5) ⟨a6,0,none⟩ [vS o9 g.N c9]:=af 0 h.l;have be:sub (hp w3) (hp w5):=aA 1 h.l;have aa:=aa.mono be;have X:sub (hp w1) (hp w5):=sub.trans g2 (sub.trans g3 be);have gs:sub (hp w) (hp w5):=sub.trans gs X;have hg:=hg.mono X;have B:GB (hp w5) k1 x:=⟨λs=>B.c0 (sub.trans X s),λs=>B.c1 (sub.trans X s),λs=>B.c2 (sub.trans X s),λs=>B.c3 (sub.trans X s),λs=>B.c4 (sub.trans X s),λs=>B.row (sub.trans X s)⟩;clear h;have h:=St.all w5;unfold Proofs.YtaoaemnefghnbaaGreatDoor.all at h;generalize hH:hp w5=H at*;have e7:=b2.1;refine ae (λh=>by grind) λ_=>⟨_,_,_,B.c0 (aA 0 h.l),ag h λu w6 h=>ag h λJ w7 h=>aR h σ λw8 h=>?_⟩;have h:St w8 [az J [.pointer (some ⟨u,0,none⟩)],az u [vS none 0 0,iI (x.tl:Int)],has H]:=h;rw[<-tl] at h;have h:=(aI 1 h);have h:St w8 (aV (cU [] (List.replicate 0 (yk (g.N:Int) [])))::_):=St.flat.2 (show St w8 ([]++_) from h);refine⟨_,_,_,B.c1 (aA 4 h.l),?_⟩;refine⟨λn w'=>∃(j:Nat)(o:ahr)(c:Nat)(ps:List Nat),n=j/\j<=g.N/\ps.length=j/\St w' [aV (cU ps (List.replicate j (yk (g.N:Int) []))),own 1 o j c (pv (ps.map bk)),az J [.pointer (some ⟨u,0,none⟩)],az u [vS o j c,iI (g.T:Int)],has H],λn _=>g.N-n.toNat,⟨0,none,0,[],rfl,afL _,rfl,h⟩,?_⟩;clear h;rintro _ n4 w9⟨j,o,c,ps,rfl,hj,ba,h⟩
 refine ae (λU=>?_) λU=>?_
 ·have U:j<g.N:=by simp_all
  intro d7 hd;have h:=h.drawn hd;have I:∀{w:ahs},aj (hp w) ⟨J,0,none⟩ [.pointer (some ⟨u,0,none⟩)]->aj (hp w) ⟨u,0,none⟩ [vS o j c,iI (g.T:Int)]->sub H (hp w)->aj (hp w) ⟨J,0,none⟩ [.pointer (some ⟨u,0,none⟩)]/\aj (hp w) ⟨u,0,none⟩ [vS o j c,iI (g.T:Int)]/\sub H (hp w):=λa b c=>⟨a,b,c⟩;refine⟨λw=>aj (hp w) ⟨J,0,none⟩ [.pointer (some ⟨u,0,none⟩)]/\aj (hp w) ⟨u,0,none⟩ [vS o j c,iI (g.T:Int)]/\sub H (hp w),I (af 2 h.l) (af 3 h.l) (aA 4 h.l),some ⟨u,0,none⟩,λw q=>q.1.cell0 sZZ,some ⟨u,0,none⟩,λw q=>q.1.cell0 sZZ,_,_,_,λw q=>q.2.1.cell0 sZZ,_,_,_,λw q=>B.c1 q.2.2,?_⟩;rw[<-nl];refine(Ud (xs:=[]) (l:=0) (a:=none) (g.N:Int) aY.nil ω).mono ?_;rintro _ cx⟨Z,rfl,h1⟩;have h:=h1.fb h;refine⟨_,rfl,I (af 3 h.l) (af 4 h.l) (aA 5 h.l),ag h λd8 e4 h=>⟨I (af 4 h.l) (af 5 h.l) (aA 6 h.l),?_⟩⟩;refine(aU aT (rfl:ai Ty _=.slice _) (rfl:ai Ty _=.slice _) rfl rfl rfl (h.pick 7 [0,3,1,2,4,5,6]) rfl (by simp[aK]) (by grind) ω).mono ?_;rintro _ d6⟨o',c',rfl,h⟩;refine⟨_,_,_,rfl,I (af 4 h.l) (af 5 h.l) (aA 6 h.l),?_⟩;refine aR (h.pick 7 [5,0,2,3,4,6]) σ λd0 h=>?_;have h:=St.snoc (A:=cN (bk Z) (yk (g.N:Int) [])) (M:=cU ps (List.replicate j (yk (g.N:Int) []))) (h.pick 6 [2,3,0,1,4,5]);have e1:cU ps (List.replicate j (yk (g.N:Int) []))++[cN (bk Z) (yk (g.N:Int) [])]=cU (ps++[Z]) (List.replicate (j+1) (yk (g.N:Int) [])):=by simp_all[cU,List.replicate_succ',List.zipWith_append]
  have e2:pv (ps.map bk)++[Value.pointer (bk Z)]=pv ((ps++[Z]).map bk):=by simp[pv]
  rw[e1] at h;refine⟨⟨ω,ω⟩,⟨j+1,o',c',ps++[Z],σ,ω,by simp_all,?_⟩,bY U⟩;rw[<-e2];exact h.pick 5 [0,2,3,1,4]
 have U:j=g.N:=by grind
 rw[U] at h ba;clear hj U
 have V0:TH g.N (List.replicate g.N (yk (g.N:Int) [])) λa b=>∃q∈g.prods.take 0,C8 g nn q a b:=by
  obtain⟨q1,q2⟩:=abf bN;refine⟨σ,λv hv=>by simp_all,λa v hv b=>?_⟩
  grind
 refine⟨_,_,_,B.c4 (aA 4 h.l),?_⟩;refine⟨λn w'=>∃(j:Nat)(vs:List (List Bool)),n=j/\j<=g.prods.length/\TH g.N vs (λa b=>∃q∈g.prods.take j,C8 g nn q a b)/\St w' [aV (cU ps vs),own 1 o g.N c (pv (ps.map bk)),az J [.pointer (some ⟨u,0,none⟩)],az u [vS o g.N c,iI (g.T:Int)],has H],λn _=>g.prods.length-n.toNat,⟨0,_,rfl,afL _,V0,h⟩,?_⟩;clear h V0;rintro _ n5 cT⟨j,vs,rfl,hj,hV,h⟩;refine ae (λU=>?_) λU=>?_
 rotate_left
 ·have U:j=g.prods.length:=by grind
  subst U;rw[af7] at hV;refine⟨_,(af 2 h.l).cell0 sZZ,.inr ⟨b1,u,o,c,ps,vs,rfl,hV.congr λa b _=>(abe b2).symm,ba,?_⟩⟩;exact St.on (N:=[_,_,_]) (h.pick 5 [3,1,0,4]) (bH gs)
 have U:j<g.prods.length:=by simp_all
 obtain⟨p,ad,e5,cm,ca,c6,ra,rl,rc,rfl,cI,am⟩:=hg.p.get (i:=j) ω;have b3:=afI cm;obtain⟨cF,b5⟩:=iG p b3;have dk:=am.1;have e6:=hb.2.2.2.2.2.2 p b3;have et:g.prods.take (j+1)=g.prods.take j++[p]:=by simp_all[afM]
 refine aJ ca ω ⟨_,_,_,_,_,c6.at (aA 4 h.l) rfl,ag h λW d5 h=>aL h rfl (by simp[aK]) λcp h=>?_⟩;have h:St cp [az W [iI p.left,vS ra rl rc,iI p.level],aV (cU ps vs),own 1 o g.N c (pv (ps.map bk)),az J [.pointer (some ⟨u,0,none⟩)],az u [vS o g.N c,iI (g.T:Int)],has H]:=h;refine⟨_,_,_,(af 0 h.l).cell sZZ (j:=1) rfl,?_⟩
 have av:∀{w':ahs}{vs':List (List Bool)}{s:Int},s∈p.right->St w' [az W [iI p.left,vS ra rl rc,iI p.level],aV (cU ps vs'),own 1 o g.N c (pv (ps.map bk)),az J [.pointer (some ⟨u,0,none⟩)],az u [vS o g.N c,iI (g.T:Int)],has H]->ρ 180 [iI s,.pointer (some ⟨J,0,none⟩),.pointer (some ⟨a6,0,none⟩)] w' λv ci=>v=vB (Fc g.T nn s)/\hp ci=hp w':=λ{w' vs' s} hs h=>
  abg (af 3 h.l) (af 4 h.l) (c5.mono (aA 5 h.l)) (aa.mono (aA 5 h.l)) (b5 s hs) bT bN
 refine⟨λn m w'=>∃i:Nat,n=(vb g.T nn (p.right.take i):Int)/\m=i/\i<=rl/\St w' [az W [iI p.left,vS ra rl rc,iI p.level],aV (cU ps vs),own 1 o g.N c (pv (ps.map bk)),az J [.pointer (some ⟨u,0,none⟩)],az u [vS o g.N c,iI (g.T:Int)],has H],λ_ m _=>rl-m.toNat,⟨0,by rfl,rfl,afL _,h⟩,?_⟩;clear h;rintro _ n8 n9 e8⟨i,rfl,rfl,hi,h⟩
 refine ae (λO=>?_) λO=>?_
 ·have O:i<rl:=by simp_all
  obtain⟨s,bl,a9,a8,al⟩:=am.dS O;have a0:=afI a9;have a7:p.right.take (i+1)=p.right.take i++[s]:=by simp_all[afM]
  have cd:=PN g.T nn (p.right.take i);rw[agj] at cd;refine ay a8 O ⟨_,al _ (aA 5 h.l),(av a0 h).mono ?_⟩;rintro _ dc⟨rfl,c8⟩;have h:=h.eq c8
  refine⟨_,rfl,ae (λbA=>?_) λbA=>?_⟩
  ·exact⟨⟨ω,ω⟩,⟨ω,ω⟩,⟨i+1,by simp_all[IZ],σ,ω,h⟩,bY O⟩
  ·exact⟨⟨ω,ω⟩,⟨i+1,by simp_all[IZ],σ,ω,h⟩,bY O⟩
 have O:i=rl:=by grind
 subst O;rw[af3 ω];have cu:=PN g.T nn p.right;refine⟨_,_,_,(af 0 h.l).cell sZZ (j:=1) rfl,?_⟩;obtain⟨a,ha⟩:∃a:Nat,p.left=((g.T+a:Nat):Int):=⟨p.left.toNat-g.T,ω⟩;have cc:a<g.N:=ω
 obtain⟨Z,bB⟩:∃Z,ps[a]? =some Z:=⟨ps[a]'ω,afJ _⟩;have V1:TH g.N vs (λa b=>(∃q∈g.prods.take j,C8 g nn q a b)\/PM g nn p 0 a b):=hV.congr λa b _=>by simp[PM]
 refine⟨λn w'=>∃(m:Nat)(vs:List (List Bool)),n=m/\m<=i/\TH g.N vs (λa b=>(∃q∈g.prods.take j,C8 g nn q a b)\/PM g nn p m a b)/\St w' [az W [iI p.left,vS ra i rc,iI p.level],aV (cU ps vs),own 1 o g.N c (pv (ps.map bk)),az J [.pointer (some ⟨u,0,none⟩)],az u [vS o g.N c,iI (g.T:Int)],has H],λn _=>i-n.toNat,⟨0,vs,rfl,afL _,V1,h⟩,?_⟩;clear h V1;rintro _ d4 e3⟨m,Y,rfl,hm,a4,h⟩;refine ae (λV=>?_) λV=>?_
 rotate_left
 ·have V:m=i:=by grind
  subst V;refine⟨⟨ω,ω⟩,⟨j+1,Y,σ,ω,a4.congr λa b _=>?_,h.pick 6 [1,2,3,4,5]⟩,bY U⟩
  simp_all[PM,C8,af3]
 have V:m<i:=by simp_all
 obtain⟨s,bl,a9,a8,al⟩:=am.dS V;have a0:=afI a9;have cA:=b5 s a0;have a7:p.right.take (m+1)=p.right.take m++[s]:=by simp_all[afM]
 have nx:∀{w':ahs}{vs':List (List Bool)},TH g.N vs' (λa b=>(∃q∈g.prods.take j,C8 g nn q a b)\/PM g nn p (m+1) a b)->St w' [az W [iI p.left,vS ra i rc,iI p.level],aV (cU ps vs'),own 1 o g.N c (pv (ps.map bk)),az J [.pointer (some ⟨u,0,none⟩)],az u [vS o g.N c,iI (g.T:Int)],has H]->
   aD ((m:Int)+1)/\(∃(m':Nat)(vs:List (List Bool)),(m:Int)+1=m'/\m'<=i/\TH g.N vs (λa b=>(∃q∈g.prods.take j,C8 g nn q a b)\/PM g nn p m' a b)/\St w' [az W [iI p.left,vS ra i rc,iI p.level],aV (cU ps vs),own 1 o g.N c (pv (ps.map bk)),az J [.pointer (some ⟨u,0,none⟩)],az u [vS o g.N c,iI (g.T:Int)],has H])/\i-((m:Int)+1).toNat<i-(m:Int).toNat:=
  λ{w' vs'} hv h'=>⟨⟨ω,ω⟩,⟨m+1,vs',σ,ω,hv,h'⟩,bY V⟩
 refine ay a8 V ⟨_,al _ (aA 5 h.l),?_⟩;obtain⟨P,hP⟩:∃P:Prop,P=((g.T:Int)<=s/\PL g nn p (s.toNat-g.T)):=⟨_,rfl⟩
 refine⟨λb w'=>(b=true↔P)/\St w' [az W [iI p.left,vS ra i rc,iI p.level],aV (cU ps Y),own 1 o g.N c (pv (ps.map bk)),az J [.pointer (some ⟨u,0,none⟩)],az u [vS o g.N c,iI (g.T:Int)],has H],?_,?_⟩
 ·refine⟨some ⟨u,0,none⟩,(af 3 h.l).cell0 sZZ,(g.T:Int),(af 4 h.l).cell sZZ (j:=1) rfl,ae (λh1=>?_) λh1=>⟨?_,h⟩⟩
  rotate_left
  ·grind
  have h1:(g.T:Int)<=s:=afO h1;have bi:((g.T+(s.toNat-g.T):Nat):Int)=s:=ω
  refine ae (λh2=>⟨?_,h⟩) λh2=>ae (λh3=>(av a0 h).mono ?_) λh3=>⟨?_,h⟩
  ·have h2:vb g.T nn p.right=0:=by grind
   rw[hP];exact⟨λ_=>⟨h1,.inl h2⟩,λ_=>rfl⟩
  ·rintro _ e0⟨rfl,bz⟩;have h2:vb g.T nn p.right≠0:=λe=>by grind
   have h3:vb g.T nn p.right=1:=by grind
   refine⟨_,rfl,?_,h.eq bz⟩
   grind[PL,absurd]
  ·have h2:vb g.T nn p.right≠0:=λe=>by grind
   have h3:vb g.T nn p.right≠1:=λe=>by grind
   rw[hP];exact⟨λh=>(by grind),λhh=>hh.2.elim (λe=>absurd e h2) λe=>absurd e.1 h3⟩
 clear h;rintro _ b4 d9⟨ch,h⟩;refine ae (λbc=>?_) λbc=>?_
 rotate_left
 ·refine nx (a4.congr λa' b _=>or_congr_right ?_) h;unfold PM;rw[a7];refine and_congr_right λ_=>⟨λhh=>⟨List.mem_append_left _ hh.1,hh.2⟩,λhh=>⟨?_,hh.2⟩⟩
  rcases afT.1 hh.1 with h1|h1
  ·omega
  ·rw[af_] at h1;have:P:=by rw[hP];exact⟨ω,by rw[<-h1];rw[show((g.T+b:Nat):Int).toNat-g.T=b from ω];grind⟩
   simp_all
 have ck:(g.T:Int)<=s/\PL g nn p (s.toNat-g.T):=hP▸ch.1 bc;obtain⟨b0,c7⟩:∃b0,b0=s.toNat-g.T:=⟨_,rfl⟩;have bi:s=((g.T+b0:Nat):Int):=ω
 have bb:b0<g.N:=ω
 rw[<-c7] at ck;intro cC hd;have h:=h.drawn hd;have I:∀{w:ahs},aj (hp w) ⟨W,0,none⟩ [iI p.left,vS ra i rc,iI p.level]->aj (hp w) ⟨J,0,none⟩ [.pointer (some ⟨u,0,none⟩)]->aj (hp w) ⟨u,0,none⟩ [vS o g.N c,iI (g.T:Int)]->aY (hp w) (ps.map bk) o g.N->aj (hp w) ⟨W,0,none⟩ [iI p.left,vS ra i rc,iI p.level]/\aj (hp w) ⟨J,0,none⟩ [.pointer (some ⟨u,0,none⟩)]/\aj (hp w) ⟨u,0,none⟩ [vS o g.N c,iI (g.T:Int)]/\aY (hp w) (ps.map bk) o g.N:=λa b c d=>⟨a,b,c,d⟩;have a5:(ps.map bk).length=g.N:=by grind
 have b6:(ps.map bk)[a]? =some (bk Z):=by grind
 have i7:=I (af 0 h.l) (af 3 h.l) (af 4 h.l) (Ue 2 h.l rfl rfl a5);obtain⟨dF,b8,_⟩:=i7.2.2.2.at b6;have ea:p.left-(g.T:Int)=(a:Int):=ω
 have eb:s-(g.T:Int)=(b0:Int):=ω
 obtain⟨v,hv⟩:∃v,Y[a]? =some v:=⟨Y[a]'(by rw[a4.ln];omega),afJ _⟩;refine⟨λw=>aj (hp w) ⟨W,0,none⟩ [iI p.left,vS ra i rc,iI p.level]/\aj (hp w) ⟨J,0,none⟩ [.pointer (some ⟨u,0,none⟩)]/\aj (hp w) ⟨u,0,none⟩ [vS o g.N c,iI (g.T:Int)]/\aY (hp w) (ps.map bk) o g.N,i7,some ⟨u,0,none⟩,λw q=>q.2.1.cell0 sZZ,_,_,_,λw q=>q.2.2.1.cell0 sZZ,p.left,λw q=>q.1.cell0 sZZ,some ⟨u,0,none⟩,λw q=>q.2.1.cell0 sZZ,(g.T:Int),λw q=>q.2.2.1.cell sZZ (j:=1) rfl,⟨ω,ω⟩,?_⟩;rw[ea];refine ay b8 cc ⟨bk Z,λw q=>q.2.2.2.atv b8 b6,some ⟨u,0,none⟩,λw q=>q.2.1.cell0 sZZ,(g.T:Int),λw q=>q.2.2.1.cell sZZ (j:=1) rfl,⟨ω,ω⟩,?_⟩;rw[eb];have gS:(cU ps Y)[a]? =some (cN (bk Z) v):=by unfold cU;grind
 refine ag h λd3 cz h=>⟨I (af 1 h.l) (af 4 h.l) (af 5 h.l) (Ue 3 h.l rfl rfl a5),?_⟩;refine(zP (xs:=[(b0:Int)]) (l:=1) (St.out (h.pick 7 [2,0,1,3,4,5,6]) gS) (λh hh=>bp rfl (.inr ⟨_,rfl,af 1 hh⟩)) ω).mono ?_;rintro _ dl⟨rfl,h⟩;have h:=St.back h gS;have eS:(cU ps Y).set a (cN (bk Z) (db v [(b0:Int)]))=cU ps (Y.set a (db v [(b0:Int)])):=Sz (λp v=>cN (bk p) v) bB;rw[eS] at h;refine⟨_,rfl,nx ((a4.add hv bb).congr λa' b _=>?_) (h.pick 7 [2,0,3,4,5,6])⟩;rw[or_assoc];refine or_congr_right ?_;unfold PM;rw[a7]
 constructor
 ·rintro(hh|⟨rfl,rfl⟩)
  ·grind
  grind
 ·rintro⟨h1,h2,h3⟩
  rcases afT.1 h2 with h2|h2
  ·grind
  ·rw[af_,bi] at h2;omega
end
structure U8(h:Hp)(b T N:Nat)(os:List (ahr))(vs:List (List Bool)):Prop where
 row:∃o c,aj h ⟨b,0,none⟩ [vS o N c,iI (T:Int)]/\aY h os o N
 lv:vs.length=N
 set:∀(i:Nat) o v,os[i]? =some o->vs[i]? =some v->eH h o v
theorem U8.mono{h h':Hp}{b T N:Nat}{os:List (ahr)}{vs:List (List Bool)}(s:sub h h')(r:U8 h b T N os vs):U8 h' b T N os vs:=by
 obtain⟨⟨o,c,U,J⟩,W,V⟩:=r;exact⟨⟨o,c,U.mono s,J.mono s⟩,W,λi o v O u=>(V i o v O u).mono s⟩
theorem adW{w:ahs}{L:List aC}{b T N c:Nat}{o:ahr}{ps:List Nat}{vs:List (List Bool)}(h:St w (az b [vS o N c,iI (T:Int)]::own 1 o N c (pv (ps.map bk))::aV (cU ps vs)::L))(hps:ps.length=N)(hv:vs.length=N):U8 (hp w) b T N (ps.map bk) vs:=by
 refine⟨⟨o,c,af 0 h.l,Ue 1 h.l rfl rfl (by simp_all)⟩,hv,λi o v u J=>?_⟩;rw[afQ] at u;cases hp':ps[i]? with
 |none=>simp_all
 |some p=>
  rw[hp'] at u;cases u;obtain⟨g1,s1,ha⟩:=ZR (h.pick 3 [2]) (A:=cN (bk p) v) (afI (i:=i) (by simp_all[cU,List.getElem?_zipWith]));exact(DE ha).mono s1
def Rel(vs:List (List Bool))(a b:Nat):Prop:=bt (vs.getD a []) b=true
def M9(l:List Nat):List Int:=l.map λ(k:Nat)=>(k:Int)
theorem PO{l:List Nat}{i k:Nat}(h:l[i]? =some k):(M9 l)[i]? =some (k:Int):=by simp_all[M9]
theorem PQ(l:List Nat):(M9 l).length=l.length:=by simp[M9]
theorem abh(l:List Nat):iv (M9 l)=dN l:=by rw[Wh];rfl
theorem abi(l:List Nat)(i k:Nat):(dN l).set i (iI (k:Int))=dN (l.set i k):=by simp[dN]
theorem abj(n:Nat):List.replicate n (iI 0)=dN (List.replicate n 0):=by simp[dN]
structure WvI(N n:Nat)(new:Nat->Bool)(far0:List Nat)(i:Nat)(far:List Nat):Prop where
 ln:far.length=N
 at_:∀j,j<N->far.getD j 0=if j<i/\new j=true then n else far0.getD j 0
theorem WvI.skip{N n i:Nat}{new:Nat->Bool}{far0 far:List Nat}(h:WvI N n new far0 i far)(hn:new i=false):WvI N n new far0 (i+1) far:=
 ⟨h.ln,λj u=>by
  rw[h.at_ j u]
  grind⟩
theorem WvI.hit{N n i:Nat}{new:Nat->Bool}{far0 far:List Nat}(h:WvI N n new far0 i far)(hi:i<N)(hn:new i=true):WvI N n new far0 (i+1) (far.set i n):=by
 have hl:=h.ln;refine⟨by simp_all,λj u=>?_⟩;rw[afP,List.getElem?_set]
 by_cases e:i=j
 ·simp_all
 ·rw[afV e,<-afP,h.at_ j u]
  grind
section
variable{w:ahs}{L:List aC}{b T N to:Nat}{os:List (ahr)}{vs:List (List Bool)}
theorem TI(hw:U8 (hp w) b T N os vs)(hN:N<=65)(hR:∀a k,Rel vs a k->k<N)(hto:to<N):ρ 88 [.pointer (some ⟨b,0,none⟩),iI (to:Int)] w λv w'=>∃(k:Nat)(far:List Nat),v=vS (some ⟨k,0,none⟩) N N/\adT (Rel vs) N to far/\(∀i,far.getD i 0<=N+2)/\St w' (az k (dN far)::all w):=by
 refine zH ?_;obtain⟨⟨o,c,r1,r2⟩,r3,r4⟩:=hw;have b6:=r2.1;refine⟨_,_,_,r1.cell0 sZZ,⟨ω,rfl,ω⟩,?_⟩;rw[afU,dR,abj];refine ag (St.all w) λk3 w1 h=>ag h λk4 w2 h=>?_;have h:St w2 (az k4 (dN [to])::az k3 (dN (List.replicate N 0))::all w):=h;have h:St w2 (own 1 (some ⟨k4,0,none⟩) 1 1 (dN [to])::_):=bj (cs:=[]) (by simpa using h) rfl rfl (afR _);obtain⟨Q,hQ⟩:=yz (λ(o:ahr)(l c:Nat)(z:Int)(w':ahs)(m:Nat)=>∃(n:Nat)(u far:List Nat),z=n/\l=u.length/\u.length<=N+1/\Bfs (Rel vs) N to n u far/\m=Vx far+(if u=[] then 0 else 1)/\Vx far+n<=N+1+(if u=[] then 1 else 0)/\(∀k∈u,k<N)/\St w' [own 1 o l c (dN u),az k3 (dN far),has (hp w)]);obtain⟨μ,ad,av⟩:=HV (λ(y:ahr×Nat×Nat×Int×ahs) m=>Q y.1 y.2.1 y.2.2.1 y.2.2.2.1 y.2.2.2.2 m);have bb:Vx (List.replicate N 0)=N:=by simp[Vx]
 refine⟨λo l c z w'=>∃m,Q o l c z w' m,λo l c z w=>μ (o,l,c,z,w),⟨N+1,?_⟩,?_⟩
 ·rw[hQ];exact⟨1,[to],_,rfl,rfl,σ,YP,by grind,ω,by grind,h⟩
 clear h;intro _ Z l2 c2 z2 w3 hP;have hP:=av (Z,l2,c2,z2,w3) hP;dsimp only at hP;generalize hμ:μ (Z,l2,c2,z2,w3)=μ0 at*;rw[hQ] at hP;obtain⟨n,u,far,rfl,rfl,b5,hB,hm,a6,bl,h⟩:=hP;refine ae (λb1=>?_) λb1=>?_
 rotate_left
 ·have X:u=[]:=afY (by grind);subst X;refine⟨k3,far,rfl,hB.done hR,λi=>?_,St.fb (A:=az k3 (dN far)) (h.pick 3 [1,2]) (bH sZZ)⟩;rw[afZ rfl] at a6
  by_cases hi:i<far.length
  ·by_cases h0:far.getD i 0=0
   ·omega
   ·have:=(hB.p i _ (getD_some hi) ω).1;omega
  grind
 have X:u≠[]:=λe=>by grind
 rw[afV X] at hm a6;have a5:=hB.ln;obtain⟨new,b4⟩:∃new:Nat->Bool,new=λi=>decide (far.getD i 0=0)&&u.any λk=>bt (vs.getD i []) k:=⟨_,rfl⟩;have rW:∀{w':ahs},sub (hp w) (hp w')->aj (hp w') ⟨b,0,none⟩ [vS o N c,iI (T:Int)]:=λs=>r1.mono s;refine⟨_,_,_,(rW (aA 2 h.l)).cell0 sZZ,?_⟩;refine⟨λo4 l4 c4 z w'=>∃(i:Nat)(far' dm:List Nat),z=i/\i<=N/\dm=(List.range i).filter new/\l4=dm.length/\WvI N n new far i far'/\St w' [own 1 Z u.length c2 (dN u),own 1 o4 l4 c4 (dN dm),az k3 (dN far'),has (hp w)],λ_ _ _ z _=>N-z.toNat,⟨0,far,[],rfl,afL _,rfl,rfl,⟨a5,λj _=>σ⟩,(aI 1 h).swap⟩,?_⟩;clear h;rintro _ o4 l4 c4 z w4⟨i,far',dm,rfl,hi,b8,rfl,V,h⟩;have bP:dm.length<=i:=by grind
 refine ae (λJ=>?_) λJ=>?_
 rotate_left
 ·have J:i=N:=by grind
  have h4:=h;subst J;have Y:∀j,new j=true↔far.getD j 0=0/\∃k∈u,Rel vs j k:=λj=>by grind[Rel]
  have a9:=hB.next hR V.ln (λj=>new j=true) (λj _=>Y j) (λj hj hn=>by rw[V.at_ j hj,afZ ⟨hj,hn⟩]) (λj hj hn=>by rw[V.at_ j hj,afV (λh=>hn h.2)]) (cur':=dm) (λk=>by grind)
  obtain⟨z1,z2⟩:=adU (far:=far) (far':=far') (by rw[V.ln,a5]) λj hj h0=>by
   rw[V.at_ j ω] at h0
   grind
  have key:Q o4 dm.length c4 (((n+1:Nat):Int)) w4 (Vx far'+(if dm=[] then 0 else 1)):=by
   rw[hQ];refine⟨n+1,dm,far',rfl,rfl,ω,a9,rfl,?_,λk hk=>by grind,h4.pick 4 [1,2,3]⟩
   by_cases e:dm=[]
   ·grind
   ·rw[afV e];obtain⟨k,hk⟩:=agP _ e;have U:k<i/\new k=true:=by grind
    have:=z2 k ω ((Y k).1 U.2).1 (by rw[V.at_ k U.1,afZ U];have:=hB.one;omega);omega
  have e1:(n:Int)+1=((n+1:Nat):Int):=σ
  rw[e1];refine⟨⟨ω,ω⟩,⟨_,key⟩,?_⟩;have:=ad (o4,dm.length,c4,((n+1:Nat):Int),w4) _ key;dsimp only at this ⊢;rw[hμ];refine Nat.lt_of_le_of_lt this ?_;rw[hm]
  by_cases e:dm=[]
  ·grind
  ·rw[afV e];obtain⟨k,hk⟩:=agP _ e;have U:k<i/\new k=true:=by grind
   have:=z2 k ω ((Y k).1 U.2).1 (by rw[V.at_ k U.1,afZ U];have:=hB.one;omega);omega
 have J:i<N:=by grind
 have er:List.range (i+1)=List.range i++[i]:=agx;have bz:=V.ln;have b7:far'.getD i 0=far.getD i 0:=by rw[V.at_ i J,afV ω]
 obtain⟨v,hv⟩:∃v,vs[i]? =some v:=⟨vs[i]'ω,afJ _⟩;obtain⟨oi,W⟩:∃oi,os[i]? =some oi:=⟨os[i]'ω,afJ _⟩;have bi:vs.getD i []=v:=by grind
 refine⟨λo5 l5 c5 z w'=>∃m:Nat,z=m/\m<=u.length/\l5=dm.length/\(far.getD i 0=0->∀k∈u.take m,bt v k=false)/\St w' [own 1 Z u.length c2 (dN u),own 1 o5 l5 c5 (dN dm),az k3 (dN far'),has (hp w)],λ_ _ _ z _=>u.length-z.toNat,⟨0,rfl,afL _,rfl,λ_ k hk=>by grind,h⟩,?_⟩;clear h;rintro _ o5 l5 c5 z w5⟨m,rfl,bB,rfl,a8,h⟩;refine ae (λO=>?_) λO=>?_
 rotate_left
 ·have O:m=u.length:=by grind
  subst O;rw[af7] at a8;have aa:new i=false:=by grind
  exact⟨⟨ω,ω⟩,⟨i+1,far',dm,σ,ω,by grind,rfl,V.skip aa,h⟩,bY J⟩
 have O:m<u.length:=by grind
 obtain⟨k,hk⟩:∃k,u[m]? =some k:=⟨u[m],afJ O⟩;have ba:=afI hk
 have nx:(far.getD i 0=0->bt v k=false)->St w5 [own 1 Z u.length c2 (dN u),own 1 o5 dm.length c5 (dN dm),az k3 (dN far'),has (hp w)]->
   aD ((m:Int)+1)/\(∃m':Nat,(m:Int)+1=m'/\m'<=u.length/\dm.length=dm.length/\(far.getD i 0=0->∀k∈u.take m',bt v k=false)/\St w5 [own 1 Z u.length c2 (dN u),own 1 o5 dm.length c5 (dN dm),az k3 (dN far'),has (hp w)])/\u.length-((m:Int)+1).toNat<u.length-(m:Int).toNat:=λhh h'=>by
  refine⟨⟨ω,ω⟩,⟨m+1,σ,ω,rfl,λh0 y hy=>?_,h'⟩,bY O⟩
  grind[List.take_add_one]
 obtain⟨bc,al,b2⟩:=cH h (j:=m) (v:=iI (k:Int)) (qq hk);refine ay al O ⟨_,b2,ay rfl J ⟨((far.getD i 0:Nat):Int),(af 2 h.l).cell sZZ (j:=i) (by grind[qq,getD_some]),ae (λh0=>?_) λh0=>nx (λe=>by grind) h⟩⟩;have h0:far.getD i 0=0:=by grind
 have a7:aY (hp w5) os o N:=r2.mono (aA 3 h.l);obtain⟨be,a4,_⟩:=a7.at W;refine⟨_,_,_,(rW (aA 3 h.l)).cell0 sZZ,ay a4 J ⟨oi,a7.atv a4 W,(KA ((r4 i oi v W hv).mono (aA 3 h.l)) (k:Int)).mono ?_⟩⟩;rintro _ w6⟨rfl,rfl⟩;have am:hasB v (k:Int)=bt v k:=by rfl
 refine⟨_,rfl,ae (λa0=>?_) λa0=>nx (λ_=>by grind) h⟩;rw[am] at a0;have b3:new i=true:=by grind
 refine ay rfl J ?_;rw[ak];refine aR (h.pick 4 [2,0,1,3]) (by grind[dN]) λw7 h=>ag h λbA w8 h=>?_;rw[abi] at h;refine(aU aT (rfl:ai Ty _=.slice _) (rfl:ai Ty _=.slice _) rfl rfl rfl (h.pick 5 [0,3,1,2,4]) rfl (by simp[aK]) (by grind) ω).mono ?_;rintro _ w9⟨o',c',rfl,h⟩;have e5:dN dm++[iI (i:Int)]=dN (dm++[i]):=by simp[dN]
 rw[e5] at h;refine⟨_,_,_,rfl,⟨ω,ω⟩,⟨i+1,far'.set i n,dm++[i],σ,ω,by grind,σ,V.hit J b3,h.pick 5 [3,0,2,4]⟩,bY J⟩
end
theorem TJ{L:List aC}{h:Hp}{a:ahr}{sz l c:Nat}{vs:List Value}(i:Nat)(hl:aG L h)(e:vc L i=own sz a l c vs:=by rfl)(hi:Nat.blt i (DG L)=true:=by rfl):ec a vs h:=by
 obtain⟨u,s,ha⟩:=ew i (by simp_all[kQ]) hl;rw[e] at ha
 grind[ec.mono,bK]
theorem YQ(xs:List Int)(i:Nat)(v:Int):(iv xs).set i (iI v)=iv (xs.set i v):=by simp[iv]
def EH(T:Nat)(xs:List Int):List Int:=xs.map λx=>x+(T:Int)
theorem PR(T:Nat)(xs:List Int):(EH T xs).length=xs.length:=by simp[EH]
theorem adX{g:ah}{vs:List (List Bool)}(hV:TH g.N vs (Stp g))(iG:SV g):Rel vs=Stp g:=by
 funext a b
 refine propext ?_;unfold Rel
 by_cases ha:a<g.N
 ·obtain⟨v,u⟩:∃v,vs[a]? =some v:=⟨vs[a]'(by rw[hV.ln];omega),afJ _⟩;rw[afP,u];exact hV.st a v u b
 ·rw[afP,agl (by rw[hV.ln];omega)];refine⟨λh=>by grind[bt],λ⟨nn,_,p,hp,J,_⟩=>?_⟩;have:=(iG p hp).1;omega
theorem adY{g:ah}(iG:SV g){a b:Nat}(h:Stp g a b):a<g.N/\b<g.N:=by
 obtain⟨nn,_,p,hp,U,u,_⟩:=h;have O:=(iG p hp).1;have J:=(iG p hp).2 _ u;omega
structure OnL(R:Nat->Nat->Prop)(N:Nat)(ol:List Nat):Prop where
 ex:∃p:Nat->Bool,(∀i,p i=true↔OnP R i)/\ol=(List.range N).filter p
theorem OnL.mem{R:Nat->Nat->Prop}{N:Nat}{ol:List Nat}(h:OnL R N ol){x:Nat}:x∈ol↔x<N/\OnP R x:=by
 obtain⟨p,hp,rfl⟩:=h.ex
 simp_all
theorem OnL.le{R:Nat->Nat->Prop}{N:Nat}{ol:List Nat}(h:OnL R N ol):ol.length<=N:=by
 obtain⟨p,hp,rfl⟩:=h.ex
 grind
theorem PT{R:Nat->Nat->Prop}{out:List Nat}{l0:Nat}(h0:out[0]? =some l0)(hs:∀(i:Nat) a b,out[i]? =some a->out[i+1]? =some b->R a b):∀(i:Nat) x,out[i+1]? =some x->rD R x (i+1) l0
 |0,x,hx=>.one _ (hs 0 l0 x h0 hx)
 |i+1,x,hx=>by
  have hl:=(afK.1 hx).1
  obtain⟨y,hy⟩:∃y,out[i+1]? =some y:=⟨out[i+1]'ω,afJ _⟩
  exact(PT h0 hs i y hy).trans (.one y (hs (i+1) y x hy hx))
structure U9(R:Nat->Nat->Prop)(N F l0:Nat)(far out:List Nat):Prop where
 z:out[0]? =some l0
 st:∀(i:Nat) a b,out[i]? =some a->out[i+1]? =some b->R a b
 lt:∀x∈out,x<N
 fa:∀(i:Nat) x,out[i]? =some x->far.getD x 0+i=F
theorem U9.snoc{R:Nat->Nat->Prop}{N F l0 k last:Nat}{far out:List Nat}(h:U9 R N F l0 far out)(hl:out[out.length-1]? =some last)(hr:R last k)(hk:k<N)(hf:far.getD k 0+out.length=F):U9 R N F l0 far (out++[k]):=by
 have h0:=(afK.1 h.z).1
 refine⟨by rw[af5 h0];exact h.z,λi a b ha hb=>?_,λx u=>?_,λi x u=>?_⟩
 ·have hi:=(afK.1 hb).1;rw[afS,ag8] at hi;rw[af5 ω] at ha
  by_cases J:i+1<out.length
  ·rw[af5 J] at hb;exact h.st i a b ha hb
  ·have e:i=out.length-1:=ω
   rw[e,hl] at ha;cases ha;rw[agf ω] at hb;have:i+1-out.length=0:=ω
   rw[this] at hb;cases hb;exact hr
 ·rcases afT.1 u with u|u
  ·exact h.lt x u
  simp_all
 ·have hi:=(afK.1 u).1;rw[afS,ag8] at hi
  by_cases J:i<out.length
  ·rw[af5 J] at u;exact h.fa i x u
  grind
theorem U9.cir{R:Nat->Nat->Prop}{N F l0:Nat}{far out:List Nat}(h:U9 R N F l0 far out)(hF:adT R N l0 far)(hl:out.length=F):ae7 R N out:=by
 have h0:=(afK.1 h.z).1
 have U:∀(i:Nat) x,out[i]? =some x->rD R l0 (far.getD x 0) x:=λi x u=>by
  have hi:=(afK.1 u).1;have:=h.fa i x u;have X:=h.lt x (afI u);exact(hF.p x _ (getD_some (by grind)) ω).1
 refine⟨h.lt,?_,λi a b ha hb=>?_,λx u=>?_⟩
 ·rw[agI,agU];intro i j hi V W e;have Y:=h.fa i _ (afJ hi);have Z:=h.fa j _ (afJ V)
  grind
 ·have hi:=(afK.1 ha).1
  by_cases O:i+1<out.length
  ·rw[Nat.mod_eq_of_lt O] at hb;exact h.st i a b ha hb
  ·have e:i+1=out.length:=ω
   rw[e,Nat.mod_self,h.z] at hb;cases hb;have:=U i a ha;have hf:=h.fa i a ha;rw[show far.getD a 0=1 from ω] at this;cases this with
   |one _ hr=>exact hr
   |more n _ k _ J=>exact absurd J.pos ω
 ·obtain⟨i,hi⟩:=agb u;have J:=U i x hi;cases i with
  |zero=>rw[h.z] at hi;cases hi;exact⟨_,J⟩
  |succ i=>exact⟨_,J.trans (PT h.z h.st i x hi)⟩
section
variable{w:ahs}{L:List aC}{b T N l c:Nat}{os:List (ahr)}{vs:List (List Bool)}{a:ahr}{xs:List Int}{v0:Value}
theorem abk(h:St w (own 1 a l c (iv xs)::L))(hb:∀h,aG L h->aj h ⟨b,0,none⟩ [v0,iI (T:Int)])(hx:∀x∈xs,0<=x/\x<=1000000)(hT:T<=65)(hl:l<=4611686018427387904):ρ 92 [.pointer (some ⟨b,0,none⟩),vS a l c] w λv w'=>v=vS a l c/\St w' (own 1 a l c (iv (EH T xs))::L):=by
 refine zJ ?_;have Y:xs.length=l:=by grind[fO,cZ]
 refine⟨λz w'=>∃i:Nat,z=i/\i<=l/\St w' (own 1 a l c (iv (EH T (xs.take i)++xs.drop i))::L),λz _=>l-z.toNat,⟨0,rfl,afL _,by simp_all[EH]⟩,?_⟩;clear h;rintro _ z w1⟨i,rfl,hi,h⟩;refine ae (λu=>?_) λu=>?_
 rotate_left
 ·grind
 have u:i<l:=by simp_all
 obtain⟨x,O⟩:∃x,xs[i]? =some x:=⟨xs[i],afJ ω⟩;have X:=hx x (afI O);have U:(EH T (xs.take i)).length=i:=by grind[PR,List.length_take]
 have J:(EH T (xs.take i)++xs.drop i)[i]? =some x:=by simp_all
 intro V Z;have h:=h.drawn Z;obtain⟨ad,ha,_⟩:=cH h (LF J);have r0:aj (hp V) ⟨b,0,none⟩ [v0,iI (T:Int)]:=hb _ h.tail
 refine⟨λw'=>hp w'=hp V,rfl,ay ha u ⟨x,λw' q=>?_,(T:Int),λw' q=>?_,⟨ω,ω⟩,ay ha u ?_⟩⟩
 ·show World.cell? w' _=_;obtain⟨W,e,hc⟩:=cH (h.eq q) (LF J)
  simp_all
 ·show World.cell? w' _=_;rw[cD q];exact r0.cell sZZ (j:=1) rfl
 ·refine gE h ha (by simp_all[cZ]) λw5 h=>⟨⟨ω,ω⟩,⟨i+1,σ,ω,?_⟩,bY u⟩
  have e:(iv (EH T (xs.take i)++xs.drop i)).set i (iI (x+(T:Int)))=iv (EH T (xs.take (i+1))++xs.drop (i+1)):=by
   have e1:xs.drop i=x::xs.drop (i+1):=by grind[List.drop_eq_getElem_cons,List.getElem?_eq_some_iff]
   simp_all[afM,YQ,EH]
  simp_all
theorem afC(hw:U8 (hp w) b T N os vs)(hN:N<=65)(hR:∀a k,Rel vs a k->k<N):ρ 87 [.pointer (some ⟨b,0,none⟩)] w λv w'=>∃(a:ahr)(c:Nat)(ol:List Nat),v=vS a ol.length c/\OnL (Rel vs) N ol/\St w' (own 1 a ol.length c (dN ol)::all w):=by
 refine EG ?_;obtain⟨⟨o,c,Z,r2⟩,r3,r4⟩:=id hw;obtain⟨p,J⟩:∃p:Nat->Bool,∀i,p i=true↔OnP (Rel vs) i:=⟨λi=>@decide (OnP (Rel vs) i) (Classical.propDecidable _),λi=>σ⟩;refine⟨_,_,_,Z.cell0 sZZ,?_⟩;refine⟨λU V c4 z w'=>∃(i:Nat)(dm:List Nat),z=i/\i<=N/\dm=(List.range i).filter p/\V=dm.length/\St w' [own 1 U V c4 (dN dm),has (hp w)],λ_ _ _ z _=>N-z.toNat,⟨0,[],rfl,afL _,rfl,rfl,aI 1 (St.all w)⟩,?_⟩;rintro _ U V c4 z w1⟨i,dm,rfl,hi,Y,rfl,h⟩;have a0:dm.length<=i:=by grind
 refine ae (λu=>?_) λu=>?_
 rotate_left
 ·have u:i=N:=by grind
  exact⟨U,c4,dm,rfl,⟨p,J,by simp_all⟩,h⟩
 have u:i<N:=by simp_all
 have er:List.range (i+1)=List.range i++[i]:=agx;refine(TI (hw.mono (aA 1 h.l)) hN hR u).mono ?_;rintro _ w2⟨kf,O,rfl,X,_,h2⟩;have h:=h2.fb h;have a4:=X.ln
 have W:p i=true↔0<O.getD i 0:=by
  rw[J]
  constructor
  ·rintro⟨m,hm⟩;exact agZ λe=>X.z i u e m hm
  ·intro h0;exact⟨_,(X.p i _ (getD_some ω) h0).1⟩
 refine⟨_,_,_,rfl,ay rfl u ⟨((O.getD i 0:Nat):Int),(af 0 h.l).cell sZZ (j:=i) (qq (getD_some ω)),ae (λh0=>?_) λh0=>?_⟩⟩
 ·have h0:p i=true:=W.2 (by simp_all);refine ag h λk7 w3 h=>?_;refine(aU aT (rfl:ai Ty _=.slice _) (rfl:ai Ty _=.slice _) rfl rfl rfl (h.pick 4 [0,2,1,3]) rfl (by simp[aK]) (by grind) ω).mono ?_;rintro _ w4⟨o',c',rfl,h⟩;have e5:dN dm++[iI (i:Int)]=dN (dm++[i]):=by simp[dN]
  rw[e5] at h;exact⟨_,_,_,rfl,⟨ω,ω⟩,⟨i+1,dm++[i],σ,ω,by simp_all,σ,h.pick 4 [0,3]⟩,bY u⟩
 ·have h0:¬p i=true:=λe=>by simp_all
  exact⟨⟨ω,ω⟩,⟨i+1,dm,σ,ω,by simp_all,rfl,h.pick 2 [1]⟩,bY u⟩
end
theorem St.M_{w:ahs}{B:aC}{M:List aC}(h:St w (B::M)):∃HF,B HF/\St w (Proofs.YtaoaemnefghnbaaGreatDoor.has HF::M):=by
 obtain⟨u,J,d,s1,s2,ha,hl⟩:=h;exact⟨u,ha,u,J,d,s1,s2,sZZ,hl⟩
section
variable{w:ahs}{L:List aC}{g:ah}{x:GA}
theorem adZ{kf kn l c n N:Nat}{a fa:ahr}{fc:Nat}{xs far:List Nat}(hf:aj (hp w) ⟨kf,0,none⟩ [vS fa N fc])(hfr:ec fa (dN far) (hp w))(hfl:far.length=N)(hn:aj (hp w) ⟨kn,0,none⟩ [iI (n:Int)])(hr:aY (hp w) (M9 xs) a l)(hlt:∀k∈xs,k<N)(hl:l<=4611686018427387904)(hex:∃k∈xs,far.getD k 0=n):
  ρ 90 [vS a l c,.func (.func F4) #[] #[.pointer (some ⟨kf,0,none⟩),.pointer (some ⟨kn,0,none⟩)]] w λv w'=>(∃(i:Nat)(k:Nat),v=iI (i:Int)/\i<l/\xs[i]? =some k/\far.getD k 0=n)/\hp w'=hp w:=by
 refine bJ ?_;have a4:xs.length=l:=by have:=hr.1;simp_all[PQ]
 refine⟨λz w'=>∃j:Nat,z=j/\j<=l/\(∀k∈xs.take j,far.getD k 0≠n)/\hp w'=hp w,λz _=>l-z.toNat,⟨0,rfl,afL _,λk W=>by simp_all,rfl⟩,?_⟩;rintro _ z w1⟨j,rfl,hj,a0,Y⟩;refine ae (λJ=>?_) λJ=>?_
 rotate_left
 ·grind
 have J:j<l:=by simp_all
 obtain⟨k,W⟩:∃k,xs[j]? =some k:=⟨xs[j]'ω,afJ _⟩;have O:=hlt k (afI W);obtain⟨ad,X,hc⟩:=hr.at (PO W);refine ay X J ⟨(k:Int),hc w1 (Gr.of_eq Y),a_.2 ⟨rfl,?_⟩⟩;refine C4 λw2 hd=>?_;have Z:hp w2=hp w:=(gU hd).trans Y
 obtain⟨u,U,V⟩:∃u,fa=some u/\∀w',hp w'=hp w->w'.cell? (u.add k)=some (iI ((far.getD k 0:Nat):Int)):=by
  rcases hfr with e|⟨u,e,hc⟩
  ·have:=congrArg List.length e
   grind[dN,List.length_nil]
  grind[jA,qq,getD_some]
 refine⟨λw'=>hp w'=hp w,Z,fa,N,fc,λw' q=>hf.cell0 (Gr.of_eq q),ay U O ⟨_,λw' q=>V w' q,(n:Int),λw' q=>hn.cell0 (Gr.of_eq q),_,rfl,ae (λhb=>?_) λhb=>?_⟩⟩
 ·grind
 ·refine⟨⟨ω,ω⟩,⟨j+1,σ,ω,λy hy=>?_,Z⟩,bY J⟩
  grind[List.take_add_one]
theorem abl(hg:gR (hp w) g x)(hb:mi g)(ht:dK (hp w)):ρ 40 [.agg ⟨x.cells⟩] w λv w'=>
  (¬ax g/\v=.tuple #[vS none 0 0,iI 1]/\Gr w w')\/
  (ax g/\∃(a:ahr)(c:Nat)(ol cl:List Nat),v=.tuple #[vS a cl.length c,iI 0]/\OnL (Stp g) g.N ol/\(ol=[]->cl=[])/\(∀l0,ol[0]? =some l0->cl[0]? =some l0/\ae7 (Stp g) g.N cl)/\cl.length<=67/\cl.length<=c/\∃HF,aY HF (EH g.T (M9 cl)) a cl.length/\St w' (has HF::all w)):=by
 refine IV ?_;refine gH hg λk1 w1 gw hg B=>⟨_,_,_,_,_,_,_,_,_,_,_,_,_,B.row sZZ,(adV (x:=x) hg hb (ec.mono gw ht)).mono ?_⟩
 rintro _ w2 (⟨hn,rfl,g2⟩|⟨a9,b,o,c,ps,vs,rfl,hV,cg,h2⟩)
 ·exact⟨_,_,rfl,ae (λ_=>.inl ⟨hn,rfl,sub.trans gw g2⟩) λh=>by cases h⟩
 obtain⟨iG,bT,bN,pN,pT,bP⟩:=Jc (.inr a9:bZ g);have hW:=adW h2 cg hV.ln;have a6:=adX hV iG;have a4:∀a k,Rel vs a k->k<g.N:=λa k h=>(adY iG (a6▸h)).2;have gs:sub (hp w) (hp w2):=sub.trans gw (aA 3 h2.l);have cu:dK (hp w2):=ec.mono gs ht;clear h2;obtain⟨⟨o,c,r1,r2⟩,r3,r4⟩:=id hW;refine⟨_,_,rfl,ae (λh=>by grind) λ_=>(afC hW bN a4).mono ?_⟩;rintro _ w3⟨a3,c3,ol,rfl,a5,h⟩;have dk:=a5.le
 refine⟨_,_,_,rfl,ae (λh0=>?_) λh0=>?_⟩
 ·have h0:ol=[]:=afY (aeu (b:=0) h0);subst h0;exact .inr ⟨a9,none,0,[],[],rfl,a6▸a5,λ_=>rfl,λl0 h=>by grind,σ,afR _,λ_=>none,aY.nil,λ_=>none,hp w3,λ_=>.inl rfl,λ_ _ h=>(nomatch h),sZZ,sZZ,bH (sub.trans gs (aA 1 h.l))⟩
 have a7:0<ol.length:=agZ (acs (b:=0) h0);obtain⟨l0,bi⟩:∃l0,ol[0]? =some l0:=⟨ol[0],afJ a7⟩;obtain⟨W,b5⟩:=a5.mem.1 (afI bi);have Y:sub (hp w2) (hp w3):=aA 1 h.l;have cd:ec a3 (dN ol) (hp w3):=TJ 0 h.l
 obtain⟨cp,cF,am⟩:∃ad,a3=some ad/\∀{w':ahs},sub (hp w3) (hp w')->w'.cell? (ad.add 0)=some (iI (l0:Int)):=by
  rcases cd with e|⟨ad,e,hc⟩
  ·have:=congrArg List.length e
   simp_all[dN]
  grind[jA,sf,qq]
 have X:∀{k:Addr->Prop},k (cp.add 0)->idx a3 ol.length 0 1 k:=λ{k} hk=>ay (i:=0) cF a7 hk;clear h;refine X ⟨_,am sZZ,(TI (hW.mono Y) bN a4 W).mono ?_⟩;rintro _ w4⟨Z,J,rfl,hF,cx,h4⟩;have cT:=hF.ln;have d7:sub (hp w3) (hp w4):=aA 1 h4.l;refine⟨_,_,_,rfl,ag h4 λV w5 h=>aR h σ λw6 h=>?_⟩;have h:St w6 [az V [vS (some ⟨Z,0,none⟩) g.N g.N],az Z (dN J),has (hp w3)]:=h;obtain⟨F,b8⟩:∃F,F=J.getD l0 0:=⟨_,rfl⟩
 have ca:0<F:=by
  obtain⟨m,hm⟩:=b5;exact b8▸agZ λe=>hF.z l0 W e m hm
 have ea:F<=g.N+2:=b8▸cx l0;refine X ⟨_,am (aA 2 h.l),ag h λav w7 h=>λw8 hd=>?_⟩;have h:St w8 [az av (dN [l0]),az V [vS (some ⟨Z,0,none⟩) g.N g.N],az Z (dN J),has (hp w3)]:=h.drawn hd;have c6:(dN J)[l0]? =some (iI (F:Int)):=by simp_all[qq]
 refine⟨λw=>aj (hp w) ⟨V,0,none⟩ [vS (some ⟨Z,0,none⟩) g.N g.N]/\aj (hp w) ⟨Z,0,none⟩ (dN J)/\sub (hp w3) (hp w),⟨af 1 h.l,af 2 h.l,aA 3 h.l⟩,_,_,_,λw q=>q.1.cell0 sZZ,X ⟨(l0:Int),λw q=>am q.2.2,ay rfl W ⟨(F:Int),λw q=>q.2.1.cell sZZ (j:=l0) c6,⟨ω,ω⟩,ag h λb1 dF h=>⟨⟨af 2 h.l,af 3 h.l,aA 4 h.l⟩,aR h σ λba h=>?_⟩⟩⟩⟩;have e1:(F:Int)-1=((F-1:Nat):Int):=ω
 rw[e1] at h;have h:St ba [az av (dN [l0]),az b1 [iI ((F-1:Nat):Int)],az V [vS (some ⟨Z,0,none⟩) g.N g.N],az Z (dN J),has (hp w3)]:=h.swap;have h:St ba (own 1 (some ⟨av,0,none⟩) 1 1 (dN [l0])::_):=bj (cs:=[]) (by simpa using h) rfl rfl (afR _)
 refine⟨λo9 l9 c9 bc w'=>∃(kn n:Nat)(out:List Nat),bc=some ⟨kn,0,none⟩/\l9=out.length/\out.length+n=F/\U9 (Rel vs) g.N F l0 J out/\St w' [own 1 o9 l9 c9 (dN out),az kn [iI (n:Int)],az V [vS (some ⟨Z,0,none⟩) g.N g.N],az Z (dN J),has (hp w3)],λ_ l9 _ _ _=>F-l9,⟨b1,F-1,[l0],rfl,rfl,by grind,⟨rfl,λi a b _ hb=>by simp_all,λy hy=>by simp_all,λi y hy=>?_⟩,h⟩,?_⟩
 ·grind
 clear h;rintro _ o9 l9 c9 bc dc⟨kn,n,out,rfl,rfl,eg,U,h⟩;have d0:=(afK.1 U.z).1;refine⟨_,(af 1 h.l).cell0 sZZ,ae (λal=>?_) λal=>?_⟩
 rotate_left
 ·have al:n=0:=by simp_all
  have b4:=U.cir hF ω;rw[<-abh] at h
  refine(abk (b:=b) (v0:=vS o g.N c) h (λh hh=>r1.mono (sub.trans Y (aA 3 hh))) (λy hy=>?_) bT ω).mono ?_
  ·obtain⟨k,hk,rfl⟩:=afW.1 hy;have:=U.lt k hk;omega
  rintro _ e3⟨rfl,h⟩;obtain⟨HF,cC,ch⟩:=St.M_ (h.pick 5 [0,4]);refine⟨_,_,_,rfl,.inr ⟨a9,o9,c9,ol,out,rfl,a6▸a5,λe=>by simp_all,λl hl=>?_,ω,bI h,HF,bp (by rw[PR,PQ]) (bK cC),St.on (N:=[has HF]) ch (bH (sub.trans gs Y))⟩⟩;rw[bi] at hl;cases hl;exact⟨U.z,a6▸b4⟩
 have al:0<n:=by simp_all
 obtain⟨u,O⟩:∃u,out[out.length-1]? =some u:=⟨out[out.length-1]'ω,afJ _⟩;have ck:=U.lt u (afI O);have cc:J.getD u 0=n+1:=by have:=U.fa _ u O;omega
 obtain⟨v,hv⟩:∃v,vs[u]? =some v:=⟨vs[u]'ω,afJ _⟩;obtain⟨p,d9⟩:∃p,ps[u]? =some p:=⟨ps[u]'ω,afJ _⟩;have aa:(ps.map bk)[u]? =some (bk p):=by simp_all
 have ef:=hV.le v (afI hv);intro bB bl;have h:=h.drawn bl;have e2:(out.length:Int)-1=((out.length-1:Nat):Int):=ω
 obtain⟨b3,cz,_⟩:=cH h (qq O)
 have cm:∀{w':ahs},ec o9 (dN out) (hp w')->w'.cell? (b3.add (out.length-1))=some (iI (u:Int)):=λ{w'} r=>by
  rcases r with e|⟨ad,e,hc⟩
  ·have:=congrArg List.length e
   simp_all[dN]
  grind[jA,qq]
 have a0:sub (hp w2) (hp bB):=sub.trans Y (aA 4 h.l);obtain⟨e7,bb,_⟩:=(r2.mono a0).at aa;refine⟨λw'=>ec o9 (dN out) (hp w')/\sub (hp w2) (hp w'),⟨TJ 0 h.l,a0⟩,_,_,_,λw' q=>r1.cell0 q.2,⟨ω,ω⟩,?_⟩;rw[e2];refine ay cz ω ⟨(u:Int),λw' q=>cm q.1,ay bb ck ⟨bk p,λw' q=>(r2.mono q.2).atv bb aa,(DF ((r4 u _ v aa hv).mono a0) (ec.mono a0 cu)).mono ?_⟩⟩;rintro _ d6⟨e0,d4,rfl,c7⟩;have h:=c7.fb h;have dl:=im v
 --one behind
 have b7:∃k∈mb v,J.getD k 0=n:=by
  obtain⟨hw,a8⟩:=hF.p u _ (getD_some ω) ω;rw[cc] at hw a8;cases hw with
  |one _ _=>omega
  |more q _ k hr hw=>
   have cA:=a4 _ _ hr;have be:bt v k=true:=by grind[Rel]
   refine⟨k,tW.2 be,?_⟩;have h1:J.getD k 0≠0:=λe=>hF.z k cA e _ hw;obtain⟨g1,g2⟩:=hF.p k _ (getD_some ω) ω;have g3:=g2 _ hw;have g4:=a8 _ (.more _ u k hr g1);omega
 have c8:M9 (mb v)=iW v:=rfl
 refine⟨_,_,_,rfl,⟨TJ 1 h.l,sub.trans Y (aA 5 h.l)⟩,(adZ (xs:=mb v) (N:=g.N) (af 3 h.l) (.inr ⟨_,rfl,af 4 h.l⟩) cT (af 2 h.l) (c8▸bp (by rw[BG]) (TJ 0 h.l)) (λk hk=>?_) ω b7).mono ?_⟩
 ·have:=tW.1 hk;exact agD λe=>by grind[tV]
 rintro _ d8⟨⟨i,k,rfl,c5,b6,d5⟩,cI⟩;have h:=h.eq cI;have be:=tW.1 (afI b6);have b2:Rel vs u k:=by grind[Rel]
 obtain⟨d3,bA,bz⟩:=cH h (LF (Sw b6));refine⟨_,rfl,ay bA c5 ⟨_,bz,ag h λe9 ei h=>?_⟩⟩;refine(aU aT (rfl:ai Ty _=.slice _) (rfl:ai Ty _=.slice _) rfl rfl rfl (h.pick 7 [0,2,1,3,4,5,6]) rfl (by simp[aK]) (by grind) ω).mono ?_;rintro _ ej⟨o',c',rfl,h⟩;have e5:dN out++[iI (k:Int)]=dN (out++[k]):=by simp[dN]
 rw[e5] at h;have h:=h.pick 7 [0,3,4,5,6];refine⟨_,_,_,rfl,_,(af 1 h.l).cell0 sZZ,ag h λci e4 h=>aR h σ λeb h=>?_⟩;refine⟨(n:Int),(af 0 h.l).cell0 sZZ,⟨ω,ω⟩,aR h σ λe8 h=>⟨⟨ci,n-1,out++[k],rfl,σ,by grind,U.snoc O b2 (a4 _ _ b2) ω,?_⟩,by grind⟩⟩;have e6:(n:Int)-1=((n-1:Nat):Int):=ω
 rw[e6] at h;exact h.pick 6 [1,0,3,4,5]
end
theorem wh{a:ahr}{b c:Nat}{d:ahr}{e f:Nat}{w:ahs}{R:Value->WP}(h:br ((b:Int) !=(e:Int)) (R (vB false) w) (τ [(5,aN)] λc f=>c 0 w/\∀(_:ν) g h,c g h->bQ (g<(b:Int)) (∀i,drawn h i->∃(j:WP),j i/\idx a b g 4 λk=>∃l,(∀a,j a->cL a k (iI l))/\idx d e g 4 λk=>∃m,(∀a,j a->cL a k (iI m))/\br (l !=m) (R (vB false) i) (idx a b g 4 λk=>∃l,(∀a,j a->cL a (k.add 1) (iI l))/\idx d e g 4 λk=>∃m,(∀a,j a->cL a (k.add 1) (iI m))/\br (l !=m) (R (vB false) i) (idx a b g 4 λk=>∃l,(∀a,j a->cL a (k.add 2) (iI l))/\idx d e g 4 λk=>∃m,(∀a,j a->cL a (k.add 2) (iI m))/\br (l !=m) (R (vB false) i) (idx a b g 4 λa=>∃b k l,(∀c,j c->cL c (a.add 3) (vS b k l))/\idx d e g 4 λa=>∃d e m,(∀b,j b->cL b (a.add 3) (vS d e m))/\rEb 59 [vS b k l,vS d e m] i λd b=>j b/\br (!d) (R (vB false) b) (aD (g+1)/\c (g+1) b/\f (g+1) b<f g h))))) (R (vB true) h))):ρ 21 [vS a b c,vS d e f] w R:=rv Tryz.func21 ⟨[(4,[(5,(.one (.int .i64)))])],[],[],[]⟩ h
instance:tQ NdT:={ n:=4,rd:=λh x vs=>∃(o:ahr)(c:Nat),vs=[iI x.sym,iI x.prod,iI x.tok,vS o x.kids.length c]/\aY h x.kids o x.kids.length,mono:=λs ⟨o,c,e,r⟩=>⟨o,c,e,r.mono s⟩,len:=λ⟨_,_,h,_⟩=>by grind }
theorem abm{h:Hp}{nq:List PH}{o:ahr}{n:Nat}(hl:nq.length=n)(r:ec o (CY nq) h)(hk:∀b∈nq,aY h b.2.2 b.2.1.1 b.2.2.length):aY h (nq.map ya) o n:=by
 refine⟨by simp_all,λi x u=>?_⟩;rw[afQ] at u;cases hb:nq[i]? with
 |none=>simp_all
 |some b=>
  rw[hb] at u;cases u
  rcases r with e|⟨J,e,hc⟩
  ·have:=congrArg List.length e
   grind[CZ,List.length_nil,List.getElem?_eq_some_iff]
  ·exact⟨J,_,e,cG (f:=Qa) (n:=4) (λ_=>rfl) nq J hc i b hb,_,_,rfl,hk b (afI hb)⟩
section
variable{w:ahs}{L:List aC}{a a2 o:ahr}{n n2 c c2:Nat}
theorem ad1{xs:List Int}(hx:aY (hp w) xs a n)(hy:aY (hp w) xs a2 n2)(hb:n<=4611686018427387904):ρ 59 [vS a n c,vS a2 n2 c2] w λv w'=>v=vB true/\hp w'=hp w:=by
 have hl:=hx.1;have a0:=hy.1;refine vf (bn (by simp_all) ⟨λO w'=>∃j:Nat,O=j/\j<=n/\hp w'=hp w,λO _=>n-O.toNat,⟨0,rfl,ω,rfl⟩,?_⟩);rintro _ _ w1⟨j,rfl,hj,e⟩;refine ae (λJ=>?_) λ_=>⟨rfl,e⟩;have J:j<n:=by simp_all
 intro w2 hd;have Y:hp w2=hp w:=(gU hd).trans e;obtain⟨u,ad,hu,U,X⟩:=hx.dS J;obtain⟨v,a4,Z,W,V⟩:=hy.dS (i:=j) ω;rw[hu] at Z;cases Z;exact⟨λw'=>sub (hp w) (hp w'),LI Y,ay U J ⟨_,λw s=>X _ s,ay W ω ⟨_,λw s=>V _ s,bn σ ⟨⟨ω,ω⟩,⟨j+1,σ,ω,Y⟩,bY J⟩⟩⟩⟩
theorem YR{nd:List NdT}(hx:aY (hp w) nd a n)(hy:aY (hp w) nd a2 n2)(hb:n<=1000000)(hk:∀x∈nd,x.kids.length<=1000000):ρ 21 [vS a n c,vS a2 n2 c2] w λv w'=>v=vB true/\hp w'=hp w:=by
 have hl:=hx.1;have a5:=hy.1;refine wh (bn (by simp_all) ⟨λY w'=>∃j:Nat,Y=j/\j<=n/\hp w'=hp w,λY _=>n-Y.toNat,⟨0,rfl,ω,rfl⟩,?_⟩);rintro _ _ w1⟨j,rfl,hj,e⟩;refine ae (λW=>?_) λ_=>⟨rfl,e⟩;have W:j<n:=by simp_all
 intro w2 hd;have e2:hp w2=hp w:=(gU hd).trans e;obtain⟨u,ad,vs,hu,J,V,o1,c1,rfl,a0⟩:=hx.get W;obtain⟨v,a9,vs,hv,U,O,o2,a7,rfl,a4⟩:=hy.get (i:=j) ω;rw[hu] at hv;cases hv;have X:j<n2:=ω
 refine⟨λw'=>hp w'=hp w2,rfl,?_⟩;have s:∀{u:ahs},hp u=hp w2->sub (hp w) (hp u):=λh=>by simp_all[sub.refl]
 refine aJ J W ⟨_,λw h=>V.cell0 (s h),aJ U X ⟨_,λw h=>O.cell0 (s h),bn σ (aJ J W ⟨_,λw h=>V.cell (s h) (j:=1) rfl,aJ U X ⟨_,λw h=>O.cell (s h) (j:=1) rfl,bn σ (aJ J W ⟨_,λw h=>V.cell (s h) (j:=2) rfl,aJ U X ⟨_,λw h=>O.cell (s h) (j:=2) rfl,bn σ (aJ J W ⟨_,_,_,λw h=>V.cell (s h) (j:=3) rfl,aJ U X ⟨_,_,_,λw h=>O.cell (s h) (j:=3) rfl,?_⟩⟩)⟩⟩)⟩⟩)⟩⟩;have a8:=hk u (afI hu);refine(ad1 (a0.mono (s rfl)) (a4.mono (s rfl)) ω).mono ?_;rintro _ a6⟨rfl,Z⟩;exact⟨_,rfl,Z,bn rfl ⟨⟨ω,ω⟩,⟨j+1,σ,W,by simp_all⟩,bY W⟩⟩
variable{k:Nat}{nq:List PH}{z:ArP}{tk:List Bool}
theorem abn(hr:ec a (CY nq) (hp w))(hl:nq.length=n)(hn:n<=1000000):ρ 131 [vS a n c] w λv w'=>∃o c',v=vS o n c'/\St w' (own 4 o n c' (CY nq)::all w):=by
 refine jq ?_;cases a with
 |none=>
  have h0:CY nq=[]:=by
   rcases hr with e|⟨O,e,_⟩
   ·omega
   simp_all
  have:n=0:=by have:=congrArg List.length h0;grind[CZ]
  subst this;rw[h0];exact dL rfl ⟨none,0,rfl,aI 4 (St.all w)⟩
 |some O=>
  refine bn rfl (ag (St.all w) λb Y J=>?_);have V:St Y (own 4 (some ⟨b,0,none⟩) 0 0 []::all w):=bj (cs:=[]) J rfl rfl (afR _);have hr:=ec.mono J.aQ hr
  refine(ja aT (rfl:ai Ty _=.slice _) rfl rfl rfl V (n:=n) (news:=CY nq) (gk aT (rfl:ai Ty _=.slice _) (by rw[CZ,hl]) (by
    rcases hr with h0|⟨X,e,hc⟩
    ·simp_all
    ·cases e;exact .inr ⟨O,rfl,λj u W=>jA (hc j u W)⟩) (by
   intro u U;obtain⟨t,_,ht⟩:=agN.1 U;simp[Qa,bS] at ht;rcases ht with rfl|rfl|rfl|rfl<;>rfl)) (by grind) ω).mono ?_
  grind
theorem YS(hk:aj (hp w) (aM k) [vS z.n nq.length z.cn,vS z.t tk.length z.ct])(hr:ec z.n (CY nq) (hp w))(hkd:∀b∈nq,aY (hp w) b.2.2 b.2.1.1 b.2.2.length)(hn:nq.length<=1000000)(hkl:∀b∈nq,b.2.2.length<=1000000):ρ 60 [vP (some (aM k))] w λv w'=>∃o c HF,v=vS o nq.length c/\aY HF (nq.map ya) o nq.length/\St w' (has HF::all w):=by
 refine xm (bn rfl ⟨_,_,_,hk.cell0 sZZ,(abn hr rfl hn).mono ?_⟩);rintro _ w1⟨o,c,rfl,h⟩;obtain⟨H0,-,h⟩:=St.M_ ((St.flat (M:=[])).2 h);refine⟨_,_,_,rfl,λx u=>∃(j:Nat)(J:List PH)(H:Hp),x=j/\j<=nq.length/\J.map ya=nq.map ya/\(∀i b,J[i]? =some b->i<j->aY H b.2.2 b.2.1.1 b.2.2.length)/\(∀i b,J[i]? =some b->j<=i->aY (hp w) b.2.2 b.2.1.1 b.2.2.length)/\St u (own 4 o nq.length c (CY J)::has H::all w),λx _=>nq.length-x.toNat,⟨0,nq,H0,rfl,afL _,rfl,λi b _ h=>absurd h (Nat.not_lt_zero _),λi b hb _=>hkd b (afI hb),h.swap⟩,?_⟩;clear h;rintro _ _ w2⟨j,J,H,rfl,hj,U,a4,Z,h⟩;have a6:J.length=nq.length:=by have:=congrArg List.length U;grind
 refine ae (λW=>?_) λW=>?_
 ·have W:j<nq.length:=by simp_all
  obtain⟨b,hb⟩:∃b,J[j]? =some b:=⟨_,afJ ω⟩;have a8:=afI hb
  have a7:b.2.2.length<=1000000:=by
   have h3:(J.map ya)[j]? =some (ya b):=by grind
   rw[U,afQ] at h3;cases hq:nq[j]? with
   |none=>simp_all
   |some Y=>
    rw[hq] at h3;have h4:ya Y=ya b:=Option.some.inj h3;have:=hkl Y (afI hq);have h5:=congrArg NdT.kids h4
    show b.2.2.length<=_
    have h5:Y.2.2=b.2.2:=h5
    simp_all
  obtain⟨ad,ho,rx⟩:=fmR (f:=Qa) (λ_=>rfl) σ h hb;refine aJ ho W ⟨_,_,_,rx.cell sZZ (j:=3) rfl,(dB ((Z j b hb (afR _)).mono (aA 2 h.l)) ω ω).mono ?_⟩;rintro _ w3⟨X,c4,rfl,h3⟩;have h:=(St.fb h3 h.l).swap;refine⟨_,_,_,rfl,aJ ho W ?_⟩;have a5:eV j 4+3<(CY J).length:=by grind[CZ,bg]
  rw[add_add];refine gE h ho a5 λw4 h=>?_
  have a0:(CY J).set (eV j 4+3) (vS X b.2.2.length c4)=CY (J.set j (b.1,((X,c4),b.2.2))):=by
   have hd:Qa (b.1,((X,c4),b.2.2))=(Qa b).set 3 (vS X b.2.2.length c4):=rfl;have e1:J=J.take j++b::J.drop (j+1):=by grind[List.getElem?_eq_some_iff,List.drop_eq_getElem_cons,List.take_append_drop]
   have e2:CY J=CY (J.take j)++(Qa b++CY (J.drop (j+1))):=by grind[CY]
   have e3:CY (J.set j (b.1,((X,c4),b.2.2)))=CY (J.take j)++(Qa (b.1,((X,c4),b.2.2))++CY (J.drop (j+1))):=by
    rw[ahc,afZ ω];simp[CY]
   grind[CY,eV,CZ,bg,List.length_take,List.set_append_right,Nat.add_sub_cancel_left,List.set_append_left,Qa]
  rw[a0] at h;obtain⟨h0,V,h⟩:=St.M_ (St.flat (M:=[_,_]).2 (h.pick 4 [1,2,0,3]));have V:aG [own 1 X b.2.2.length c4 (iv b.2.2),has H] h0:=V;have hH:sub H h0:=aA 1 V
  refine⟨⟨ω,ω⟩,⟨j+1,_,h0,σ,W,?_,λi Y O hi=>?_,λi Y O hi=>?_,h.swap⟩,bY W⟩
  ·rw[ags,<-U];exact BS (by rw[afQ,hb];rfl)
  ·by_cases e:i=j
   ·subst e;rw[List.getElem?_set_self ω] at O;cases O;exact bp rfl (dE 0 V)
   ·rw[ahl (λh=>e h.symm)] at O;exact(a4 i Y O ω).mono hH
  ·rw[ahl ω] at O;exact Z i Y O ω
 ·have W:nq.length<=j:=by have:=afN W;omega
  obtain⟨HF,hF,h⟩:=St.M_ (St.flat (M:=[_,_]).2 h);have hF:aG [own 4 o nq.length c (CY J),has H] HF:=hF;refine⟨o,c,HF,rfl,?_,h⟩;rw[<-U]
  exact abm a6 (dE 0 hF) λb hb=>by
   obtain⟨i,hi⟩:=agb hb;have:=(afK.1 hi).1;exact(a4 i b hi ω).mono (aA 1 hF)
theorem abo(hk:aj (hp w) (aM k) [vS z.n nq.length z.cn,vS z.t tk.length z.ct])(hr:ec z.n (CY nq) (hp w))(hkd:∀b∈nq,aY (hp w) b.2.2 b.2.1.1 b.2.2.length)(hn:nq.length<=1000000)(hkl:∀b∈nq,b.2.2.length<=1000000):ρ 60 [vP (some (aM k))] w λv w'=>∃o c,v=vS o nq.length c/\aY (hp w') (nq.map ya) o nq.length/\Gr w w':=by
 refine(YS hk hr hkd hn hkl).mono ?_;rintro _ w'⟨o,c,O,rfl,J,u⟩;exact⟨o,c,rfl,J.mono (aA 0 u.l),aA 1 u.l⟩
end
abbrev rnL(r s a b:Nat)(y:da)(nq:List PH)(x:Zn)(z:ArP)(mo:ahr)(mc:Nat)(L:List aC):List aC:=az r (YM s a b y mo mc)::own 3 mo y.mv.length mc (mvV y.mv)::RO s (wj y.es) (U7 y.ids.reverse) x (PI a nq y.tk z L)
section
variable{w:ahs}{L:List aC}{k r s a b:Nat}{y:da}{g:ah}{ss:List SQ}{A:Nat->Int->aE}{G:Nat->Int->Nat}{H:Hp}{x:GA}{oA oG:FV}{xp:PA}{sy:Jf}{As:List (List aE)}{Gs:List (List Int)}{Cs:List cK}{p:dH}{t:Nat}
theorem abp(hs:CX (hp w) k sy g As Gs Cs p)(hb:mi g)(hbT:g.terms.length*24<=140737488355328)(hbN:g.cM.length*16<=140737488355328)(hne:g.prods.length≠0):ρ 55 [vP (some (aM k)),vB true] w λv w'=>∃(r s a b:Nat)(x:GA)(oA oG:FV)(xp:PA)(H:Hp),v=vP (some (aM r))/\uR H b x oA oG xp g As Gs p/\iC r s a b da.new (has H::all w) w':=by
 refine u4 ((U6 hs hb hbT hbN hne).mono ?_);rintro _ V⟨b,x,oA,oG,xp,H,rfl,u,h⟩;refine⟨_,rfl,bn rfl ((ae3 h).mono ?_)⟩;rintro _ O⟨s,rfl,h⟩;refine⟨_,rfl,(ae6 h).mono ?_⟩;rintro _ J⟨a,rfl,h⟩;refine⟨_,rfl,ag h λr U h=>⟨r,s,a,b,x,oA,oG,xp,H,rfl,u,[],⟨none,0,none,0⟩,⟨none,0,none,0⟩,none,0,rfl,?_⟩⟩;exact(aI 3 h).pick 9 [1,0,6,7,8,2,3,4,5]
theorem ab2(hs:CX (hp w) k sy g As Gs Cs p)(hb:mi g)(hbT:g.terms.length*24<=140737488355328)(hbN:g.cM.length*16<=140737488355328)(hne:g.prods.length≠0)(h:St w L):ρ 17 [vP (some (aM k))] w λv w'=>∃(q r s a b:Nat)(x:GA)(oA oG:FV)(xp:PA)(H:Hp),v=vP (some (aM q))/\uR H b x oA oG xp g As Gs p/\iC r s a b da.new (az q [vP (some (aM r))]::has H::L) w':=by
 refine zU ((abp hs hb hbT hbN hne).mono ?_);rintro _ Y⟨r,s,a,b,x,oA,oG,xp,H,rfl,X,nq,W,z,V,O,u,J⟩;have J:=St.on (N:=[_,_,_,_,_,_,_,_,_,_]) J h.l;exact⟨_,rfl,bn rfl (ag J λq Z U=>⟨q,r,s,a,b,x,oA,oG,xp,H,rfl,X,nq,W,z,V,O,u,St.pick U 11 [1,2,3,4,5,6,7,8,9,0,10]⟩)⟩
theorem YT:ρ 17 [vP none] w λv w'=>v=vP none/\Gr w w':=by
 have J:ρ 123 [vP none] w λv w'=>v=vP none/\Gr w w':=by
  refine B_ (RM.mono ?_);rintro _ u⟨X,rfl,O,g1⟩;refine⟨_,_,_,_,_,_,_,_,_,_,_,_,_,rfl,ag (St.all u) λW V h=>aL h rfl (by simp[aK]) λU h=>⟨_,_,_,h.cell 4,dL (by have:=O.p;rw[this];rfl) ⟨rfl,g1.trans h.aQ⟩⟩⟩
 refine zU ((@u4 _ _ w (λv w'=>v=vP none/\Gr w w') (J.mono ?_)).mono ?_)
 ·rintro _ u⟨rfl,g⟩;exact⟨_,rfl,dL rfl ⟨rfl,g⟩⟩
 ·rintro _ u⟨rfl,g⟩;exact⟨_,rfl,dL rfl ⟨rfl,g⟩⟩
theorem ae9{ts:List Int}{o:ahr}{n c:Nat}{mo:ahr}{mc:Nat}(hk:aj (hp w) (aM r) (YM s a b y mo mc))(hT:uR (hp w) b x oA oG xp g As Gs p)(hr:aY (hp w) ts o n)(ht:∀t∈ts,1<=t/\t<g.T)(hn:n<=1000000):ρ 57 [vP (some (aM r)),vS o n c] w λv w'=>v=vB true/\Gr w w':=by
 refine B9 (ag (St.all w) λY w1 h=>(RG (p:=λ_=>false) (hr.mono h.aQ) rfl (λU J u O=>?_) hn).mono ?_)
 ·obtain⟨Z,X⟩:=ht U J;have g1:Gr w u:=h.aQ.trans O;refine xr (bn (age ω) ⟨some (aM r),(af 0 h.l).cell0 O,some (aM b),hk.cell g1 (j:=2) rfl,(abd (hT.mono g1)).mono ?_⟩);rintro _ V⟨rfl,rfl⟩;exact⟨_,rfl,by simp_all,Gr.refl _⟩
 ·rintro _ W⟨rfl,g2⟩;exact⟨_,rfl,σ,h.aQ.trans g2⟩
theorem tP{q:Nat}(h:w.cell? (aM q)=some (vP (some (aM r)))):ρ 56 [vP (some (aM q))] w λv w'=>v=vB true/\w'=w:=
 ug (dL rfl ⟨_,h,rfl,rfl⟩)
abbrev PU(q r:Nat)(L:List aC):List aC:=az q [vP (some (aM r))]::L
theorem EI{q:Nat}(h:iC r s a b y (PU q r L) w):w.cell? (aM q)=some (vP (some (aM r)))/\∃mo mc,aj (hp w) (aM r) (YM s a b y mo mc):=by
 obtain⟨nq,J,z,mo,mc,u,h⟩:=h;exact⟨(af 9 h.l).cell0 sZZ,mo,mc,af 0 h.l⟩
theorem TK{w':ahs}(h:iC r s a b y L w)(g:Gr w w'):iC r s a b y L w':=by
 obtain⟨nq,U,z,O,J,u,h⟩:=h;exact⟨nq,U,z,O,J,u,h.gr g⟩
theorem Be(h:iC r s a b y L w):aG L (hp w):=by
 obtain⟨nq,U,z,O,J,u,h⟩:=h;exact h.tail.tail.tail.tail.tail.tail.tail.tail.tail.l
theorem ad5{q:Nat}(hD:IP g ss A G Gs p)(hT:uR H b x oA oG xp g As Gs p)(hL:∀h,aG L h->sub H h)(ht:t<g.T)(ht0:1<=t)(hI:fV g ss y)(hov:y.ov=false)(hm:y.mv.length<=900000)(hcn:y.de<=1000000){o:ahr}{c:Nat}(hr:∀h,aG L h->aY h [(t:Int)] o 1)(h:iC r s a b y (PU q r L) w):
  ρ 18 [vP (some (aM q)),vS o 1 c] w λv w'=>(lR g (bX p) (dI p) G t y=none/\v=.tuple #[iI 0,iI 15]/\iC r s a b y (PU q r L) w')\/
   ∃f y',lR g (bX p) (dI p) G t y=some (f,y')/\v=.tuple #[iI (if f then 1 else 0),iI 0]/\fV g ss y'/\y'.mv.length<=y.mv.length+1025/\iC r s a b y' (PU q r L) w':=by
 obtain⟨W,mo,X,J⟩:=EI h
 refine vw ⟨λz u=>z=false/\Gr w u,(tP W).mono ?_,?_⟩
 ·rintro _ w1⟨rfl,rfl⟩;refine⟨_,rfl,bn rfl ⟨_,W,_,J.cell sZZ (j:=6) rfl,bn hov ⟨_,W,?_⟩⟩⟩;have hl:=(Be h);refine(ae9 J (hT.mono (hL _ (aq hl))) (hr _ (aq hl)) (λt' Y=>by grind) ω).mono ?_;simp
 rintro _ _ w3⟨rfl,g3⟩;have h:=TK h g3;clear W J;refine bn rfl ⟨λz u=>(z=0/\iC r s a b y (PU q r L) u)\/(z=1/\∃y',lR g (bX p) (dI p) G t y=some (true,y')/\fV g ss y'/\y'.mv.length<=y.mv.length+1025/\iC r s a b y' (PU q r L) u),λz _=>1-z.toNat,.inl ⟨rfl,h⟩,?_⟩;clear h g3
 rintro _ z Z (⟨rfl,h⟩|⟨rfl,y',V,U,O,h⟩)
 ·refine dL rfl ?_;have hl:=(Be h);obtain⟨ad,ho,hc⟩:=nB (hr _ (aq hl)) (i:=0) ω;obtain⟨W,mo,X,J⟩:=EI h;refine ay (i:=0) ho ω ⟨_,hc Z sZZ,_,W,?_⟩;refine(YO hD hT (λh hh=>hL h (aq hh)) ht hI hm hcn h).mono ?_
  rintro _ w5 (⟨V,rfl,h⟩|⟨f,y',V,rfl,U,O,h⟩)
  ·exact⟨_,_,rfl,dL rfl (.inl ⟨V,rfl,h⟩)⟩
  ·cases f with
   |false=>exact⟨_,_,rfl,dL rfl (.inr ⟨false,y',V,rfl,U,O,h⟩)⟩
   |true=>exact⟨_,_,rfl,bn rfl ⟨⟨ω,ω⟩,.inr ⟨rfl,y',V,U,O,h⟩,σ⟩⟩
 ·exact bn rfl (.inr ⟨true,y',V,rfl,U,O,h⟩)
theorem ae_{q:Nat}(hD:IP g ss A G Gs p)(hT:uR H b x oA oG xp g As Gs p)(hL:∀h,aG L h->sub H h)(hI:fV g ss y)(hov:y.ov=false)(hm:y.mv.length<=900000)(hcn:y.de<=1000000)(h:iC r s a b y (PU q r L) w):
  ρ 20 [vP (some (aM q))] w (PK g ss r s a b y (lR g (bX p) (dI p) G 0 y) (PU q r L)):=by
 obtain⟨J,W,V,u⟩:=EI h;refine xj ((tP J).mono ?_);rintro _ X⟨rfl,rfl⟩;have O:=hD.hc.cX;refine⟨_,rfl,bn rfl ⟨_,J,_,u.cell sZZ (j:=6) rfl,bn hov ⟨_,J,(YO (t:=0) hD hT (λh U=>hL h (aq U)) ω hI hm hcn h).mono ?_⟩⟩⟩
 grind
theorem abq{q:Nat}(h:iC r s a b y (PU q r L) w):ρ 19 [vP (some (aM q))] w λv w'=>v=iI (y.de:Int)/\w'=w:=by
 obtain⟨J,U,O,u⟩:=EI h;refine uc ((tP J).mono ?_);rintro _ V⟨rfl,rfl⟩;exact⟨_,rfl,bn rfl ⟨_,J,_,u.cell sZZ (j:=5) rfl,rfl,rfl⟩⟩
theorem abr{q:Nat}(h:iC r s a b y (PU q r L) w):ρ 25 [vP (some (aM q))] w λv w'=>v=vB y.ov/\w'=w:=by
 obtain⟨J,U,O,u⟩:=EI h;refine vz ((tP J).mono ?_);rintro _ V⟨rfl,rfl⟩;exact⟨_,rfl,dL rfl ⟨_,J,_,u.cell sZZ (j:=6) rfl,rfl,rfl⟩⟩
theorem YU{q:Nat}(hI:fV g ss y)(hm:y.mv.length<=1000000)(h:iC r s a b y (PU q r L) w):ρ 22 [vP (some (aM q))] w λv w'=>∃o n c,v=vS o n c/\aY (hp w') y.nd o n/\n<=1000000/\Gr w w':=by
 obtain⟨J,mo,Y,u⟩:=EI h;obtain⟨nq,sk,z,U,W,O,h⟩:=h;refine ue ((tP J).mono ?_);rintro _ X⟨rfl,rfl⟩;have hl:nq.length<=1000000:=by have:=hI.nl;grind
 have V:∀b∈nq,aY (hp X) b.2.2 b.2.1.1 b.2.2.length:=λb hb=>by
  obtain⟨Z,s1,a1⟩:=Bi (A:=aV (ndO nq)) 7 h.l;obtain⟨h2,s2,a2⟩:=kP (A:=bG 1 iv b.2) (afW.2 ⟨b,hb,rfl⟩) a1;exact(bp rfl (bK a2)).mono (s2.trans s1)
 refine⟨_,rfl,bn rfl ⟨_,J,_,u.cell sZZ (j:=1) rfl,(abo (af 5 h.l) (dE 6 h.l) V hl (λb hb=>?_)).mono ?_⟩⟩
 ·refine agn ?_ (show 64<=1000000 by simp);have:ya b∈y.nd:=by grind
  exact hI.kl (ya b) this
 grind
theorem Lh{q:Nat}{nq:List PH}{sk:Zn}{z:ArP}{mo:ahr}{mc:Nat}(hI:fV g ss y)(h:St w (rnL r s a b y nq sk z mo mc (PU q r L))):ρ 24 [vP (some (aM q))] w λv w'=>∃o n c,v=vS o n c/\St w' (own 1 o n c (iv (0::wj y.es))::rnL r s a b y nq sk z mo mc (PU q r L)):=by
 have J:=(af 9 h.l).cell0 sZZ;have u:(wj y.es).length<=64:=by rw[fU];exact hI.hl
 refine sG ((tP J).mono ?_);rintro _ U⟨rfl,rfl⟩;refine⟨_,rfl,bn rfl ⟨_,J,_,h.cell 0,(YI (h.pick 9 [2,3,4,0,1,5,6,7,8]) u).mono ?_⟩⟩;rintro _ O⟨o,c,rfl,h⟩;exact⟨_,_,_,rfl,_,_,_,rfl,h.pick 10 [0,4,5,1,2,3,6,7,8,9]⟩
end
section
variable{a b c d e:ahr}{i j k l m n o p q r:Nat}{A B:Int}{w:ahs}{R:Value->WP}
theorem rJ(h:new w (ψ a i j b k l c m n A d o p) λa b=>χ b (aM a) λa=>rE 8 [a] b λa b=>∃c d f g h i,a=vU [vP c,vG [iI d,iI f,vS g h i]]/\new b (oC [iI 0,iI 0,vS none 0 0] 31) λa b=>bC b (aM a) [iI d,iI f,vS g h i] λb=>rEp 17 [vP c] b λf d=>rEp 17 [vP c] d λg d=>br (Option.isNone c) (cLi d (aM a) λb=>br (b !=0) (R (vB (Option.isNone f)) d) (R (vB false) d)) (rE 9 [vP c] d λa b=>∃c d h i j k l m n o p s t,a=vG [vS c d h,vS i j k,vS l m n,iI o,vS p s t]/\rE 10 [vG [vS c d h,vS i j k,vS l m n,iI o,vS p s t],vS e q r,iI 60] b λa b=>∃c d e h,a=vU [vS c d e,vB h]/\∃(a:lP [(56,Bw)]),br (!h) (a true b) (br (Option.isNone f) (a true b) (a (Option.isNone g) b))/\∀(_:ν) b e,a b e->br b (br (!Option.isNone f) (R (vB !Option.isNone g) e) (R (vB false) e)) (τ [(11,aN)] λa b=>a 0 e/\∀(_:ν) e h,a e h->bQ (e<(d:Int)) (idx c d e 1 λi=>cLi h i λj=>new h (oC [iI j] 3) λi j=>rE 18 [vP f,vS (some (aM i)) 1 1] j λi j=>∃k l,i=vU [iI k,iI l]/\br (l !=0) (R (vB (l==15)) j) (br (k==1) (idx c d e 1 λc=>cLi j c λd=>new j (oC [iI d] 3) λc d=>rE 18 [vP g,vS (some (aM c)) 1 1] d λc d=>∃i j,c=vU [iI i,iI j]/\br (i !=1) (R (vB false) d) (br (j !=0) (R (vB false) d) (rEi 19 [vP f] d λf d=>rEi 19 [vP g] d λg d=>br (f !=g) (R (vB false) d) (aD (e+1)/\a (e+1) d/\b (e+1) d<b e h)))) (rEi 19 [vP f] j λf d=>rEi 19 [vP g] d λg d=>br (f !=g) (R (vB false) d) (aD (e+1)/\a (e+1) d/\b (e+1) d<b e h)))) (rE 20 [vP f] h λa b=>∃c d,a=vU [vB c,iI d]/\rE 20 [vP g] b λa b=>∃e h,a=vU [vB e,iI h]/\rEs 22 [vP f] b λi j k b=>rEs 22 [vP g] b λl m n b=>rEb 21 [vS i j k,vS l m n] b λi b=>rEs 24 [vP f] b λj k l b=>rEs 24 [vP g] b λm n o b=>rEb 23 [vS j k l,vS m n o] b λj b=>br (c==e) (br (d==h) (br i (br j (rEb 25 [vP f] b λc b=>rEb 25 [vP g] b λd b=>R (vB (c==d)) b) (R (vB false) b)) (R (vB false) b)) (R (vB false) b)) (R (vB false) b))))):ρ 5 [φ a i j b k l c m n A d o p,vS e q r] w R:=rv Tryz.func5 ⟨[(10,[(11,(.one (.int .i64)))])],[(8,[(56,(.one .bool))])],[],[]⟩ h
theorem yc(h:new w (ψ a i j b k l c m n A d o p) λa b=>cLs b (aM a) λc d f=>aD ((d:Int)-1)/\τ [(8,lY),(10,aN)] λa c=>a none 0 0 0 b/\∀(_:ν) b f g h i,a b f g h i->bQ (h<(q:Int)) (bQ (h<B) (idx e q h 1 λe=>cLi i e λj=>bQ (j<0) (aD (j+1)/\aD (0-(j+1))/\bQ ((d:Int)-1<1) (R (vU [vS none 0 0,vB false]) i) (nz ((d:Int)-1)/\aD (1+Int.tmod (0-(j+1)) ((d:Int)-1))/\new i (oC [iI (1+Int.tmod (0-(j+1)) ((d:Int)-1))] 3) λd e=>rS (fX 24 (Array.mk [vS b f g,vS (some (aM d)) 1 1])) e λd e=>∃j k l,d=vS j k l/\aD (h+1)/\a j k l (h+1) e/\c j k l (h+1) e<c b f g h i)) (bQ ((d:Int)-1<1) (R (vU [vS none 0 0,vB false]) i) (nz ((d:Int)-1)/\aD (1+Int.tmod j ((d:Int)-1))/\new i (oC [iI (1+Int.tmod j ((d:Int)-1))] 3) λd e=>rS (fX 24 (Array.mk [vS b f g,vS (some (aM d)) 1 1])) e λd e=>∃j k l,d=vS j k l/\aD (h+1)/\a j k l (h+1) e/\c j k l (h+1) e<c b f g h i))) (R (vU [vS b f g,vB true]) i)) (R (vU [vS b f g,vB true]) i)):ρ 10 [φ a i j b k l c m n A d o p,vS e q r,iI B] w R:=rv Tryz.func10 ⟨[(4,[(8,(.one .slice)),(10,(.one (.int .i64)))])],[],[],[]⟩ h
end
section
variable{g:ah}{ss:List SQ}{A:Nat->Int->aE}{G:Nat->Int->Nat}{Gs:List (List Int)}{p:dH}{y:da}
theorem abt(h:IP g ss A G Gs p){t:Nat}(ht:t<g.T)(ht0:1<=t){l:List CM}{ms:List aE}(hT:F3 g A G t l ms):∀{y:da},y.es=l->zA ss l->(ms.foldl (Ew g G t) y).ov=y.ov:=by
 induction hT with
 |sh l hk hl=>
  intro y _ _
  show(Ew g G t y _).ov=_
  unfold Ew;rw[afZ hk];rfl
 |ac l hk=>
  intro y _ u;obtain⟨r,O⟩:=Ry h.hA h.hc u;have:=(h.hS.ac _ t r O ht hk).1;omega
 |rd l m q ms h1 h2 h3 h4 _ ih=>
  intro y J u;subst J;obtain⟨m',V,g1,g2,g3,U,_⟩:=h.hS.Nf h.hc h.hA u ht (by grind);rw[h1] at g1;have:m=m':=by grind
  subst this;rw[h2] at g2;cases g2;have e:Ew g G t y ⟨2,(m:Int)⟩=F1 G m q y:=by unfold Ew;simp_all
  show(ms.foldl (Ew g G t) (Ew g G t y ⟨2,(m:Int)⟩)).ov=_
  rw[e];exact ih rfl U
theorem U_(g:ah)(G:Nat->Int->Nat)(t:Nat)(ms:List aE)(y:da):(ms.foldl (Ew g G t) y).de=y.de:=IQ t ms y
theorem YV(h:IP g ss A G Gs p){t:Nat}(ht:t<g.T)(ht0:1<=t)(hI:fV g ss y){f:Bool}{y':da}(hF:lR g (bX p) (dI p) G t y=some (f,y')):y'.ov=y.ov/\y'.de<=y.de+1/\(f=false->y'=y):=by
 unfold lR at hF
 split at hF
 ·grind
 ·simp_all
 ·rename_i ms st hr;cases hF;have u:=PJ h ht hI.Nf hr;have e:=abt h ht ht0 u rfl hI.Nf;have c:=U_ g G t ms y
  refine⟨?_,?_,λh=>by grind⟩
  ·unfold Iy;grind
  ·unfold Iy;grind
end
section
section
variable{w:ahs}{g:ah}{x:GA}
theorem abu{ts:List Int}{o:ahr}{n cp s:Nat}(hg:gR (hp w) g x)(hb:g.T<=1000000)(hr:aY (hp w) ts o n)(hi:∀t∈ts,-9223372036854775808<=t/\t<=9223372036854775807)(hs:s<=1000):
  ρ 10 [.agg ⟨x.cells⟩,vS o n cp,iI (s:Int)] w λv w'=>(v=.tuple #[vS none 0 0,vB false]/\Gr w w')\/∃(row:List Int)(oo:ahr)(cc:Nat),v=.tuple #[vS oo row.length cc,vB true]/\row.length<=s/\(∀t∈row,1<=t/\t<(g.T:Int))/\St w' (own 1 oo row.length cc (iv row)::all w):=by
 have hT:x.tl=g.T:=hg.t.1.symm;refine yc (ag (St.all w) λk1 w1 h=>⟨_,_,_,(show aj (hp w1) (aM k1) x.cells from af 0 h.l).cell0 sZZ,⟨ω,ω⟩,λoo l cc z u=>∃(row:List Int),z=(row.length:Int)/\l=row.length/\row.length<=n/\row.length<=s/\(∀t∈row,1<=t/\t<(g.T:Int))/\St u (own 1 oo l cc (iv row)::all w),λ_ _ _ z _=>n-z.toNat,⟨[],rfl,rfl,afL _,afL _,σ,aI 1 h.tail⟩,?_⟩);rintro _ oo _ cc _ w2⟨row,rfl,rfl,hj,X,J,h⟩;refine ae (λO=>ae (λY=>?_) λ_=>.inr ⟨row,oo,cc,rfl,X,J,h⟩) λ_=>.inr ⟨row,oo,cc,rfl,X,J,h⟩;have O:row.length<n:=by simp_all
 have Y:row.length<s:=by simp_all
 obtain⟨t,ad,ht,ho,hc⟩:=hr.dS O;have a0:=hi t (afI ht);have key:∀k:Int,0<=k->1<=(x.tl:Int)-1->0<=k.tmod ((x.tl:Int)-1)/\k.tmod ((x.tl:Int)-1)<(x.tl:Int)-1:=λk O Y=>⟨Int.tmod_nonneg _ O,Int.tmod_lt_of_pos _ ω⟩
 refine ay ho O ⟨_,hc w2 (aA 1 h.l),ae (λW=>have W:t<0:=afO W;⟨⟨ω,ω⟩,⟨ω,ω⟩,?_⟩) λW=>?_⟩
 ·have V:=key (0-(t+1)) ω;generalize Int.tmod (0-(t+1)) ((x.tl:Int)-1)=kk at V ⊢;refine ae (λU=>.inl ⟨rfl,aA 1 h.l⟩) λU=>?_;have U:1<=(x.tl:Int)-1:=by simp_all
  have V:=V U;refine⟨by show(x.tl:Int)-1≠0;omega,⟨ω,ω⟩,ag h λk6 w3 h=>?_⟩;refine(aU (us:=iv row) (vs:=[iI (1+kk)]) aT (rfl:ai Ty _=.slice _) (rfl:ai Ty _=.slice _) rfl rfl rfl h rfl (by simp[aK]) (by grind) ω).mono ?_;rintro _ w4⟨o',Z,rfl,h⟩
  refine⟨_,_,_,rfl,⟨ω,ω⟩,⟨row++[1+kk],σ,σ,by grind,by grind,λt ht=>?_,?_⟩,bY O⟩
  ·grind
  ·have e:iv (row++[1+kk])=iv row++[iI (1+kk)]:=by simp[iv]
   rw[e];exact h.pick 2 [0]
 ·have W:¬t<0:=afN W;have V:=key t ω;generalize Int.tmod t ((x.tl:Int)-1)=kk at V ⊢;refine ae (λU=>.inl ⟨rfl,aA 1 h.l⟩) λU=>?_;have U:1<=(x.tl:Int)-1:=by simp_all
  have V:=V U;refine⟨by show(x.tl:Int)-1≠0;omega,⟨ω,ω⟩,ag h λk6 w3 h=>?_⟩;refine(aU (us:=iv row) (vs:=[iI (1+kk)]) aT (rfl:ai Ty _=.slice _) (rfl:ai Ty _=.slice _) rfl rfl rfl h rfl (by simp[aK]) (by grind) ω).mono ?_;rintro _ w4⟨o',Z,rfl,h⟩
  refine⟨_,_,_,rfl,⟨ω,ω⟩,⟨row++[1+kk],σ,σ,by grind,by grind,λt ht=>?_,?_⟩,bY O⟩
  ·grind
  ·have e:iv (row++[1+kk])=iv row++[iI (1+kk)]:=by simp[iv]
   rw[e];exact h.pick 2 [0]
end
variable{w:ahs}{L:List aC}{g:ah}{x:GA}
theorem YW(hg:gR (hp w) g x)(hb:mi g)(ht:dK (hp w)):ρ 43 [.agg ⟨x.cells⟩] w (afz g w):=by
 refine Bd (gH hg λk1 w1 gw a8 B=>ag (St.all w1) λk2 w2 h=>?_);have b5:Gr w1 w2:=h.aQ;refine⟨_,_,_,_,_,_,_,_,_,_,_,_,_,B.row b5,(Yo (a8.mono b5) hb (ec.mono (gw.trans b5) ht)).mono ?_⟩;rintro _ w3⟨ss,ask,int,f,nn,o5,c5,ds,rfl,hR,hn,cC,h3⟩;have h:=St.N0 h3 h.l;clear h3
 refine⟨_,_,_,_,rfl,ae (λJ=>?_) λJ=>?_⟩
 ·have J:f≠0:=by simp_all
  have hz:=hR.nil J;subst hz;refine aL (h.pick 3 [2]) rfl (by simp[aK]) λw4 h=>⟨_,_,_,_,_,_,_,_,_,(af 0 h.l).at sZZ rfl,[],ask,int,f,nn,none,0,none,0,none,0,[],[],[],rfl,hR,hn,rfl,rfl,rfl,?_⟩;exact aI 1 ((St.flat (M:=[])).2 (aI 1 ((St.flat (M:=[])).2 (aI 3 ((St.flat (M:=[])).2 (St.here (sub.trans gw (aA 1 h.l))))))))
 have J:f=0:=by simp_all
 subst J;obtain⟨hc,hA⟩:=hR.P7 rfl;have eu:=hn rfl;obtain⟨sT,sN,sP,et,_,_⟩:=hc.cX;have eg:=hA.dn.2.1;have tl:=a8.t.1;have nl:=a8.n.1;have eT:g.T=g.terms.length:=rfl;have eN:g.N=g.cM.length:=rfl
 --the cells,as they are read
 have bT:∀(i:Nat) d,ds[i]? =some d->∃ad,o5=some ad/\aj (hp w3) (ad.add (eV i 3)) (ckE d):=λi d hd=>adz h hd;have be:∀(i:Nat) d,ds[i]? =some d->d.2.2.length<=d.2.1.2/\aY (hp w3) d.2.2 d.2.1.1 d.2.2.length:=λi d hd=>ae1 (h.pick 2 [1,0]) hd
 have g9:ds.length<=16640:=by
  have e:=congrArg List.length cC
  grind[Tw,List.length_map]
 have h:St w3 [az k2 [vS none 0 0,vS none 0 0,vS none 0 0],has (hp w1)]:=h.pick 3 [2];obtain⟨H3,eS⟩:∃H3,H3=hp w3:=⟨_,rfl⟩;have b2:Gr w1 w3:=aA 1 h.l;refine⟨_,_,_,_,_,_,_,_,_,_,_,_,_,B.row b2,(xN (a8.mono b2) hb).mono ?_⟩;rintro _ w5⟨oA,cA,O,cd,c6,f2,rfl,bc,h5⟩;have e5:Gr w3 w5:=aA 3 h5.l;have ha:ON (hp w5) O oA:=Gi h5.l;clear h5;have a5:=hR.one bc;have d5:cr ss=cr O:=a5.2.1;obtain rfl:(0:Int)=f2:=a5.2.2.2.2.1;obtain⟨_,b1⟩:=bc.P7 rfl;have bb:O.length=ss.length:=a5.2.2.2.2.2.symm;refine⟨_,_,_,_,_,_,rfl,ag (St.all w5) λd8 w6 h6=>aL h6 rfl (by simp[aK]) λw7 h7=>?_⟩;have d4:aj (hp w7) (aM d8) [vS oA O.length cA,iI cd,iI c6]:=af 0 h7.l;have ba:Gr w5 w7:=h7.aQ;clear h6 h7;have ha:=ha.mono ba;have al:=e5.trans ba;have a4:=b2.trans al;have bi:=b1.JW hc;have h:=h.gr al
 --all that stands still,in one frame
 have hX:St w7 [az k2 [vS none 0 0,vS none 0 0,vS none 0 0],has (hp w1)]:=h;refine ag (St.all w7) λa0 w8 h=>⟨_,_,_,d4.cell0 (aA 1 h.l),?_⟩;rw[bb]
 refine⟨λz u=>∃(q:Nat)(AL:List (Lq aE))(U:List (Lq Int))(oa:ahr)(Y:Nat)(Z:ahr)(cg:Nat),z=q/\q<=ss.length/\AL.length=q/\U.length=q/\AL.map (·.2)=List.replicate q (List.replicate g.T ⟨0,0⟩)/\U.map (·.2)=(List.range q).map (J7 g O)/\St u (az a0 [vS oa q Y,vS Z q cg,vS none 0 0]::own 1 oa q Y (AL.map bS)::aV (AL.map (bG 2 di))::own 1 Z q cg (U.map bS)::aV (U.map (bG 1 iv))::all w7),λz _=>ss.length-z.toNat,⟨0,[],[],none,0,none,0,rfl,afL _,rfl,rfl,rfl,rfl,?_⟩,?_⟩
 ·exact(aI 1 ((St.flat (M:=[])).2 (aI 1 ((St.flat (M:=[])).2 h)))).pick 5 [4,0,1,2,3]
 clear h;rintro _ _ w9⟨q,AL,U,oa,Y,Z,cg,rfl,hq,a6,ch,dl,cx,h⟩;have d3:Gr w7 w9:=aA 5 h.l
 refine ae (λJ=>?_) λJ=>?_
 ·have J:q<ss.length:=by grind
  obtain⟨r,hr⟩:∃r,O[q]? =some r:=⟨_,afJ ω⟩;obtain⟨ad,eA,rs,_,re⟩:=ha q r hr;have fS:=(bi r (afI hr)).2;have eU:=D8 b1 hr;refine aJ eA J ⟨_,_,_,_,_,_,rs.at d3 rfl,ag h λb3 f7 h=>aL h rfl (by simp[aK]) λf9 h=>⟨_,_,_,B.c1 (sub.trans a4 (aA 6 h.l)),⟨ω,rfl,ω⟩,?_⟩⟩;rw[afU,dR,<-nl,<-eN];refine ag h λW d7 h=>?_
  have h:St d7 (az W (iv (List.replicate 0 (-1)++List.replicate (g.N-0) 0))::az b3 (Uv r)::az a0 [vS oa q Y,vS Z q cg,vS none 0 0]::own 1 oa q Y (AL.map bS)::aV (AL.map (bG 2 di))::own 1 Z q cg (U.map bS)::aV (U.map (bG 1 iv))::all w7):=by
   have e:List.replicate g.N (iI 0)=iv (List.replicate 0 (-1)++List.replicate (g.N-0) 0):=by simp[iv]
   rw[<-e];exact h
  refine⟨λz u=>∃j:Nat,z=j/\j<=g.N/\St u (az W (iv (List.replicate j (-1)++List.replicate (g.N-j) 0))::az b3 (Uv r)::az a0 [vS oa q Y,vS Z q cg,vS none 0 0]::own 1 oa q Y (AL.map bS)::aV (AL.map (bG 2 di))::own 1 Z q cg (U.map bS)::aV (U.map (bG 1 iv))::all w7),λz _=>g.N-z.toNat,⟨0,rfl,afL _,h⟩,?_⟩;clear h;rintro _ _ f8⟨j,rfl,hj,h⟩
  refine ae (λV=>?_) λV=>?_
  ·have V:j<g.N:=by grind
   refine aJ rfl V ?_;rw[bg,agE,ak];refine aR h (by grind[iv]) λf3 h=>⟨⟨ω,ω⟩,⟨j+1,σ,V,?_⟩,bY V⟩
   have e:(iv (List.replicate j (-1)++List.replicate (g.N-j) 0)).set j (iI (-1))=iv (List.replicate (j+1) (-1)++List.replicate (g.N-(j+1)) 0):=by
    rw[Gd];congr 1;rw[show g.N-j=(g.N-(j+1))+1 from ω,agW,agS _ _ σ,agT,agX,List.set_cons_zero,List.replicate_succ',af0];rfl
   grind
  have V:j=g.N:=by grind
  rw[V,agX,List.replicate_zero,agc,<-YB] at h;refine⟨_,_,_,(af 1 h.l).cell sZZ (j:=1) rfl,λz u=>∃k:Nat,z=k/\k<=r.2.2.length/\St u (az W (iv (IK g (r.2.2.take k)))::az b3 (Uv r)::az a0 [vS oa q Y,vS Z q cg,vS none 0 0]::own 1 oa q Y (AL.map bS)::aV (AL.map (bG 2 di))::own 1 Z q cg (U.map bS)::aV (U.map (bG 1 iv))::all w7),λz _=>r.2.2.length-z.toNat,⟨0,rfl,afL _,h⟩,?_⟩;clear h;rintro _ _ em⟨k,rfl,hk,h⟩
  refine ae (λh3=>?_) λh3=>?_
  ·have h3:k<r.2.2.length:=by grind
   obtain⟨e,fd,he,cm,ea⟩:=ph re h3;have c8:r.2.2.take (k+1)=r.2.2.take k++[e]:=by grind[List.take_add_one]
   have bl:∀y∈r.2.2.take k,y.sym≠e.sym:=λy hy=>by
    obtain⟨i,hi⟩:=agb hy
    grind[List.getElem?_eq_some_iff,List.pairwise_iff_getElem]
   obtain⟨e1,e2,_⟩:=fv hc b1 hr he
   refine aJ cm h3 ⟨_,_,ea.at (aA 7 h.l) rfl,ag h λf5 g5 h=>aL h rfl (by simp[aK]) λf6 h=>⟨_,(af 0 h.l).cell0 sZZ,_,_,_,B.c0 (sub.trans a4 (aA 8 h.l)),ae (λh4=>?_) λh4=>?_⟩⟩
   ·have h4:(g.T:Int)<=e.sym:=by grind
    refine⟨_,(af 0 h.l).cell0 sZZ,_,_,_,B.c0 (sub.trans a4 (aA 8 h.l)),⟨ω,ω⟩,_,(af 0 h.l).cell sZZ (j:=1) rfl,aM W,rfl,ω,ω,?_⟩;rw[bg,agE,ak];refine aR (h.pick 2 [1]) (by grind[cZ,YA]) λeP h=>⟨⟨ω,ω⟩,⟨k+1,σ,h3,?_⟩,bY h3⟩;rw[c8,Le bl e2,afZ h4,<-Gd,eT,tl];exact h
   ·have h4:¬(g.T:Int)<=e.sym:=by grind
    refine⟨⟨ω,ω⟩,⟨k+1,σ,h3,?_⟩,bY h3⟩;rw[c8,Le bl e2,afV h4];exact h.tail
  have h3:k=r.2.2.length:=by grind
  rw[h3,af7,YC hr] at h;have c9:(J7 g O q).length=g.N:=by simp[J7]
  intro eK hd;have h:=h.drawn hd;have e7:x.tl=g.T:=ω
  refine⟨λu=>Gr w7 u/\u.cell? (aM a0)=some (vS oa q Y),⟨aA 7 h.l,(af 2 h.l).cell0 sZZ⟩,_,_,_,λu s=>s.2,_,_,_,λu s=>B.c0 (sub.trans a4 s.1),⟨ω,rfl,ω⟩,?_⟩;rw[afU,Tx,e7];refine ag h λa7 gc h=>⟨⟨aA 8 h.l,(af 3 h.l).cell0 sZZ⟩,ag h λfg fw h=>⟨⟨aA 9 h.l,(af 4 h.l).cell0 sZZ⟩,?_⟩⟩;have b4:(AL.map bS).length=q:=by grind
  refine(aU (us:=AL.map bS) aT (rfl:ai Ty _=.slice _) (rfl:ai Ty _=.slice _) rfl rfl rfl (h.pick 6 [0,5,1,2,3,4]) rfl (by simp[aK]) (by grind) ω).mono ?_;rintro _ g0⟨cF,e4,rfl,h⟩;refine⟨_,_,_,rfl,⟨aA 9 h.l,(af 5 h.l).cell0 sZZ⟩,aR (i:=0) (h.pick 6 [5,0,2,3]) σ λfL h=>?_⟩;refine⟨_,_,_,(af 0 h.l).cell sZZ (j:=1) rfl,ag h λel fs h=>?_⟩;refine(aU (us:=U.map bS) aT (rfl:ai Ty _=.slice _) (rfl:ai Ty _=.slice _) rfl rfl rfl (h.pick 7 [0,6,1,2,3,4,5]) rfl (by simp[aK]) (by grind) ω).mono ?_;rintro _ ey⟨cT,dF,rfl,h⟩;refine⟨_,_,_,rfl,?_⟩;rw[ak];refine aR (i:=1) (h.pick 3 [2,0]) σ λeB h=>?_;refine⟨⟨ω,ω⟩,⟨q+1,AL++[((some (aM a7),g.T),List.replicate g.T ⟨0,0⟩)],U++[((some (aM W),g.N),J7 g O q)],cF,e4,cT,dF,σ,J,by grind,by grind,by grind[List.replicate_succ'],by grind[List.range_succ],?_⟩,bY J⟩;have eA:(AL++[((some (aM a7),g.T),List.replicate g.T (⟨0,0⟩:aE))]).map bS=AL.map bS++[vS (some (aM a7)) g.T g.T]:=by simp[bS]
  have d9:(AL++[((some (aM a7),g.T),List.replicate g.T (⟨0,0⟩:aE))]).map (bG 2 di)=AL.map (bG 2 di)++[own 2 (some (aM a7)) g.T g.T (di (List.replicate g.T ⟨0,0⟩))]:=by simp[bG]
  have eG:(U++[((some (aM W),g.N),J7 g O q)]).map bS=U.map bS++[vS (some (aM W)) g.N g.N]:=by grind[bS]
  have ck:(U++[((some (aM W),g.N),J7 g O q)]).map (bG 1 iv)=U.map (bG 1 iv)++[own 1 (some (aM W)) g.N g.N (iv (J7 g O q))]:=by grind[bG]
  rw[eA,d9,eG,ck];have J:=h.pick 7 [3,5,4,6,0,2,1];have V:=St.snoc (bj (sz:=2) (l:=g.T) (c:=g.T) (cs:=[]) (by rw[agc];exact J) (by rw[oq,agT]) (by rw[agc,oq,agT]) (afR _));have h3:=V.pick 3 [1,2,0];have h4:=St.snoc (bj (sz:=1) (l:=g.N) (c:=g.N) (cs:=[]) (by rw[agc];exact h3) (by rw[cZ,c9,agE]) (by rw[agc,cZ,c9,agE]) (afR _));exact h4.pick 5 [2,3,1,4,0]
 have J:q=ss.length:=by grind
 subst J;obtain⟨C,hC⟩:∃C,C=pD g nn ss 1:=⟨_,rfl⟩;have eo:C.length=ds.length:=by grind
 have c7:∀{z:cK},z∈C->∃q t:Nat,q<ss.length/\t<g.T/\1<=(gf g nn ss q t).length/\z=⟨(q:Int),(t:Int),gf g nn ss q t⟩:=λ{z} hz=>by
  rw[hC] at hz;exact tE.1 hz
 have ei:∀{i j:Nat}{a b:cK},C[i]? =some a->C[j]? =some b->a.st=b.st->a.tm=b.tm->i=j:=λha hb=>by
  rw[hC] at ha hb;exact XW ha hb
 have ek:∀l:List cK,(l.flatMap (UW g)).length<=l.length:=λl=>by
  induction l with
  |nil=>simp
  |cons c l ih=>
   grind[List.length_append,List.length_cons,UW]
 have h0:St w9 (az a0 [vS oa ss.length Y,vS Z ss.length cg,vS none 0 0]::own 1 oa ss.length Y (AL.map bS)::aV (AL.map (bG 2 di))::own 1 Z ss.length cg (U.map bS)::aV (U.map (bG 1 iv))::own 3 none 0 0 (E9 [])::aV (C_ [])::all w7):=
  (aI 3 ((St.flat (M:=[])).2 h)).pick 7 [2,3,4,5,6,0,1]
 refine⟨λz u=>∃(i:Nat)(AL:List (Lq aE))(X:List E8)(oc:ahr)(cc:Nat),z=i/\i<=ds.length/\M3 g ss.length (C.take i) (AL.map (·.2))/\X.map oy=(C.take i).flatMap (UW g)/\St u (az a0 [vS oa ss.length Y,vS Z ss.length cg,vS oc X.length cc]::own 1 oa ss.length Y (AL.map bS)::aV (AL.map (bG 2 di))::own 1 Z ss.length cg (U.map bS)::aV (U.map (bG 1 iv))::own 3 oc X.length cc (E9 X)::aV (C_ X)::all w7),λz _=>ds.length-z.toNat,⟨0,AL,[],none,0,rfl,afL _,by grind[M3.zero],rfl,h0⟩,?_⟩;clear h h0 dl a6;rintro _ _ b8⟨i,AL,X,oc,cc,rfl,hi,hD,b6,h⟩;have bz:Gr w7 b8:=aA 7 h.l;have a6:AL.length=ss.length:=by have:=hD.1;grind
 refine ae (λJ=>?_) λJ=>?_
 rotate_left
 ·have J:i=ds.length:=by grind
  subst J;rw[af3 ω,hC] at hD b6;have h8:=St.on (N:=[_,_,_,_,_,_,_]) h hX.l;refine⟨_,_,_,_,_,_,_,_,_,(af 0 h.l).at sZZ rfl,?_⟩;have h9:St b8 (az k2 [vS none 0 0,vS none 0 0,vS none 0 0]::own 1 oa ss.length Y (AL.map bS)::aV (AL.map (bG 2 di))::own 1 Z ss.length cg (U.map bS)::aV (U.map (bG 1 iv))::own 3 oc X.length cc (E9 X)::aV (C_ X)::[has (hp w1)]):=h8.pick 8 [7,1,2,3,4,5,6];refine aL h9 rfl (by simp[aK]) λfz h=>?_;refine⟨_,_,_,_,_,_,_,_,_,(af 0 h.l).at sZZ rfl,?_⟩;refine⟨ss,ask,int,0,nn,oa,Y,Z,cg,oc,cc,AL,U,X,by grind,hR,hn,hD.all,by rw[cx,aa9 d5];exact congrArg (λn=>(List.range n).map (J7 g O)) bb.symm,b6,?_⟩;unfold abY;rw[a6,ch];exact St.on (N:=[_,_,_,_,_,_]) h.tail (bH gw)
 have J:i<ds.length:=by grind
 obtain⟨d,hd⟩:∃d,ds[i]? =some d:=⟨_,afJ J⟩;have dk:C[i]? =some (oy d):=by grind
 obtain⟨q,t,hq,ht1,_,ez⟩:=c7 (afI dk);have e1:d.1.1=(q:Int):=congrArg cK.st ez;have e2:d.1.2=(t:Int):=congrArg cK.tm ez;have e3:d.2.2=gf g nn ss q t:=congrArg cK.acts ez;have e8:C.take (i+1)=C.take i++[oy d]:=by grind[List.take_add_one]
 have ef:X.length<=16640:=by grind
 have bB:∀c∈C.take i,¬(c.st=(q:Int)/\c.tm=(t:Int)):=λc ep hh=>by grind[List.getElem?_of_mem]
 obtain⟨b,e0⟩:∃b,AL[q]? =some b:=⟨_,afJ ω⟩;have b4:(AL.map (·.2))[q]? =some b.2:=by grind
 have eL:b.2.length=g.T:=(hD.2 q b.2 b4).1;have aa:=hD.put (c:=oy d) b4 e1 e2 bB;rw[<-e8] at aa;have cu:(C.take (i+1)).flatMap (UW g)=(C.take i).flatMap (UW g)++UW g (oy d):=by grind
 obtain⟨cI,e6⟩:=be i d hd;obtain⟨ad,cz,rb⟩:=bT i d hd;have rb:aj (hp w3) (ad.add (eV i 3)) [iI (q:Int),iI (t:Int),vS d.2.1.1 d.2.2.length d.2.1.2]:=by rw[<-e1,<-e2];exact rb
 have bA:Pw g.prods.length d.2.2:=by grind[Yv]
 refine aJ cz J ⟨_,_,_,_,_,rb.at (al.trans bz) rfl,ag h λej g4 h=>aL h rfl (by simp[aK]) λf4 h=>⟨_,_,_,_,_,_,_,_,_,_,_,_,_,B.row (sub.trans a4 (aA 8 h.l)),_,_,_,_,_,(af 0 h.l).at sZZ rfl,(U0 hc (a8.mono (sub.trans a4 (aA 8 h.l))) (e6.mono (sub.trans al (aA 8 h.l))) cI bA ht1).mono ?_⟩⟩;obtain⟨l,hl⟩:∃l,l=fN g t d.2.2:=⟨_,rfl⟩;rw[<-hl];have ci:(AL.set q (b.1,b.2.set t (CR l))).map (·.2)=(AL.map (·.2)).set q (b.2.set t (CR (fN g t (oy d).acts))):=by grind[List.map_set]
 rw[<-ci] at aa;rintro _ fc⟨a9,am,rfl,bP⟩;have h:=St.fb bP h.l;clear bP;refine⟨_,_,_,_,_,rfl,ag h λg6 g7 h=>aL h rfl (by simp[aK]) λeI h=>?_⟩;intro eb b7;have h:=h.drawn b7;obtain⟨fC,d6,dc⟩:=cH (h.pick 5 [4]) (j:=q) (v:=bS b) (by grind);refine⟨λu=>eb=u,rfl,_,_,_,by rintro _ rfl;exact(af 3 h.l).cell0 sZZ,_,by rintro _ rfl;exact(af 2 h.l).cell0 sZZ,ay d6 hq ⟨_,_,_,by rintro _ rfl;exact dc,_,by rintro _ rfl;exact(af 2 h.l).cell sZZ (j:=1) rfl,_,_,by rintro _ rfl;exact(af 0 h.l).at sZZ rfl,?_⟩⟩;refine ae2 (y:=CR l) e0 ω (h.pick 6 [4,5,1,2,3]) λeX h=>?_
 refine ae (λV=>?_) λV=>?_
 ·have V:2<=l.1.length:=by
   have:(0:Int)<((pP l.1).length:Int):=afO V
   grind[pP]
  have d0:pP l.1=l.1:=by unfold pP;grind
  rw[d0] at h ⊢
  have av:UW g (oy d)=[⟨(q:Int),(t:Int),l.1⟩]:=by
   unfold UW;rw[ez]
   show(if 2<=(fN g (t:Int).toNat (gf g nn ss q t)).1.length then _ else _)=_
   rw[afU,<-e3,<-hl,afZ V]
  refine⟨_,_,_,(af 4 h.l).cell sZZ (j:=2) rfl,_,(af 3 h.l).cell0 sZZ,_,(af 3 h.l).cell sZZ (j:=1) rfl,ag h λeD eY h=>?_⟩;refine(aU (us:=E9 X) aT (rfl:ai Ty _=.slice _) (rfl:ai Ty _=.slice _) rfl rfl rfl (h.pick 9 [0,8,1,2,3,5,6,7]) rfl (by simp[aK]) (by grind) ω).mono ?_;rintro _ g8⟨cp,e9,rfl,h⟩;refine⟨_,_,_,rfl,?_⟩;rw[ak];refine aR (i:=2) (h.pick 8 [5,0,2,3,4,6,7]) σ λer h=>?_;refine⟨⟨ω,ω⟩,⟨i+1,_,X++[(((q:Int),(t:Int)),((a9,am),l.1))],cp,e9,σ,J,aa,by rw[af8,b6,cu,av];rfl,?_⟩,bY J⟩;have eC:C_ (X++[(((q:Int),(t:Int)),((a9,am),l.1))])=C_ X++[own 2 a9 l.1.length am (di l.1)]:=by unfold C_;rw[af8];rfl
  rw[eC,MX,show(X++[(((q:Int),(t:Int)),((a9,am),l.1))]).length=X.length+1 from σ];have V:=St.snoc (h.pick 8 [4,7,0,2,3,5,6,1]);exact V.pick 7 [1,2,3,4,5,6,0]
 ·have V:¬2<=l.1.length:=by
   intro hh;have:¬(0:Int)<((pP l.1).length:Int):=afN V;unfold pP at this
   grind
  have av:UW g (oy d)=[]:=by
   unfold UW;rw[ez]
   show(if 2<=(fN g (t:Int).toNat (gf g nn ss q t)).1.length then _ else _)=_
   rw[afU,<-e3,<-hl,afV V]
  refine⟨⟨ω,ω⟩,⟨i+1,_,X,oc,cc,σ,J,aa,by grind,?_⟩,bY J⟩;exact h.pick 9 [4,0,1,5,6,7,8]
end
def afa(g:ah)(e:Int)(nn:List Bool):Prop:=(¬bZ g/\e=1/\nn=[])\/(bZ g/\e=0/\X7 g nn)
theorem TL{w:ahs}{L:List aC}{k n:Nat}{nn:List Bool}(h:St w (az k (bv nn)::L))(hl:nn.length=n):St w (own 1 (some ⟨k,0,none⟩) n n (bv nn)::L):=
 bj (cs:=[]) (vs:=bv nn) (by simp_all) (by rw[qL,hl,agE]) (by rw[agc,qL,hl,agE]) (afR _)
section
variable{w:ahs}{L:List aC}{g:ah}{x:GA}{a a2:ahr}{l l2 c c2:Nat}{bs:List Bool}
theorem Va(hg:gR (hp w) g x)(hb:mi g)(ht:dK (hp w)):ρ 83 [.agg ⟨x.cells⟩] w λv w'=>∃(o:ahr)(n c:Nat)(e:Int)(nn:List Bool),v=.tuple #[vS o n c,iI e]/\nn.length=n/\afa g e nn/\St w' (own 1 o n c (bv nn)::all w):=by
 refine D5 ?_;refine gH hg λk1 w1 gw hg B=>?_;refine⟨_,_,_,_,_,_,_,_,_,_,_,_,_,B.row sZZ,(LV (x:=x) hg hb).mono ?_⟩;rintro _ w2⟨⟨r1,rfl,e1⟩,g2⟩
 refine⟨_,rfl,ae (λh1=>?_) λh1=>?_⟩
 ·refine⟨_,_,_,_,_,_,_,_,_,_,_,_,_,B.row g2,(sx (x:=x) (hg.mono g2) hb).mono ?_⟩;rintro _ a0⟨⟨r2,rfl,e2⟩,a5⟩;have s2:Gr w1 a0:=g2.trans a5
  refine⟨_,rfl,ae (λh2=>?_) λh2=>?_⟩
  ·have hn:¬bZ g:=by
    rintro(h|h)
    ·simp_all
    simp_all
   exact⟨_,_,_,_,[],rfl,rfl,.inl ⟨hn,rfl,rfl⟩,aI 1 (bH (gw.trans s2))⟩
  have V:bZ g:=.inr (e2.1 (by simp_all));obtain⟨iG,bT,bN,pN,pT,bP⟩:=Jc V;intro J hd;have g3:Gr a0 J:=Gr.drawn hd;have U:Gr w1 J:=s2.trans g3;have O:Gr w J:=gw.trans U;refine⟨λw=>Gr J w,Gr.refl _,_,_,_,_,_,_,_,_,_,_,_,_,_,λw s=>B.row (U.trans s),_,_,_,_,_,_,_,_,_,_,_,_,_,λw s=>B.row (U.trans s),(uN (x:=x) (hg.mono U) hb V).mono ?_⟩;rintro _ w4⟨pb,bs,rfl,Y,h4⟩;have Z:Gr J w4:=h4.aQ;refine⟨_,_,rfl,Z,(It (x:=x) (hg.mono (U.trans Z)) hb V h4.eH Y).mono ?_⟩;rintro _ w5⟨a4,cs,rfl,u,h5⟩;have X:Gr J w5:=Z.trans h5.aQ;refine⟨_,_,rfl,X,(X6 h5.eH u.1 bN bT (ec.mono (O.trans X) ht)).mono ?_⟩;rintro _ w6⟨k,rfl,W⟩;have g6:Gr J w6:=X.trans W.aQ;have W:St w6 (az k (bv (cs.drop g.T))::all w):=W.fb (bH (O.trans X));exact⟨_,_,_,rfl,g6,_,_,_,_,_,rfl,u.cM.1,.inr ⟨V,rfl,u.cM⟩,TL W u.cM.1⟩
 ·have V:bZ g:=.inl (e1.1 (by simp_all));obtain⟨iG,bT,bN,pN,pT,bP⟩:=Jc V;have s2:Gr w1 w2:=g2;intro J hd;have g3:Gr w2 J:=Gr.drawn hd;have U:Gr w1 J:=s2.trans g3;have O:Gr w J:=gw.trans U;refine⟨λw=>Gr J w,Gr.refl _,_,_,_,_,_,_,_,_,_,_,_,_,_,λw s=>B.row (U.trans s),_,_,_,_,_,_,_,_,_,_,_,_,_,λw s=>B.row (U.trans s),(uN (x:=x) (hg.mono U) hb V).mono ?_⟩;rintro _ w4⟨pb,bs,rfl,Y,h4⟩;have Z:Gr J w4:=h4.aQ;refine⟨_,_,rfl,Z,(It (x:=x) (hg.mono (U.trans Z)) hb V h4.eH Y).mono ?_⟩;rintro _ w5⟨a4,cs,rfl,u,h5⟩;have X:Gr J w5:=Z.trans h5.aQ;refine⟨_,_,rfl,X,(X6 h5.eH u.1 bN bT (ec.mono (O.trans X) ht)).mono ?_⟩;rintro _ w6⟨k,rfl,W⟩;have g6:Gr J w6:=X.trans W.aQ;have W:St w6 (az k (bv (cs.drop g.T))::all w):=W.fb (bH (O.trans X));exact⟨_,_,_,rfl,g6,_,_,_,_,_,rfl,u.cM.1,.inr ⟨V,rfl,u.cM⟩,TL W u.cM.1⟩
end
theorem YX{g:ah}{pds uns:List Bool}{p:aO}:u9 g pds uns p=true↔bt uns (p.left.toNat-g.T)=true/\aaI g pds p.right:=by simp[u9,aaI]
theorem C9{α β:Type}{f:α->β}{l:List α}(hf:∀a∈l,∀b∈l,f a=f b->a=b)(h:l.Nodup):(l.map f).Nodup:=by
 unfold List.Nodup at*;rw[agz];exact h.imp_of_mem λ{a b} ha hb u e=>u (hf a ha b hb e)
theorem TM{uns:List Bool}{n k:Nat}(hk:k<n)(hu:bt uns k=true):∃i,(dj n (bt uns))[i]? =some k/\i=de k (bt uns)/\i<de n (bt uns):=by
 have O:k∈dj n (bt uns):=by simp_all[dj]
 obtain⟨i,hi,e⟩:=List.mem_iff_getElem.1 O;have u:(dj n (bt uns))[i]? =some k:=by simp_all
 obtain⟨_,_,J⟩:=yF u;have hl:=congrArg List.length J
 grind[List.length_take,mh]
theorem abv{uns:List Bool}{n i:Nat}(hi:i<de n (bt uns)):∃k,k<n/\bt uns k=true/\de k (bt uns)=i:=by
 have hl:i<(dj n (bt uns)).length:=by simp_all[mh]
 obtain⟨U,O,u⟩:=yF (afJ hl);have J:=congrArg List.length u
 grind[List.length_take,mh]
theorem Us.pd{g:ah}(hv:mj g){s:Int}(h:Us g s):Pd g s:=by
 cases h with
 |start h=>omega
 |zero hc _=>exact absurd hc.1 (O0 hv).2.2.2
 |pr p s hp _ hr hs=>exact hr s hs
theorem Us.nt{g:ah}(hv:mj g){s:Int}(h:Pd g s)(hT:(g.T:Int)<=s):∃p∈g.prods,p.left=s/\Zm g p.right:=by
 cases h with
 |tm t ht=>omega
 |mk p hp hr=>exact⟨p,hp,rfl,hr⟩
section
variable{g:ah}{pds uns:List Bool}
theorem ab3:(ia g pds uns).N=1+de g.N (bt uns):=by
 show(d_ g uns).length=_
 grind[d_,List.length_cons,List.length_map,mh]
theorem RR(hun:X7 g uns){s:Int}(hT:(g.T:Int)<=s)(h:Us g s):fG g.T uns s=(g.T:Int)+1+(de (s.toNat-g.T) (bt uns):Int)/\bt uns (s.toNat-g.T)=true:=by
 have u:bt uns (s.toNat-g.T)=true:=(hun.2 _).2 (by grind);unfold fG
 grind
theorem RS(he:bZ g)(hun:X7 g uns){s:Int}(hT:(g.T:Int)<=s)(h:Us g s):(g.T:Int)+1<=fG g.T uns s/\fG g.T uns s<(g.T:Int)+1+de g.N (bt uns):=by
 obtain⟨e,u⟩:=RR hun hT h;have:=(h.in he).2;obtain⟨i,_,J,O⟩:=TM (n:=g.N) (k:=s.toNat-g.T) ω u;omega
theorem Gy(hpd:Vt g pds)(hun:X7 g uns)(iG:SV g){p:aO}(hp:p∈g.prods):u9 g pds uns p=true↔Us g p.left/\Zm g p.right:=by
 obtain⟨hl,u⟩:=iG p hp;rw[YX,hun.2,afw hl.1,hpd.fit u]
theorem I0(hv:mj g)(hp:Pd g g.start)(hpd:Vt g pds)(hun:X7 g uns):ax (ia g pds uns):=by
 have he:bZ g:=.inl hv;obtain⟨iG,bT,bN,pN,pT,bP⟩:=Jc he;obtain⟨a0,bb⟩:=tF he;obtain⟨⟨a1,a2,a3,a4,a5,a6,a7,a8,a9,be⟩,⟨c1,c2,c3,c4,c5,c6⟩,_⟩:=id hv;have b6:g.N=g.cM.length:=rfl;have b2:Us g g.start:=.start hp;have b8:=RS he hun a0 b2;have bi:de g.N (bt uns)<=g.N:=DD _ _;have ba:0<de g.N (bt uns):=ω
 have U:=ab3 (g:=g) (pds:=pds) (uns:=uns);have b4:(ia g pds uns).cM.length=1+de g.N (bt uns):=U
 have u:∀q,q∈(ia g pds uns).prods.drop 1↔∃p∈g.prods,(Us g p.left/\Zm g p.right)/\q=jt g uns p:=λq=>by
  show q∈kv g pds uns g.prods↔_
  unfold kv;rw[afW]
  constructor
  ·rintro⟨p,O,rfl⟩;rw[agi] at O;exact⟨p,O.1,(Gy hpd hun iG O.1).1 O.2,rfl⟩
  ·rintro⟨p,O,hk,rfl⟩;exact⟨p,agi.2 ⟨O,(Gy hpd hun iG O).2 hk⟩,rfl⟩
 have bl:∀{n:Nat},n=(kv g pds uns g.prods).length->n<=g.prods.length:=λh=>by simp_all[kv,agp]
 have av:∀k,k<g.N->g.cM[k]? =some (zV g k):=λk hk=>by simp_all[zV]
 refine⟨rfl,⟨a1,ω,a3,ω,by grind[ia],a6,a7,a8,?_,?_⟩,⟨?_,?_,?_,?_,?_,?_⟩,⟨lh g uns,rfl,rfl,rfl,rfl⟩⟩
 ·show((dj g.N (bt uns)).map (zV g)).Nodup
  have Y:(dj g.N (bt uns)).Nodup:=by unfold dj;exact List.nodup_range.filter _
  refine C9 ?_ Y;intro i hi j hj e;unfold dj at hi hj;rw[agi,agd] at hi hj
  grind[List.getElem?_eq_getElem,Option.some.inj,List.pairwise_iff_getElem,Nat.lt_trichotomy,absurd]
 ·intro s hs;have hs:s∈(dj g.N (bt uns)).map (zV g):=hs;obtain⟨k,hk,rfl⟩:=afW.1 hs
  grind[dj,List.mem_of_getElem?]
 ·obtain⟨p,J,am,Z⟩:=Us.nt hv hp a0;have:jt g uns p∈(ia g pds uns).prods.drop 1:=(u _).2 ⟨p,J,⟨by simp_all,Z⟩,rfl⟩
  grind
 ·show(lh g uns::kv g pds uns g.prods).length<=96+1
  grind
 ·intro q hq;obtain⟨p,J,⟨hu,hr⟩,rfl⟩:=(u q).1 hq;obtain⟨W,b5⟩:=iG p J;have hn:=RS he hun W.1 hu;have X:=c3 p (by simp_all)
  refine⟨⟨hn.1,?_,X.1.2.2.1,X.1.2.2.2⟩,λs hs=>?_⟩
  ·show fG g.T uns p.left<((ia g pds uns).T:Int)+(ia g pds uns).N
   rw[U];have:(ia g pds uns).T=g.T:=rfl;omega
  ·obtain⟨y,hy,rfl⟩:=afW.1 hs;have al:=X.2 y hy;have aa:(ia g pds uns).T=g.T:=rfl;unfold oW;rw[U,aa]
   by_cases hT:y<(g.T:Int)
   ·have:fG g.T uns y=y:=by simp_all[fG]
    rw[this];exact⟨al.1,ω,ω⟩
   ·have b3:Us g y:=.pr p y J hu hr hy;have:=RS he hun ω b3;omega
 ·show((fo (((ia g pds uns).prods.drop 1).map aO.left)).length:Int)=_
  have V:∀y,y∈fo (((ia g pds uns).prods.drop 1).map aO.left)↔y∈(List.range (de g.N (bt uns))).map λ(c:Nat)=>(g.T:Int)+1+(c:Int):=λy=>by
   rw[QF,afW,afW]
   constructor
   ·rintro⟨q,hq,rfl⟩;obtain⟨p,J,⟨hu,hr⟩,rfl⟩:=(u q).1 hq;have W:=(iG p J).1;obtain⟨e,ad⟩:=RR hun W.1 hu;obtain⟨i,_,h2,h3⟩:=TM (n:=g.N) (k:=p.left.toNat-g.T) ω ad;exact⟨i,agd.2 h3,by show _=fG g.T uns p.left;omega⟩
   ·rintro⟨c,hc,rfl⟩;obtain⟨k,b7,b1,bc⟩:=abv (agd.1 hc);have hU:Us g ((g.T+k:Nat):Int):=(hun.2 k).1 b1;obtain⟨p,J,am,Z⟩:=Us.nt hv (hU.pd hv) ω;refine⟨jt g uns p,(u _).2 ⟨p,J,⟨by simp_all,Z⟩,rfl⟩,?_⟩
    show fG g.T uns p.left=_
    grind[RR]
  have Y:((List.range (de g.N (bt uns))).map λ(c:Nat)=>(g.T:Int)+1+(c:Int)).Nodup:=
   C9 (λa _ b _ h=>ω) List.nodup_range
  have h1:=BM (LU _) λy hy=>(V y).1 hy;have h2:=BM Y λy hy=>(V y).2 hy
  grind
 ·show(g.T:Int)+(1:Nat)<=fG g.T uns g.start
  omega
 ·show fG g.T uns g.start<((ia g pds uns).T:Int)+(ia g pds uns).N
  rw[U];have:(ia g pds uns).T=g.T:=rfl;omega
theorem ad6(hv:mj g)(hb:mi g):mi (ia g pds uns):=by
 obtain⟨iG,bT,bN,pN,pT,bP⟩:=Jc (.inl hv);obtain⟨Y,b2,X,b4,U,W,b7⟩:=id hb;have V:de g.N (bt uns)<=g.N:=DD _ _;have O:(ia g pds uns).cM.length=1+de g.N (bt uns):=ab3
 refine⟨Y,ω,X,?_,U,λs u=>?_,λp hp=>?_⟩
 ·show(lh g uns::kv g pds uns g.prods).length*40<=_
  grind[kv,List.length_map,List.length_filter_le,List.length_cons]
 ·have u:s∈ByteArray.empty::(dj g.N (bt uns)).map (zV g):=u
  rcases af6.1 u with rfl|u
  ·simp
  ·obtain⟨k,J,rfl⟩:=afW.1 u;unfold dj at J;rw[agi,agd] at J;refine W _ ?_;have l:k<g.cM.length:=J.1
   simp_all[zV]
 ·have hp:p∈lh g uns::kv g pds uns g.prods:=hp
  rcases af6.1 hp with rfl|hp
  ·show(1:Nat)<=_;omega
  ·unfold kv at hp;obtain⟨q,Z,rfl⟩:=afW.1 hp;rw[agi] at Z
   show(q.right.map _).length<=_
   simp_all
end
section
variable{g:ah}{pds uns:List Bool}
theorem ad7{T:Nat}{s:Int}(h:s<(T:Int)):fG T uns s=s:=by simp_all[fG]
theorem Vb(hpd:Vt g pds)(hun:X7 g uns)(iG:SV g){p:aO}(hp:p∈g.prods)(hu:Us g p.left)(hr:Zm g p.right):jt g uns p∈(ia g pds uns).prods:=by
 refine agO _ ?_
 show jt g uns p∈kv g pds uns g.prods
 unfold kv;exact afW.2 ⟨p,agi.2 ⟨hp,(Gy hpd hun iG hp).2 ⟨hu,hr⟩⟩,rfl⟩
theorem YY(hpd:Vt g pds)(hun:X7 g uns)(iG:SV g){s:Int}(h:Pd g s):(s<(g.T:Int)\/Us g s)->Pd (ia g pds uns) (fG g.T uns s):=by
 induction h with
 |tm t ht=>intro _;rw[ad7 ω];exact .tm t ht
 |mk p hp hr ih=>
  intro u;have hl:=(iG p hp).1;have u:Us g p.left:=u.resolve_left ω;refine .mk (jt g uns p) (Vb hpd hun iG hp u hr) λy O=>?_;obtain⟨s,J,rfl⟩:=afW.1 O;exact ih s J (.inr (.pr p s hp u hr J))
end
section
variable{g:ah}{pds uns:List Bool}{row:List Int}
def J8(g:ah)(pds:List Bool):List aO:=g.prods.filter λp=>p.right.all λs=>decide (s<(g.T:Int))||bt pds (s.toNat-g.T)
theorem TN(iG:SV g)(hpd:Vt g pds){p:aO}:p∈J8 g pds↔p∈g.prods/\Zm g p.right:=by
 unfold J8;rw[agi];refine and_congr_right λhp=>?_;rw[<-hpd.fit (iG p hp).2,ag1];simp[aaI]
theorem abw(hv:mj g)(hp:Pd g g.start)(hpd:Vt g pds)(hun:X7 g uns){pdc:List Bool}(hpc:Vt (ia g pds uns) pdc):J8 (ia g pds uns) pdc=(ia g pds uns).prods:=by
 have Z:bZ g:=.inl hv;obtain⟨W,bT,bN,pN,pT,bP⟩:=Jc Z;have U:=I0 hv hp hpd hun;obtain⟨V,_⟩:=Jc (.inr U);unfold J8;rw[List.filter_eq_self];intro q O;have hm:q∈J8 (ia g pds uns) pdc↔_:=TN V hpc
 have a0:Zm (ia g pds uns) q.right:=by
  have O:q∈lh g uns::kv g pds uns g.prods:=O
  rcases af6.1 O with rfl|O
  ·intro s J;have J:s∈[fG g.T uns g.start]:=J;rw[af_] at J;rw[J];exact YY hpd hun W hp (.inr (.start hp))
  ·unfold kv at O;obtain⟨p,u,rfl⟩:=afW.1 O;rw[agi] at u;obtain⟨hu,X⟩:=(Gy hpd hun W u.1).1 u.2;intro s J;obtain⟨z,Y,rfl⟩:=afW.1 J;exact YY hpd hun W (X z Y) (.inr (.pr p z u.1 hu X Y))
 simp_all[J8]
end
section
variable{g:ah}{nn:List Bool}{ss:List SQ}{p:dH}
theorem Gz{q t:Nat}(h:(pQ g nn ss q t).kind≠0)(h4:(pQ g nn ss q t).kind≠4):pQ g nn ss q t∈gf g nn ss q t:=by
 unfold pQ at h h4 ⊢;have u:=λx=>Lc (g:=g) (t:=t) (l:=gf g nn ss q t) (x:=x);revert h h4 u;generalize fN g t (gf g nn ss q t)=r;intro h h4 u;obtain⟨l,b⟩:=r;cases l with
 |nil=>cases b<;>simp[CR] at h h4
 |cons a l=>exact u a (List.mem_cons_self ..)
theorem I_{q t:Nat}{x:aE}(h:x∈gf g nn ss q t):(x.kind=1/\dm ss q (t:Int)=some x.to)\/(x.kind=3/\x.to=0/\t=0/\∃r,ss[q]? =some r/\(⟨0,1⟩:au)∈r.1.2)\/(x.kind=2/\∃l∈dt g nn ss,l.st=(q:Int)/\l.prod=x.to/\(t:Int)∈l.tm):=by
 unfold gf at h
 rcases afT.1 h with h|h
 ·rcases afT.1 h with h|h
  ·grind[Pf]
  ·obtain⟨rfl,u,J⟩:=Pg h
   simp_all
 grind[Ph]
theorem TO(hc:ax g)(hA:bR g ss)(hn:u6 g nn){q t:Nat}{x:aE}(h:x∈gf g nn ss q t)(hk:x.kind=2):∃(m:Nat)(p:aO),x.to=m/\m≠0/\g.prods[m]? =some p/\∃r,ss[q]? =some r/\wi g r.1.2 ⟨(m:Int),(p.right.length:Int)⟩:=by
 rcases I_ h with⟨J,_⟩|⟨J,_⟩|⟨_,l,hl,J,O,W⟩
 ·omega
 ·omega
 ·obtain⟨U,m,_,V,u,rfl⟩:=CH hl;have J:(U:Int)=q:=J;have O:(m:Int)=x.to:=O;have:U=q:=ω
  subst this;obtain⟨z,_,_,X⟩:=(Ya hc hA hn (afJ V) u).1 W;exact⟨m,_,O.symm,u,afJ V,(X.inv hc hA hn).it⟩
theorem YZ(hc:ax g)(hA:bR g ss)(hn:u6 g nn)(q t:Nat):Ex ss.length (pQ g nn ss q t):=by
 have Z:=hc.cX
 by_cases h:(pQ g nn ss q t).kind=0\/(pQ g nn ss q t).kind=4
 ·have:pQ g nn ss q t=⟨0,0⟩\/pQ g nn ss q t=⟨4,0⟩\/pQ g nn ss q t∈gf g nn ss q t:=by
   unfold pQ;have U:=λx=>Lc (g:=g) (t:=t) (l:=gf g nn ss q t) (x:=x);revert U;generalize fN g t (gf g nn ss q t)=r;intro U;obtain⟨l,b⟩:=r;cases l with
   |nil=>cases b<;>simp[CR]
   |cons a l=>exact .inr (.inr (U a (List.mem_cons_self ..)))
  rcases this with e|e|e
  ·rw[e];exact .inl ⟨rfl,rfl⟩
  ·rw[e];exact .inr (.inr (.inr (.inr ⟨rfl,rfl⟩)))
  ·rcases I_ e with⟨u,_⟩|⟨u,_⟩|⟨u,_⟩<;>omega
 ·have J:=Gz (λe=>h (.inl e)) (λe=>h (.inr e))
  rcases I_ J with⟨u,O⟩|⟨u,O,_⟩|⟨u,_⟩
  ·have:=fe hc hA O;exact .inr (.inl ⟨u,ω,ω⟩)
  ·exact .inr (.inr (.inr (.inl ⟨u,O⟩)))
  ·obtain⟨m,Y,X,W,V,_⟩:=TO hc hA hn J u;have:=(afK.1 V).1;exact .inr (.inr (.inl ⟨u,ω,ω⟩))
theorem abx{q t:Nat}(hq:q<ss.length)(ht:t<g.T):∃l,(CS g nn ss)[q]? =some l/\l[t]? =some (pQ g nn ss q t):=by
 unfold CS
 simp_all
theorem TP{q n:Nat}(hq:q<ss.length)(hn:n<g.N):∃l,(Ez g ss)[q]? =some l/\l[n]? =some (Cq ss q ((g.T+n:Nat):Int)):=by
 unfold Ez
 simp_all
theorem Y0(hc:ax g)(hA:bR g ss)(hn:u6 g nn):Yy (CS g nn ss) (Ez g ss) g.T g.N:=by
 have U:=hc.cX;have hp:=hA.pos;have J:=hA.dn.2.1;have hl:(CS g nn ss).length=ss.length:=by simp[CS]
 refine⟨ω,ω,by simp[Ez,CS],ω,ω,ω,ω,λl u=>?_,λl u=>?_⟩
 ·obtain⟨q,_,rfl⟩:=afW.1 u;refine⟨σ,λa ha=>?_⟩;obtain⟨t,_,rfl⟩:=afW.1 ha
  simp_all[YZ]
 ·obtain⟨q,_,rfl⟩:=afW.1 u;refine⟨σ,λz O=>?_⟩;obtain⟨j,_,rfl⟩:=afW.1 O;rw[hl];unfold Cq;cases hx:dm ss q ((g.T+j:Nat):Int) with
  |none=>grind
  |some z=>have:=fe hc hA hx;grind
abbrev pA(p:dH)(q:Nat)(t:Int):aE:=bX p q t
def pG(g:ah)(p:dH)(q:Nat)(s:Int):Nat:=(dI p q (s-g.T)).toNat
variable(hc:ax g)(hA:bR g ss)(hn:u6 g nn)(hP:E_ (CS g nn ss) (Ez g ss) g.N p)
include hc hA hn hP
theorem Y2{q t:Nat}(hq:q<ss.length)(ht:t<g.T):((pQ g nn ss q t).kind≠0/\bX p q t=pQ g nn ss q t)\/((pQ g nn ss q t).kind=0/\(bX p q t=⟨0,0⟩\/∃t'<g.T,(pQ g nn ss q t').kind=2/\bX p q t=pQ g nn ss q t')):=by
 obtain⟨l,u,J⟩:=abx (nn:=nn) hq ht;have O:=((Y0 hc hA hn).a l (afI u)).2
 rcases hP.act u J O with⟨k,e⟩|⟨k,e|⟨b,hb,U,e⟩⟩
 ·simp_all
 ·simp_all
 grind[List.getElem?_of_mem,List.range,pQ,CS,List.getElem?_range,Option.some.inj,List.getElem?_eq_none]
theorem ab4{q:Nat}{s j:Int}(hs:(g.T:Int)<=s)(h:dm ss q s=some j):dI p q (s-g.T)=j:=by
 have X:=adQ hc hA h;have W:=fe hc hA h;obtain⟨n,u⟩:∃n:Nat,s=((g.T+n:Nat):Int):=⟨(s-g.T).toNat,ω⟩;subst u;have O:=Yb h;obtain⟨l,U,V⟩:=TP (g:=g) (n:=n) O ω;have e:Cq ss q ((g.T+n:Nat):Int)=j:=by simp_all[Cq]
 rw[e] at V;have J:((g.T+n:Nat):Int)-(g.T:Int)=(n:Int):=ω
 rw[J];exact hP.tgt U ω (by simp_all) ω
theorem ad8(hb:mi g):IP g ss (pA p) (pG g p) (Ez g ss) p:=by
 refine⟨hc,hA,hb,⟨?_,?_,?_,?_⟩,⟨λq t=>rfl,?_⟩,?_⟩
 ·intro q t O ht u;have u:(bX p q t).kind=1:=u
  show dm ss q (t:Int)=some (bX p q t).to
  rcases Y2 hc hA hn hP O ht with⟨k,e⟩|⟨k,e|⟨J,_,V,e⟩⟩
  ·rw[e] at u ⊢
   rcases I_ (Gz k ω) with⟨_,h⟩|⟨h,_⟩|⟨h,_⟩
   ·omega
   ·omega
   omega
  ·simp_all
  simp_all
 ·intro q t r Y ht u;have O:=(afK.1 Y).1;have u:(bX p q t).kind=2:=u
  have key:∀J,(pQ g nn ss q J).kind=2->bX p q t=pQ g nn ss q J->∃(m:Nat)(Z:aO),(bX p q t).to=m/\m≠0/\g.prods[m]? =some Z/\wi g r.1.2 ⟨(m:Int),(Z.right.length:Int)⟩:=λJ V e=>by
   obtain⟨m,Z,e1,e2,e3,r',W,e4⟩:=TO hc hA hn (Gz ω ω) V
   grind
  rcases Y2 hc hA hn hP O ht with⟨k,e⟩|⟨k,e|⟨J,_,V,e⟩⟩
  ·simp_all
  ·simp_all
  simp_all
 ·intro q t r Y ht u;have O:=(afK.1 Y).1;have u:(bX p q t).kind=3:=u
  rcases Y2 hc hA hn hP O ht with⟨k,e⟩|⟨k,e|⟨J,_,V,e⟩⟩
  ·rw[e] at u
   rcases I_ (Gz k ω) with⟨h,_⟩|⟨_,_,h1,r',W,h2⟩|⟨h,_⟩
   ·omega
   ·simp_all
   omega
  ·simp_all
  simp_all
 ·grind[pG,ab4]
 ·rintro q s⟨j,U⟩ hs;unfold pG;rw[ab4 hc hA hn hP hs U];have:=fe hc hA U;omega
 ·intro q n j X U;obtain⟨l,h1,h2⟩:=TP (g:=g) (n:=n) (Yb U) X
  simp_all[Cq]
end
def afb(c:ah):Prop:=∀pdc,Vt c pdc->J8 c pdc=c.prods
structure PV(c:ah):Prop where
 hc:ax c
 hb:mi c
 ha:afb c
theorem RT{g:ah}{uns:List Bool}(hc:ax g)(hu:X7 g uns)(h:false∉uns):afb g:=λJ u=>by
 obtain⟨X,bT,bN,pN,pT,bP⟩:=Jc (.inr hc)
 unfold J8
 rw[List.filter_eq_self]
 intro q hq
 have a0:Zm g q.right:=λs W=>by
  have hi:=(X q hq).2 s W
  by_cases hT:s<(g.T:Int)
  ·obtain⟨t,rfl⟩:∃t:Nat,s=t:=⟨s.toNat,ω⟩
   exact .tm t ω
  ·obtain⟨i,rfl⟩:∃i:Nat,s=((g.T+i:Nat):Int):=⟨(s-g.T).toNat,ω⟩
   have hb:bt uns i=true:=by
    have Y:i<uns.length:=by rw[hu.1];omega
    grind[bt,List.getElem?_eq_none_iff,absurd,List.mem_of_getElem?]
   have U:=(hu.2 i).1 hb
   generalize ((g.T+i:Nat):Int)=s at U
   cases U with
   |start h=>omega
   |zero hc' h=>
    obtain⟨_,_,_,Z,O,hl,V,_⟩:=hc
    have:=Pd.mk Z (afI O) (λs W=>by simp_all)
    simp_all
   |pr p s hp _ V hs'=>exact V _ hs'
 have hm:q∈J8 g J↔_:=TN X u
 simp_all[J8]
structure afD(c:ah)(ss:List SQ)(nn:List Bool)(As:List (List aE))(Gs:List (List Int))(Cs:List cK)(p:dH)(clr:Bool):Prop where
 s:PV c
 A:bR c ss
 n:u6 c nn
 dA:As=CS c nn ss
 dG:Gs=Ez c ss
 dC:Cs=RI c nn ss
 P:E_ As Gs c.N p
 cl:clr=true↔pD c nn ss 2=[]
 cy:OnL (Stp c) c.N []
section
variable{w:ahs}{L:List aC}{g:ah}{x:GA}
theorem aby{bs:List Bool}{o:ahr}{n c:Nat}(hr:aY (hp w) bs o n)(hn:n<=1000000):ρ 84 [vS o n c,vB false] w λv w'=>(∃b,v=vB b/\(b=false->false∉bs))/\w'=w:=by
 have hl:=hr.1
 refine l8 ((@nV _ _ _ _ w (λv w'=>∃z:Int,v=iI z/\(z<0->false∉bs)/\w'=w) ⟨λz u=>∃j:Nat,z=j/\j<=n/\false∉bs.take j/\u=w,λz _=>n-z.toNat,⟨0,rfl,afL _,σ,rfl⟩,?_⟩).mono ?_)
 ·rintro _ _ U⟨j,rfl,V,hb,rfl⟩
  refine ae (λJ=>?_) λJ=>?_
  ·have J:j<n:=by simp_all
   obtain⟨b,W,Y,ha,hc⟩:=hr.dS J;refine ay ha J ⟨_,hc U sZZ,ae (λO=>⟨_,rfl,λh=>ω,rfl⟩) λO=>⟨⟨ω,ω⟩,⟨j+1,σ,J,λX=>?_,rfl⟩,bY J⟩⟩
   simp_all[afM]
  grind
 simp
theorem ad9(hg:gR (hp w) g x)(hb:mi g)(ht:dK (hp w)):ρ 39 [.agg ⟨x.cells⟩] w λv w'=>∃(x':GA)(c:ah)(os:List (ahr×Nat))(e:Int),v=.tuple #[.agg ⟨x'.cells⟩,iI e]/\BO c x'/\os.length=c.prods.length/\(e=0->PV c)/\St w' (vm c x' os++all w):=by
 refine IA (gH hg λk1 w1 gw a8 B=>ag (St.all w1) λk2 w2 h=>?_);have am:Gr w1 w2:=h.aQ;refine⟨_,_,_,_,_,_,_,_,_,_,_,_,_,B.row am,(sx (a8.mono am) hb).mono ?_⟩;rintro _ w3⟨⟨r,rfl,hr⟩,g3⟩;have h:=h.gr g3;have J:Gr w1 w3:=h.aQ
 --a grammar is handed out
 have fin:∀{u:ahs}{x':GA}{c:ah}{os:List (ahr×Nat)}{e:Int},BO c x'->os.length=c.prods.length->(e=0->PV c)->St u (vm c x' os++(az k2 z5::all w1))->bC u (aM k2) [vS x'.ta x'.tl x'.tc,vS x'.na x'.nl x'.nc,vS x'.la x'.ll x'.lc,iI x'.s,vS x'.pa x'.pl x'.pc] λw5=>∃a5 a7 Z V Y W a4 X a6 n5 O U a0,rowAt w5 (aM k2) 0 5=some [vS a5 a7 Z,vS V Y W,vS a4 X a6,iI n5,vS O U a0]/\
   ∃(x':GA)(c:ah)(os:List (ahr×Nat))(e':Int),(.tuple #[.agg #[vS a5 a7 Z,vS V Y W,vS a4 X a6,iI n5,vS O U a0],iI e]:Value)=.tuple #[.agg ⟨x'.cells⟩,iI e']/\BO c x'/\os.length=c.prods.length/\(e'=0->PV c)/\St w5 (vm c x' os++all w):=λ{u x' c os e} hx ho he h=>by
  refine aL (St.pick (show St u (_::_::_::_::_::_::all w1) from h) 6 [5,0,1,2,3,4]) rfl (by simp[aK]) λw5 h=>?_;have r5:aj (hp w5) (aM k2) [vS x'.ta x'.tl x'.tc,vS x'.na x'.nl x'.nc,vS x'.la x'.ll x'.lc,iI x'.s,vS x'.pa x'.pl x'.pc]:=af 0 h.l;exact⟨_,_,_,_,_,_,_,_,_,_,_,_,_,r5.at sZZ rfl,x',c,os,e,rfl,hx,ho,he,St.on (N:=[_,_,_,_,_]) h.tail (bH gw)⟩
 have none:∀{u:ahs}{e:Int},e≠0->St u (az k2 z5::all w1)->bC u (aM k2) z5 λw5=>∃a5 a7 Z V Y W a4 X a6 n5 O U a0,rowAt w5 (aM k2) 0 5=some [vS a5 a7 Z,vS V Y W,vS a4 X a6,iI n5,vS O U a0]/\
   ∃(x':GA)(c:ah)(os:List (ahr×Nat))(e':Int),(.tuple #[.agg #[vS a5 a7 Z,vS V Y W,vS a4 X a6,iI n5,vS O U a0],iI e]:Value)=.tuple #[.agg ⟨x'.cells⟩,iI e']/\BO c x'/\os.length=c.prods.length/\(e'=0->PV c)/\St w5 (vm c x' os++all w):=λhe h=>fin (x':=noG) (c:=nF) (os:=[]) ⟨rfl,rfl,rfl,rfl,rfl⟩ rfl (λh=>absurd h he) (MP h)
 refine⟨_,rfl,ae (λh1=>?_) λh1=>?_⟩
 ·refine⟨_,_,_,_,_,_,_,_,_,_,_,_,_,B.row J,(Yd (a8.mono J) hb (ec.mono (gw.trans J) ht)).mono ?_⟩;rintro _ w4⟨x',G,os,e,rfl,hx,ho,hR,h4⟩;refine⟨_,_,_,_,_,_,_,_,_,_,_,_,_,_,rfl,fin hx ho (λhe=>?_) (St.on (N:=[_,_,_,_,_]) h4 h.l)⟩
  rcases hR with⟨_,h,_⟩|⟨_,_,h,_⟩|⟨hv,hP,_,pds,uns,aa,ad,rfl⟩
  ·omega
  ·omega
  ·exact⟨I0 hv hP aa ad,ad6 hv hb,λb5 av=>abw hv hP aa ad av⟩
 have a9:ax g:=hr.1 (by grind);refine⟨_,_,_,_,_,_,_,_,_,_,_,_,_,B.row J,(Va (a8.mono J) hb (ec.mono (gw.trans J) ht)).mono ?_⟩;rintro _ w6⟨o,n,c',e,nn,rfl,b2,hU,h6⟩
 rcases hU with⟨hn,_⟩|⟨_,rfl,hU⟩
 ·exact absurd (.inr a9) hn
 have h:=St.fb h6 h.l;have al:Gr w1 w6:=aA 2 h.l;have hs:=a9.cX;have b6:n=g.N:=by rw[<-b2];exact hU.1
 refine⟨_,_,_,_,rfl,bn rfl ((aby (Sy h) ω).mono ?_)⟩;rintro _ w8⟨⟨b,rfl,b1⟩,rfl⟩;refine⟨_,rfl,ae (λh2=>none σ h.tail) λh2=>?_⟩;refine⟨_,_,_,_,_,_,_,_,_,_,_,_,_,B.row al,(Yg (a8.mono al) hb (by have:g.T=g.terms.length:=rfl;omega) (by have:g.N=g.cM.length:=rfl;omega)).mono ?_⟩;rintro _ b4⟨x',os,rfl,hx,ho,b3⟩;exact⟨_,_,_,_,_,_,_,_,_,_,_,_,_,rfl,fin hx ho (λ_=>⟨a9,hb,RT a9 hU (b1 h2)⟩) (St.on (N:=[_,_,_,_,_]) b3 h.tail.l)⟩
end
theorem Vc{CL:List E8}{o:ahr}{n c:Nat}{h h1 h2:Hp}(s1:sub h1 h)(a1:own 3 o n c (E9 CL) h1)(s2:sub h2 h)(a2:aV (C_ CL) h2):aY h (CL.map oy) o n:=by
 have hl:CL.length=n:=by grind[IL,MW]
 refine⟨by simp_all,λi x J=>?_⟩;rw[afQ] at J;cases hb:CL[i]? with
 |none=>simp_all
 |some b=>
  rw[hb] at J;cases J;obtain⟨V,U,u⟩:=kP (A:=bG 2 di b.2) (afW.2 ⟨b,afI hb,rfl⟩) a2
  rcases bK a1 with e|⟨O,e,hc⟩
  ·have:=congrArg List.length e
   grind[MW,List.length_nil,List.getElem?_eq_some_iff]
  ·exact⟨O,_,e,(cG (f:=ckE) (n:=3) (λ_=>rfl) CL O hc i b hb).mono s1,_,_,rfl,(CO rfl (bK u)).mono (U.trans s2)⟩
theorem pkH{p:dH}{x:PA}{L:List aC}{h:Hp}{As:List (List aE)}{Gs:List (List Int)}{N:Nat}(hs:aG (pkL p x L) h)(hI:E_ As Gs N p)(hB:PkB p):UM h p x:=by
 have W:=hI.ac.c.lv;have Z:=hI.gt.c.lv;have b1:=hB.a1;have b2:=hB.g1;have ln:∀{i:Nat}{o:ahr}{n c:Nat}{xs:List Int},(∃u,sub u h/\own 1 o n c (iv xs) u)->xs.length=n:=λ⟨_,_,a⟩=>by grind[IL,cZ]
 have J:=ln (i:=0) (Bi (A:=own 1 x.d.1 x.d.2.1 x.d.2.2 (iv p.df)) 0 hs);have X:=ln (i:=0) (Bi (A:=own 1 x.a1.1 x.a1.2.1 x.a1.2.2 (iv p.ac.bs)) 1 hs);have O:=ln (i:=0) (Bi (A:=own 1 x.a2.1 x.a2.2.1 x.a2.2.2 (iv p.ac.vs)) 2 hs);have Y:=ln (i:=0) (Bi (A:=own 1 x.a3.1 x.a3.2.1 x.a3.2.2 (iv p.ac.os)) 3 hs);have e4:=ln (i:=0) (Bi (A:=own 1 x.t.1 x.t.2.1 x.t.2.2 (iv p.tg)) 4 hs);have U:=ln (i:=0) (Bi (A:=own 1 x.g1.1 x.g1.2.1 x.g1.2.2 (iv p.gt.bs)) 5 hs);have e6:=ln (i:=0) (Bi (A:=own 1 x.g2.1 x.g2.2.1 x.g2.2.2 (iv p.gt.vs)) 6 hs);have V:=ln (i:=0) (Bi (A:=own 1 x.g3.1 x.g3.2.1 x.g3.2.2 (iv p.gt.os)) 7 hs);exact⟨bp J (dE 0 hs),⟨bp X (dE 1 hs),bp O (dE 2 hs),bp Y (dE 3 hs),ω,ω,hB.a2⟩,bp e4 (dE 4 hs),⟨bp U (dE 5 hs),bp e6 (dE 6 hs),bp V (dE 7 hs),ω,ω,hB.g2⟩⟩
theorem ad_{c:ah}{nn:List Bool}{ss:List SQ}{a i f:Int}(hc:ax c)(hR:EZ c ss a i f):(RI c nn ss).length<=16640/\∀x∈RI c nn ss,x.acts.length<=100000:=by
 have U:=hc.cX
 constructor
 ·grind[UW,CV,pD,Tw,RI]
 ·intro x J;obtain⟨d,O,u⟩:=agN.1 J;obtain⟨q,t,_,_,_,rfl⟩:=tE.1 O
  grind[UW,List.mem_singleton,UU,gf,XX,fN]
def OfR(w:ahs)(v:Value)(w':ahs):Prop:=
 (∃(n a:Int)(o:ahr)(k c:Nat),n≠0/\v=.tuple #[vP none,.agg #[iI n,iI a,vS o k c]]/\Gr w w')\/
 ∃(k4:Nat)(y:Jf)(c:ah)(ss:List SQ)(nn:List Bool)(As:List (List aE))(Gs:List (List Int))(Cs:List cK)(p:dH),v=.tuple #[vP (some (aM k4)),.agg #[iI 0,iI 0,vS none 0 0]]/\CX (hp w') k4 y c As Gs Cs p/\afD c ss nn As Gs Cs p y.clr/\Gr w w'
section
variable{w:ahs}{L:List aC}{g:ah}{x:GA}{k2 k3 k4:Nat}{M:List aC}
theorem Na{ms:List Value}{n a:Int}{o:ahr}{k c:Nat}{R:Value->WP}(hml:ms.length=3)(h:St w (az k3 ms::az k2 [vP (some (aM k4))]::M))
  (hR:∀u,St u (az k3 [iI n,iI a,vS o k c]::az k2 [.pointer (if n=0 then some (aM k4) else none)]::M)->R (vT (Array.mk [vP (if n=0 then some (aM k4) else none),vA (Array.mk [iI n,iI a,vS o k c])])) u):
  bC w (aM k3) [iI n,iI a,vS o k c] λw10=>Jq Tryz.prog Ev J1 [vP (some (aM k3)),vP (some (aM k2))] w10 λw11=>∃o10,World.cell? w11 (aM k2)=some (vP o10)/\∃n4 n5 o11 k22 k23,rowAt w11 (aM k3) 0 3=some [iI n4,iI n5,vS o11 k22 k23]/\R (vT (Array.mk [vP o10,vA (Array.mk [iI n4,iI n5,vS o11 k22 k23])])) w11:=by
 refine aL h ω (by simp[aK]) λw10 h=>F2 _ _ w10 _ ⟨_,h.cell 0,ae (λJ=>?_) λJ=>?_⟩
 ·have J:n≠0:=by simp_all
  rw[afV J] at hR;refine aR (i:=0) h.swap σ λw11 h=>?_;have O:aj (hp w11) (aM k3) [iI n,iI a,vS o k c]:=af 1 h.l;exact⟨_,h.cell 0,_,_,_,_,_,O.at sZZ rfl,hR w11 h.swap⟩
 ·have J:n=0:=by simp_all
  rw[afZ J] at hR;have O:aj (hp w10) (aM k3) [iI n,iI a,vS o k c]:=af 0 h.l;exact⟨_,h.tail.cell 0,_,_,_,_,_,O.at sZZ rfl,hR w10 h⟩
abbrev zM:List Value:=[iI 0,iI 0,vS none 0 0]
theorem afE(hg:gR (hp w) g x)(hb:mi g)(ht:dK (hp w)):ρ 8 [.agg ⟨x.cells⟩] w (OfR w):=by
 refine MR _ _ _ _ _ _ _ _ _ _ _ _ _ w _ (gH hg λk1 w1 gw d6 B=>ag (St.all w1) λk2 w2 h=>ag h λk3 w3 h=>ag h λk4 w4 h=>aR (i:=0) (h.pick 3 [2,0,1]) σ λw5 h=>?_);have b5:Gr w1 w5:=aA 3 h.l;refine⟨_,_,_,_,_,_,_,_,_,_,_,_,_,B.row b5,(ad9 (d6.mono b5) hb (ec.mono (gw.trans b5) ht)).mono ?_⟩;rintro _ w6⟨J,c,os,e,rfl,hx,ho,hI,h6⟩;have h:=St.on (N:=[_,_,_,_,_]) h6 h.l;refine⟨_,_,_,_,_,_,_,_,_,_,_,_,_,_,rfl,ag h λcA w7 h=>aL (vs:=J.cells) h rfl (by simp[aK,GA.cells]) λw8 h=>?_⟩
 --what stands still
 obtain⟨H,hH,h⟩:=St.lj [_,_,_] (St.pick h 10 [7,6,8,0,1,2,3,4,5,9]);have U:aj H (aM cA) J.cells:=af 0 hH;have O:gR H c J:=Gc (L:=[has (hp w1)]) hx ho (aq hH);have a8:sub (hp w1) H:=aA 6 hH;have al:dK H:=ec.mono (sub.trans gw a8) ht;clear hH;have h:St w8 (az k4 (Jf.cells ⟨noG,(none,0,0),0,0,(none,0,0),(none,0,0),(none,0,0),(none,0,0),⟨(none,0,0),(none,0,0),(none,0,0),(none,0,0),(none,0,0),(none,0,0),(none,0,0),(none,0,0)⟩,false⟩)::az k2 [vP (some (aM k4))]::az k3 zM::[has H]):=h
 have b2:∀{u:ahs}{S ms:List Value}{n a:Int}{o:ahr}{k Z:Nat}{H':Hp},n≠0->sub (hp w1) H'->St u (az k3 [iI n,iI a,vS o k Z]::az k2 [.pointer (if n=0 then some (aM k4) else none)]::[az k4 S,has H'])->OfR w (vT (Array.mk [vP (if n=0 then some (aM k4) else none),vA (Array.mk [iI n,iI a,vS o k Z])])) u:=λ{u S ms n a o k Z H'} hn hs h=>by
  rw[afV hn];exact .inl ⟨n,a,o,k,Z,hn,rfl,sub.trans gw (sub.trans hs (aA 3 h.l))⟩
 refine ae (λh1=>?_) λh1=>?_
 ·have h1:e≠0:=by simp_all
  exact⟨_,h.tail.cell 0,aR (i:=0) h.swap σ λw9 h=>Na rfl (h.pick 4 [2,0,1,3]) λu h=>b2 (ms:=[]) h1 a8 h⟩
 have h1:e=0:=by simp_all
 obtain⟨hc,a5,c6⟩:=hI h1;have eL:=hc.cX;refine⟨_,h.tail.cell 0,_,_,_,_,_,_,_,_,_,_,_,_,_,U.at (aA 3 h.l) rfl,?_⟩
 show bC w8 ((aM k4).add 0) J.cells _
 refine yH h (by simp[GA.cells]) (by simp[aK,GA.cells]) λd4 h=>?_;have h:St d4 (az k4 (Jf.cells ⟨J,(none,0,0),0,0,(none,0,0),(none,0,0),(none,0,0),(none,0,0),⟨(none,0,0),(none,0,0),(none,0,0),(none,0,0),(none,0,0),(none,0,0),(none,0,0),(none,0,0)⟩,false⟩)::az k2 [vP (some (aM k4))]::az k3 zM::[has H]):=h;refine⟨_,_,_,_,_,_,_,_,_,_,_,_,_,U.at (aA 3 h.l) rfl,(abl (O.mono (aA 3 h.l)) a5 (ec.mono (aA 3 h.l) al)).mono ?_⟩
 rintro _ eP (⟨hn,_⟩|⟨_,oF,cF,ol,cl,rfl,c8,d9,am,e6,_,HF,bA,c9⟩)
 ·simp_all
 have h:=St.on (N:=[_]) c9 h.l
 refine⟨_,_,_,_,rfl,ae (λh2=>?_) λh2=>?_⟩
 ·--a circle
  have h2:0<cl.length:=by simp_all
  have bP:∀z∈cl,z<c.N:=by
   cases a7:ol[0]? with
   |none=>
    simp_all
   |some l0=>exact(am l0 a7).2.lt
  obtain⟨H2,a6,h⟩:=St.lj [_,_,_] (St.pick h 5 [1,2,3,0,4]);have sF:sub HF H2:=aA 0 a6;have s2:sub H H2:=aA 1 a6;clear a6;have f4:c.N=c.cM.length:=rfl;have f5:c.T=c.terms.length:=rfl;have nT:=O.t.1;have nN:=O.n.1;refine aR (i:=0) (h.pick 4 [2,0,1,3]) σ λeK h=>?_;refine⟨λz u=>∃(j Z:Nat)(o:ahr)(us:List ByteArray),z=j/\j<=cl.length/\St u (az k3 [iI 13,iI 0,vS o j Z]::own 1 o j Z (RA us)::az k4 (Jf.cells ⟨J,(none,0,0),0,0,(none,0,0),(none,0,0),(none,0,0),(none,0,0),⟨(none,0,0),(none,0,0),(none,0,0),(none,0,0),(none,0,0),(none,0,0),(none,0,0),(none,0,0)⟩,false⟩)::az k2 [vP (some (aM k4))]::[has H2]),λz _=>cl.length-z.toNat,⟨0,0,none,[],rfl,afL _,(aI 1 h).pick 5 [1,0,2,3,4]⟩,?_⟩;clear h;rintro _ _ c5⟨j,Z,o,us,rfl,hj,h⟩
  refine ae (λh3=>?_) λh3=>?_
  ·have h3:j<cl.length:=by simp_all
   obtain⟨z,hz⟩:∃z,cl[j]? =some z:=⟨_,afJ h3⟩;have eN:=bP z (afI hz);have cI:(EH c.T (M9 cl))[j]? =some ((z:Int)+(c.T:Int)):=by simp_all[EH,PO]
   obtain⟨eA,d7,e4⟩:=bA.at cI;obtain⟨nm,eU,eu,ci,bi⟩:=O.n.dS (i:=z) ω;refine ay d7 h3 ⟨_,e4 c5 (sF.trans (aA 4 h.l)),λf8 hd=>?_⟩;have h:=h.drawn hd;have ez:(z:Int)+(c.T:Int)-(J.tl:Int)=(z:Int):=ω
   refine⟨λu=>aj (hp u) (aM k3) [iI 13,iI 0,vS o j Z]/\sub H2 (hp u),⟨af 0 h.l,aA 4 h.l⟩,_,_,_,λu r=>r.1.cell sZZ (j:=2) rfl,_,_,_,λu r=>U.cell (s2.trans r.2) (j:=1) rfl,_,_,_,λu r=>U.cell0 (s2.trans r.2),⟨ω,ω⟩,?_⟩;rw[ez];refine ay ci ω ⟨_,λu r=>bi u (s2.trans r.2),ag h λel fd h=>⟨⟨af 1 h.l,aA 5 h.l⟩,?_⟩⟩;refine(aU (us:=RA us) (vs:=[.string nm]) aT (rfl:ai Ty _=.slice _) (rfl:ai Ty _=.slice _) rfl rfl rfl (h.pick 5 [0,2,1,3,4]) rfl (by simp[aK]) (by grind) ω).mono ?_;rintro _ fg⟨o',c',rfl,h⟩;refine⟨_,_,_,rfl,⟨af 2 h.l,aA 5 h.l⟩,?_⟩;rw[ak];refine aR (i:=2) (h.pick 5 [2,0,3,4]) σ λeX h=>⟨⟨ω,ω⟩,⟨j+1,c',o',us++[nm],σ,h3,?_⟩,bY h3⟩;have e:RA (us++[nm])=RA us++[.string nm]:=σ
   rw[e];exact h
  ·intro f6 hd;have h:=h.drawn hd;refine⟨λu=>aj (hp u) (aM k2) [vP (some (aM k4))]/\aj (hp u) (aM k3) [iI 13,iI 0,vS o j Z],⟨af 3 h.l,af 0 h.l⟩,_,λu r=>r.1.cell0 sZZ,_,_,_,_,_,λu r=>r.2.at sZZ rfl,aR (i:=0) (h.pick 5 [3,0,2,4]) σ λem h=>⟨⟨af 0 h.l,af 1 h.l⟩,Na rfl h.swap λu h=>b2 (ms:=[]) σ (a8.trans s2) h⟩⟩
 --none
 have eg:cl=[]:=afY (by simp_all)
 have a7:ol=[]:=by
  cases hx0:ol[0]? with
  |none=>simp_all
  |some l0=>
   simp_all
 subst a7;clear bA am d9 h2;have h:=h.tail;intro f7 hd;have h:=h.drawn hd;refine⟨λu=>aj (hp u) (aM k2) [vP (some (aM k4))]/\sub H (hp u),⟨af 1 h.l,aA 3 h.l⟩,_,λu r=>r.1.cell0 sZZ,_,_,_,_,_,_,_,_,_,_,_,_,_,λu r=>U.at r.2 rfl,(xN (O.mono (aA 3 h.l)) a5).mono ?_⟩;rintro _ f9⟨oB,cB,ss,ask,int,f,rfl,hR,d3⟩;have h:=St.on (N:=[_,_,_]) d3 h.l;obtain⟨H2,a6,h⟩:=St.lj [_,_,_] (St.pick h 7 [3,4,5,0,1,2,6]);have s2:sub H H2:=aA 3 a6;clear a6;refine⟨_,_,_,_,_,_,rfl,⟨af 1 h.l,sub.trans s2 (aA 3 h.l)⟩,yH (i:=5) h σ (by simp[aK]) λcd h=>⟨⟨af 1 h.l,sub.trans s2 (aA 3 h.l)⟩,?_⟩⟩;have h:St cd (az k4 (Jf.cells ⟨J,(oB,ss.length,cB),ask,int,(none,0,0),(none,0,0),(none,0,0),(none,0,0),⟨(none,0,0),(none,0,0),(none,0,0),(none,0,0),(none,0,0),(none,0,0),(none,0,0),(none,0,0)⟩,false⟩)::az k2 [vP (some (aM k4))]::az k3 zM::[has H2]):=h
 refine ae (λh3=>?_) λh3=>?_
 ·have h3:f≠0:=by simp_all
  exact⟨_,h.tail.cell 0,aR (i:=0) h.swap σ λw9 h=>Na rfl (h.pick 4 [2,0,1,3]) λu h=>b2 (ms:=[]) h3 (a8.trans s2) h⟩
 have h3:f=0:=by simp_all
 obtain⟨_,hA⟩:=hR.P7 h3;intro eD hd;have h:=h.drawn hd;refine⟨λu=>aj (hp u) (aM k2) [vP (some (aM k4))]/\sub H (hp u),⟨af 1 h.l,sub.trans s2 (aA 3 h.l)⟩,_,λu r=>r.1.cell0 sZZ,_,_,_,_,_,_,_,_,_,_,_,_,_,λu r=>U.at r.2 rfl,(XI (O.mono (sub.trans s2 (aA 3 h.l))) a5 (ec.mono (sub.trans s2 (aA 3 h.l)) al)).mono ?_⟩;rintro _ cx⟨fc,ef,ei,fL,er,oL,cL,Y,rfl,ek,eT,_,e5⟩;have h:=St.on (N:=[_,_]) e5 h.l;obtain⟨H3,bc,h⟩:=St.lj [_,_,_] (St.pick h 6 [2,3,4,0,1,5]);have s3:sub H H3:=sub.trans s2 (aA 2 bc);clear bc;refine⟨_,_,_,_,rfl,⟨af 1 h.l,sub.trans s3 (aA 3 h.l)⟩,?_⟩
 show st1 cx (((aM k4).add 5).add 3) _ _
 rw[add_add,ak];refine aR (i:=8) h σ λeI h=>⟨⟨af 1 h.l,sub.trans s3 (aA 3 h.l)⟩,λdl hd=>?_⟩;have h:=h.drawn hd;have h:St dl (az k4 (Jf.cells ⟨J,(oB,ss.length,cB),ask,int,(oL,Y.length,cL),(none,0,0),(none,0,0),(none,0,0),⟨(none,0,0),(none,0,0),(none,0,0),(none,0,0),(none,0,0),(none,0,0),(none,0,0),(none,0,0)⟩,false⟩)::az k2 [vP (some (aM k4))]::az k3 zM::[has H3]):=h;refine⟨λu=>aj (hp u) (aM k2) [vP (some (aM k4))]/\sub H (hp u),⟨af 1 h.l,sub.trans s3 (aA 3 h.l)⟩,_,λu r=>r.1.cell0 sZZ,_,_,_,_,_,_,_,_,_,_,_,_,_,λu r=>U.at r.2 rfl,(YW (O.mono (sub.trans s3 (aA 3 h.l))) a5 (ec.mono (sub.trans s3 (aA 3 h.l)) al)).mono ?_⟩;rintro _ eC⟨W,e7,e9,fS,nn,oa,ca,og,cg,oc,Z,AL,X,CL,rfl,ad,d8,bz,bb,dk,cz⟩;have h:=St.on (N:=[_,_,_,_,_,_]) cz h.l;obtain⟨H4,V,h⟩:=St.lj [_,_,_] (St.pick h 10 [6,7,8,0,1,2,3,4,5,9]);have s4:sub H H4:=sub.trans s3 (aA 6 V)
 have rA:aY H4 (AL.map (·.2)) oa AL.length:=by
  obtain⟨h1,s1,a1⟩:=Bi (A:=own 1 oa AL.length ca (AL.map bS)) 0 V;obtain⟨h2,s2,a2⟩:=Bi (A:=aV (AL.map (bG 2 di))) 1 V;exact CW (λr=>CO rfl r) s1 a1 s2 a2
 have rG:aY H4 (X.map (·.2)) og X.length:=by
  obtain⟨h1,s1,a1⟩:=Bi (A:=own 1 og X.length cg (X.map bS)) 2 V;obtain⟨h2,s2,a2⟩:=Bi (A:=aV (X.map (bG 1 iv))) 3 V;exact CW (λr=>bp rfl r) s1 a1 s2 a2
 have rC:aY H4 (CL.map oy) oc CL.length:=by
  obtain⟨h1,s1,a1⟩:=Bi (A:=own 3 oc CL.length Z (E9 CL)) 4 V;obtain⟨h2,s2,a2⟩:=Bi (A:=aV (C_ CL)) 5 V
  grind[Vc]
 clear V
 --the same automaton
 obtain⟨et,ep,_,_,f1,ej⟩:=hR.one ad;have ba:fS=0:=ω
 obtain⟨_,b3⟩:=ad.P7 ba;have av:=d8 ba;rw[bz] at rA;rw[bb] at rG;rw[dk] at rC;have b1:=Y0 hc b3 av;have lA:AL.length=W.length:=by have:=congrArg List.length bz;grind[CS]
 have lG:X.length=W.length:=by have:=congrArg List.length bb;grind[Ez]
 have ea:=b3.dn.2.1;refine⟨_,_,_,_,_,_,_,_,_,_,rfl,⟨af 1 h.l,sub.trans s4 (aA 3 h.l)⟩,yH (i:=9) h σ (by simp[aK]) λeY h=>⟨⟨af 1 h.l,sub.trans s4 (aA 3 h.l)⟩,λb8 hd=>?_⟩⟩;have h:=h.drawn hd;have h:St b8 (az k4 (Jf.cells ⟨J,(oB,ss.length,cB),ask,int,(oL,Y.length,cL),(oa,AL.length,ca),(og,X.length,cg),(oc,CL.length,Z),⟨(none,0,0),(none,0,0),(none,0,0),(none,0,0),(none,0,0),(none,0,0),(none,0,0),(none,0,0)⟩,false⟩)::az k2 [vP (some (aM k4))]::az k3 zM::[has H4]):=h;have r4:=af 0 h.l;have r9:aj (hp b8) ((aM k4).add 9) [vS oa AL.length ca,vS og X.length cg]:=(aj.drop (us:=vS J.ta J.tl J.tc::vS J.na J.nl J.nc::vS J.la J.ll J.lc::iI J.s::vS J.pa J.pl J.pc::fT (oB,ss.length,cB)::iI ask::iI int::[fT (oL,Y.length,cL)]) r4).take (us:=[vS oa AL.length ca,vS og X.length cg]);refine⟨λu=>aj (hp u) (aM k2) [vP (some (aM k4))]/\aj (hp u) ((aM k4).add 9) [vS oa AL.length ca,vS og X.length cg],⟨af 1 h.l,r9⟩,_,λu r=>r.1.cell0 sZZ,_,λu r=>r.1.cell0 sZZ,_,_,_,_,_,_,λu r=>r.2.at sZZ rfl,(adE (rA.mono (aA 3 h.l)) (rG.mono (aA 3 h.l)) b1).mono ?_⟩;rintro _ be⟨p,xp,rfl,a4,dF,cu⟩;have h:=St.on (N:=[_,_,_,_,_,_,_,_]) cu h.l
 have eG:aj (hp be) ((aM k4).add 9) [vS oa AL.length ca,vS og X.length cg]:=by
  have r4:=af (b:=k4) 8 h.l;exact(aj.drop (us:=vS J.ta J.tl J.tc::vS J.na J.nl J.nc::vS J.la J.ll J.lc::iI J.s::vS J.pa J.pl J.pc::fT (oB,ss.length,cB)::iI ask::iI int::[fT (oL,Y.length,cL)]) r4).take (us:=[vS oa AL.length ca,vS og X.length cg])
 obtain⟨H5,b4,h⟩:=St.lj [_,_,_] (St.pick h 12 [8,9,10,0,1,2,3,4,5,6,7,11]);have aa:sub H4 H5:=aA 8 b4;have s5:sub H H5:=s4.trans aa;have rP:UM H5 p xp:=pkH (L:=[has H4]) b4 a4 dF
 have cT:xp.d.2.1<=1000000/\xp.a1.2.1<=1000000/\xp.t.2.1<=1000000/\xp.g1.2.1<=1000000:=by
  have e0:=rP.d.1;have e1:=rP.a.rb.1;have e2:=rP.t.1;have e3:=rP.g.rb.1;have f0:=a4.d1;have f1:=a4.ac.c.lb;have f2:=a4.t1;have f3:=a4.gt.c.lb
  grind
 clear b4
 refine⟨_,_,_,_,_,_,_,_,_,_,_,_,_,_,_,_,_,_,_,_,_,_,_,_,_,rfl,⟨af 1 h.l,?_⟩,?_⟩
 ·omega
 show bC be (((aM k4).add 9).add 3) _ _
 rw[add_add];refine yH (i:=12) (vs:=xp.cells) h (by simp[PA.cells]) (by simp[aK,PA.cells]) λd5 h=>?_;have h:St d5 (az k4 (Jf.cells ⟨J,(oB,ss.length,cB),ask,int,(oL,Y.length,cL),(oa,AL.length,ca),(og,X.length,cg),(oc,CL.length,Z),xp,false⟩)::az k2 [vP (some (aM k4))]::az k3 zM::[has H5]):=h
 refine⟨⟨af 1 h.l,?_⟩,_,_,_,_,_,_,_,_,_,_,_,_,_,U.at (sub.trans s5 (aA 3 h.l)) rfl,(UR (O.mono (sub.trans s5 (aA 3 h.l))) a5 (ec.mono (sub.trans s5 (aA 3 h.l)) al)).mono ?_⟩
 ·exact(aj.drop (us:=vS J.ta J.tl J.tc::vS J.na J.nl J.nc::vS J.la J.ll J.lc::iI J.s::vS J.pa J.pl J.pc::fT (oB,ss.length,cB)::iI ask::iI int::[fT (oL,Y.length,cL)]) (af 0 h.l)).take (us:=[vS oa AL.length ca,vS og X.length cg])
 rintro _ dc⟨ck,eb,e8,fC,bl,ey,cC,c7,rfl,d0,cp,b7,ch⟩;have h:=(St.on (N:=[_,_]) ch h.l).tail.tail;obtain⟨cm,bT,_,_,f2,eS⟩:=ad.one d0;have bB:bl=nn:=(cp ω).inj av;have a9:pD c bl ck 2=pD c nn W 2:=by rw[bB];exact(Yp bT cm).symm
 refine⟨_,_,_,_,rfl,_,h.tail.cell 0,?_⟩
 show st1 dc (((aM k4).add 9).add 11) _ _
 rw[add_add,ak];refine aR (i:=20) h σ λeB h=>⟨_,h.tail.cell 0,aR (i:=0) h.swap σ λeo h=>Na rfl (h.pick 4 [2,0,1,3]) λu h=>?_⟩;have h:St u (az k3 zM::az k2 [vP (some (aM k4))]::az k4 (Jf.cells ⟨J,(oB,ss.length,cB),ask,int,(oL,Y.length,cL),(oa,AL.length,ca),(og,X.length,cg),(oc,CL.length,Z),xp,((c7.length:Int)==0)⟩)::[has H5]):=h;have a0:sub H5 (hp u):=aA 3 h.l;have b6:=ad_ (nn:=nn) hc ad;have lC:CL.length=(RI c nn W).length:=by grind
 refine .inr ⟨k4,_,c,W,nn,CS c nn W,Ez c W,RI c nn W,p,rfl,⟨af 2 h.l,O.mono (s5.trans a0),rA.mono (aa.trans a0),rG.mono (aa.trans a0),rC.mono (aa.trans a0),rP.mono a0,⟨by grind,λl hl=>by have:=(b1.a l hl).1;omega⟩,⟨by grind,λl hl=>by have:=(b1.t l hl).1;omega⟩,⟨by grind,b6.2⟩,cT⟩,⟨⟨hc,a5,c6⟩,b3,av,rfl,rfl,rfl,a4,?_,c8⟩,sub.trans gw (sub.trans a8 (sub.trans s5 a0))⟩;rw[<-a9,<-b7];simp
end
structure PrA where
 r:Nat
 s:Nat
 a:Nat
 b:Nat
 q:Nat
def mz(P:PrA)(y:da)(Q:PrA)(z:da)(H:Hp)(M:List aC)(u:ahs):Prop:=∃(nq:List PH)(sk:Zn)(ar:ArP)(mo:ahr)(mc:Nat)(nq2:List PH)(sk2:Zn)(ar2:ArP)(mo2:ahr)(mc2:Nat),nq.map ya=y.nd/\nq2.map ya=z.nd/\
 St u (rnL P.r P.s P.a P.b y nq sk ar mo mc (PU P.q P.r (rnL Q.r Q.s Q.a Q.b z nq2 sk2 ar2 mo2 mc2 (PU Q.q Q.r (M++[has H])))))
theorem GC{H:Hp}:∀{M:List aC}{h:Hp},aG (M++[has H]) h->sub H h
 |[],_,hs=>lU hs
 |_::M,_,hs=>GC (M:=M) (aq hs)
section
variable{P Q:PrA}{y z:da}{H:Hp}{M:List aC}{w:ahs}
theorem jz(h:mz P y Q z H M w):mz Q z P y H M w:=by
 obtain⟨nq,sk,ar,Y,X,O,J,u,V,U,Z,W,h⟩:=h;exact⟨O,J,u,V,U,nq,sk,ar,Y,X,W,Z,h.pick 20 [10,11,12,13,14,15,16,17,18,19,0,1,2,3,4,5,6,7,8,9]⟩
theorem uT(h:mz P y Q z H M w):∃L,iC P.r P.s P.a P.b y (PU P.q P.r L) w/\(∀h,aG L h->aG (M++[has H]) h)/\∀y' u',iC P.r P.s P.a P.b y' (PU P.q P.r L) u'->mz P y' Q z H M u':=by
 obtain⟨nq,sk,ar,mo,mc,J,a4,W,a5,V,h1,h2,h⟩:=h;exact⟨_,⟨nq,sk,ar,mo,mc,h1,h⟩,λh hh=>aq (aq (aq (aq (aq (aq (aq (aq (aq (aq hh))))))))),λy' u' ⟨O,Z,X,Y,a0,U,h'⟩=>⟨O,Z,X,Y,a0,J,a4,W,a5,V,U,h2,h'⟩⟩
theorem Nb(h:mz P y Q z H M w):sub H (hp w):=by grind[uT,GC,aq,Be]
theorem RU{u:ahs}(h:mz P y Q z H M w)(g:Gr w u):mz P y Q z H M u:=by grind[uT,TK]
theorem TQ{vs:List Value}{e:TypeId}{K:Nat->ahs->Prop}(h:mz P y Q z H [] w)(hK:∀k u,mz P y Q z H [az k vs] u->K k u):new w (.cells (Array.mk vs) e) K:=by
 obtain⟨nq,sk,ar,Z,Y,U,O,J,W,V,h1,X,h⟩:=h;exact ag h λk u h=>hK k u ⟨nq,sk,ar,Z,Y,U,O,J,W,V,h1,X,h.pick 21 [1,2,3,4,5,6,7,8,9,10,11,12,13,14,15,16,17,18,19,20,0]⟩
theorem PW{A:aC}(h:mz P y Q z H [A] w):mz P y Q z H [] w:=by
 obtain⟨nq,sk,ar,Y,X,O,J,u,V,U,Z,W,h⟩:=h;exact⟨nq,sk,ar,Y,X,O,J,u,V,U,Z,W,h.pick 21 [0,1,2,3,4,5,6,7,8,9,10,11,12,13,14,15,16,17,18,19]⟩
end
section
variable{w:ahs}{P Q:PrA}{y z:da}{g:ah}{ss:List SQ}{A:Nat->Int->aE}{G:Nat->Int->Nat}{H:Hp}{x:GA}{oA oG:FV}{xp:PA}{As:List (List aE)}{Gs:List (List Int)}{p:dH}{t:Nat}
theorem PX(hD:IP g ss A G Gs p)(hT:uR H P.b x oA oG xp g As Gs p)(ht:t<g.T)(ht0:1<=t)(hI:fV g ss y)(hov:y.ov=false)(hm:y.mv.length<=900000)(hcn:y.de<=1000000){k:Nat}(h:mz P y Q z H [az k [iI (t:Int)]] w):
  ρ 18 [vP (some (aM P.q)),vS (some (aM k)) 1 1] w λv w'=>(lR g (bX p) (dI p) G t y=none/\v=.tuple #[iI 0,iI 15]/\mz P y Q z H [] w')\/
   ∃f y',lR g (bX p) (dI p) G t y=some (f,y')/\v=.tuple #[iI (if f then 1 else 0),iI 0]/\fV g ss y'/\y'.mv.length<=y.mv.length+1025/\y'.ov=false/\y'.de<=y.de+1/\(f=false->y'=y)/\mz P y' Q z H [] w':=by
 obtain⟨L,Y,U,V⟩:=uT h
 refine(ad5 hD hT (λh J=>GC (U h J)) ht ht0 hI hov hm hcn (λh J=>?_) Y).mono ?_
 ·have X:aj h (aM k) [iI (t:Int)]:=af 0 (U h J);exact bp rfl (.inr ⟨_,rfl,X⟩)
 ·rintro _ w' (⟨e,rfl,h⟩|⟨f,y',e,rfl,u,O,h⟩)
  ·exact .inl ⟨e,rfl,PW (V _ _ h)⟩
  ·obtain⟨o1,W,Z⟩:=YV hD ht ht0 hI e;exact .inr ⟨f,y',e,rfl,u,O,o1.trans hov,W,Z,PW (V _ _ h)⟩
theorem yJ(h:mz P y Q z H [] w):ρ 19 [vP (some (aM P.q))] w λv w'=>v=iI (y.de:Int)/\w'=w:=by
 obtain⟨L,u,J,O⟩:=uT h;exact abq u
theorem PY(h:mz P y Q z H [] w):ρ 25 [vP (some (aM P.q))] w λv w'=>v=vB y.ov/\w'=w:=by
 obtain⟨L,u,J,O⟩:=uT h;exact abr u
theorem Li(hI:fV g ss y)(hm:y.mv.length<=1000000)(h:mz P y Q z H [] w):ρ 22 [vP (some (aM P.q))] w λv w'=>∃o n c,v=vS o n c/\aY (hp w') y.nd o n/\n<=1000000/\Gr w w'/\mz P y Q z H [] w':=by
 obtain⟨L,J,O,U⟩:=uT h;refine(YU hI hm J).mono ?_;rintro _ w'⟨o,n,c,rfl,u,hn,g⟩;exact⟨o,n,c,rfl,u,hn,g,RU h g⟩
def aea(F:Option (Bool×da))(y:da)(b:Bool)(e:Int)(y':da):Prop:=F=(if e=0 then some (b,y') else none)/\(e≠0->e=15/\b=false/\y'=y)
theorem Y3{F:Option (Bool×da)}{b b':Bool}{e e':Int}{y1 y1':da}(h:aea F y b e y1)(h':aea F y b' e' y1'):e=e'/\b=b'/\y1=y1':=by
 obtain⟨U,O⟩:=h;obtain⟨u,J⟩:=h'
 grind
def afF(g:ah)(ss:List SQ)(P:PrA)(y:da)(F:Option (Bool×da))(Q:PrA)(z:da)(H:Hp)(v:Value)(w:ahs):Prop:=∃(b:Bool)(e:Int)(y':da),v=.tuple #[vB b,iI e]/\aea F y b e y'/\fV g ss y'/\y'.mv.length<=y.mv.length+1025/\mz P y' Q z H [] w
theorem TR(hD:IP g ss A G Gs p)(hT:uR H P.b x oA oG xp g As Gs p)(hI:fV g ss y)(hov:y.ov=false)(hm:y.mv.length<=900000)(hcn:y.de<=1000000)(h:mz P y Q z H [] w):
  ρ 20 [vP (some (aM P.q))] w (afF g ss P y (lR g (bX p) (dI p) G 0 y) Q z H):=by
 obtain⟨L,V,U,O⟩:=uT h;refine(ae_ hD hT (λh W=>GC (M:=[]) (U h W)) hI hov hm hcn V).mono ?_
 rintro _ w' (⟨e,rfl,h⟩|⟨f,X,e,rfl,u,J,h⟩)
 ·exact⟨false,15,y,rfl,⟨e,λ_=>⟨rfl,rfl,rfl⟩⟩,hI,ω,O _ _ h⟩
 ·exact⟨f,0,X,rfl,⟨e,λh=>absurd rfl h⟩,u,J,O _ _ h⟩
end
section
variable{w:ahs}{g:ah}{x:GA}
theorem PZ{ts:List Int}{o:ahr}{n cp:Nat}(hg:gR (hp w) g x)(hb:mi g)(hr:aY (hp w) ts o n)(hi:∀t∈ts,-9223372036854775808<=t/\t<=9223372036854775807)(ht:dK (hp w)):
  ρ 5 [.agg ⟨x.cells⟩,vS o n cp] w λv w'=>v=vB true/\Gr w w':=by
 refine rJ (gH hg λk1 w1 gw cu B=>⟨_,_,_,_,_,_,_,_,_,_,_,_,_,B.row (Gr.refl _),(afE cu hb (ec.mono gw ht)).mono ?_⟩)
 rintro _ w2 (⟨n1,a1,o1,ca,c1,hn,rfl,g2⟩|⟨k4,y,c,ss,nn,As,Gs,Cs,p,rfl,hS,Z,g2⟩)
 ·refine⟨_,_,_,_,_,_,rfl,ag (St.all w2) λa4 w3 h=>aL h rfl (by simp[aK]) λw4 h=>YT.mono ?_⟩;rintro _ w5⟨rfl,g5⟩;refine⟨_,rfl,YT.mono ?_⟩;rintro _ w6⟨rfl,g6⟩;have r4:aj (hp w4) (aM a4) [iI n1,iI a1,vS o1 ca c1]:=af 0 h.l;exact⟨_,rfl,dL rfl ⟨_,r4.cell0 (g5.trans g6),dL (by simpa using hn) ⟨rfl,gw.trans (g2.trans ((aA 1 h.l:sub (hp w2) (hp w4)).trans (g5.trans g6)))⟩⟩⟩
 refine⟨_,_,_,_,_,_,rfl,ag (St.all w2) λa4 w3 h=>aL h rfl (by simp[aK]) λw4 h=>?_⟩;have g4:Gr w2 w4:=aA 1 h.l;have hc:=Z.s.hc;have W:=Z.s.hb;have e8:=hc.cX;have eg:c.T=c.terms.length:=rfl;have d7:c.N=c.cM.length:=rfl;clear h;have a0:=hS.mono g4;refine(ab2 a0 W ω ω ω (St.all w4)).mono ?_;rintro _ w5⟨q1,r1,s1,a1,b1,x1,cT,d3,eI,H1,rfl,cz,cm,ck,z1,cx,b8,a6,h⟩;have g5:Gr w4 w5:=aA 11 h.l;refine⟨_,rfl,(ab2 (a0.mono g5) W ω ω ω h).mono ?_⟩;rintro _ w6⟨q2,r2,s2,a2,b2,x2,ez,eD,d4,H2,rfl,cA,c7,bP,z2,bT,b3,a9,h⟩;have g6:Gr w4 w6:=aA 22 h.l;refine⟨_,rfl,bn rfl ((Lf (a0.mono g6) W ω ω).mono ?_)⟩;rintro _ w7⟨x',os,rfl,hx,ho,h7⟩;have b6:gR (hp w7) c x':=Gc (L:=all w6) hx ho h7.l;have h:=St.on (N:=[_,_,_,_,_]) h7 h.l;have g7:Gr w w7:=gw.trans (g2.trans (g4.trans (g6.trans (St.gone (N:=vm c x' os) h7))));refine⟨_,_,_,_,_,_,_,_,_,_,_,_,_,rfl,(abu (s:=60) b6 ω (hr.mono g7) hi ω).mono ?_⟩
 rintro _ w8 (⟨rfl,g8⟩|⟨row,oo,cc,rfl,eu,a8,h8⟩)
 ·refine⟨_,_,_,_,rfl,λb u=>b=true/\Gr w u,dL rfl ⟨rfl,g7.trans g8⟩,?_⟩;rintro _ _ u⟨rfl,gu⟩;exact dL rfl (dL rfl ⟨rfl,gu⟩)
 have h:=St.on (N:=[_]) h8 h.l;have h:=h.pick 29 [6,7,8,9,10,11,12,13,14,15,17,18,19,20,21,22,23,24,25,26,0,16,27,28];obtain⟨X,U,h⟩:=St.lj [_,_,_,_,_,_,_,_,_,_,_,_,_,_,_,_,_,_,_,_] h;have sr:aY X row oo row.length:=bp rfl (dE 0 U);have t2:=cA.mono (aA 1 U);have t1:=cz.mono (aA 2 U);have s4:sub (hp w4) X:=aA 3 U;clear U;have hD:=ad8 hc Z.A Z.n (by have:=Z.P;rwa [Z.dA,Z.dG] at this) W;rw[<-Z.dG] at hD;have h:mz ⟨r1,s1,a1,b1,q1⟩ da.new ⟨r2,s2,a2,b2,q2⟩ da.new X [] w8:=jz ⟨c7,bP,z2,bT,b3,cm,ck,z1,cx,b8,a9,a6,h⟩;have fin:∀{P Q:PrA}{y z:da}{u:ahs},mz P y Q z X [] u->Gr w u:=λh=>gw.trans (g2.trans (g4.trans (s4.trans (Nb h))));refine⟨_,_,_,_,rfl,λb u=>b=false/\mz ⟨r1,s1,a1,b1,q1⟩ da.new ⟨r2,s2,a2,b2,q2⟩ da.new X [] u,bn rfl (bn rfl ⟨rfl,h⟩),?_⟩;clear h;rintro _ _ w9⟨rfl,h⟩;refine bn rfl ⟨λz u=>∃(j:Nat)(y:da),z=j/\j<=row.length/\fV c ss y/\y.ov=false/\y.mv.length<=1025*j/\y.de<=j/\mz ⟨r1,s1,a1,b1,q1⟩ y ⟨r2,s2,a2,b2,q2⟩ y X [] u,λz _=>row.length-z.toNat,⟨0,_,rfl,afL _,fV.new,rfl,afL _,afR _,h⟩,?_⟩;clear h;rintro _ _ c8⟨j,y,rfl,hj,hY,Y,e4,ei,h⟩
 refine ae (λV=>?_) λV=>?_
 ·have V:j<row.length:=by have:=afO V;omega
  obtain⟨t,ad,ci,al,a5⟩:=sr.dS V;have ek:=a8 t (afI ci);obtain⟨t,rfl⟩:∃t':Nat,t=t':=⟨t.toNat,ω⟩;refine ay al V ⟨_,a5 c8 (Nb h),TQ h λep eb h=>(PX hD t1 ω ω hY Y ω ω h).mono ?_⟩
  rintro _ c9 (⟨_,rfl,h⟩|⟨f,y',hF,rfl,ba,er,a7,ef,c6,h⟩)
  ·exact⟨_,_,rfl,dL rfl ⟨rfl,fin h⟩⟩
  refine⟨_,_,rfl,bn rfl ?_⟩;have nx:∀{u:ahs},mz ⟨r1,s1,a1,b1,q1⟩ y' ⟨r2,s2,a2,b2,q2⟩ y' X [] u->∃(j':Nat)(y:da),(j:Int)+1=j'/\j'<=row.length/\fV c ss y/\y.ov=false/\y.mv.length<=1025*j'/\y.de<=j'/\mz ⟨r1,s1,a1,b1,q1⟩ y ⟨r2,s2,a2,b2,q2⟩ y X [] u:=λh=>⟨j+1,y',σ,V,ba,a7,ω,ω,h⟩;cases f with
  |true=>
   refine dL rfl (ay al V ⟨_,a5 c9 (Nb h),TQ (jz h) λeC ea h=>(PX hD t2 ω ω hY Y ω ω h).mono ?_⟩)
   rintro _ e7 (⟨O,rfl,h⟩|⟨f2,y2,O,rfl,_,_,_,_,_,h⟩)
   ·rw[hF] at O;cases O
   rw[hF] at O;cases O;refine⟨_,_,rfl,bn rfl (bn rfl ((yJ (jz h)).mono ?_))⟩;rintro _ av⟨rfl,rfl⟩;refine⟨_,rfl,(yJ h).mono ?_⟩;rintro _ cC⟨rfl,rfl⟩;exact⟨_,rfl,bn σ ⟨⟨ω,ω⟩,nx (jz h),bY V⟩⟩
  |false=>
   obtain rfl:=c6 rfl;refine bn rfl ((yJ h).mono ?_);rintro _ av⟨rfl,rfl⟩;refine⟨_,rfl,(yJ (jz h)).mono ?_⟩;rintro _ cC⟨rfl,rfl⟩;exact⟨_,rfl,bn σ ⟨⟨ω,ω⟩,nx h,bY V⟩⟩
 ·refine(TR hD t1 hY Y ω ω h).mono ?_;rintro _ e0⟨bA,eA,yA,rfl,pA,J,d8,h⟩;refine⟨_,_,rfl,(TR hD t2 hY Y ω ω (jz h)).mono ?_⟩;rintro _ e6⟨bB,eB,yB,rfl,pB,e5,eG,h⟩;obtain⟨rfl,rfl,rfl⟩:=Y3 pA pB;refine⟨_,_,rfl,(Li J ω (jz h)).mono ?_⟩;rintro _ eK⟨eo,e3,e2,rfl,bl,be,_,h⟩;refine⟨_,_,_,rfl,(Li J ω (jz h)).mono ?_⟩;rintro _ eL⟨dF,e9,dk,rfl,cg,et,bc,h⟩;refine⟨_,_,_,rfl,(YR (bl.mono bc) cg be (λx hx=>agn (J.kl x hx) (by decide))).mono ?_⟩;rintro _ ej⟨rfl,bi⟩;have h:=jz (RU h (Gr.of_eq bi));obtain⟨nq,sk,ar,mo,mc,bb,b7,cd,b4,bz,am,cF,h⟩:=h;refine⟨_,rfl,(Lh J h).mono ?_⟩;rintro _ ey⟨el,d0,d5,rfl,h⟩;refine⟨_,_,_,rfl,(Lh J (h.pick 21 [11,12,13,14,15,16,17,18,19,20,0,1,2,3,4,5,6,7,8,9,10])).mono ?_⟩;rintro _ em⟨dl,e1,cI,rfl,h⟩;have b5:=nP h;have aa:=nP (h.pick 12 [11]);have d6:=J.hl;have ls:=fU yA.es;refine⟨_,_,_,rfl,(QI (bp aa (dE 11 h.l)) (bp b5 (dE 0 h.l)) (by rw[<-aa];simp only[agk];omega)).mono ?_⟩;rintro _ ch⟨rfl,c5⟩;have h:mz ⟨r1,s1,a1,b1,q1⟩ yA ⟨r2,s2,a2,b2,q2⟩ yA X [] ch:=RU ⟨nq,sk,ar,mo,mc,bb,b7,cd,b4,bz,am,cF,h.pick 22 [12,13,14,15,16,17,18,19,20,21,1,2,3,4,5,6,7,8,9,10]⟩ (Gr.of_eq c5);refine⟨_,rfl,dL σ (dL σ (dL rfl (dL rfl ((PY h).mono ?_))))⟩;rintro _ d9⟨rfl,rfl⟩;refine⟨_,rfl,(PY (jz h)).mono ?_⟩;rintro _ dc⟨rfl,rfl⟩;exact⟨_,rfl,σ,fin h⟩
end
section
open Go.RowKit Go.WideShapes Go.ChangeShapes
theorem P0{w:ahs}{a:Addr}{v:Value}(h:w.cell? a=some v):uY (hp w) a=some v:=by
 unfold World.cell? at h;unfold uY hp;cases ho:w.heap[a.block]? with
 |none=>simp_all
 |some o=>rw[ho] at h;cases o<;>first|exact h|cases h
theorem Lj{α β:Type}{f:α->Option β}:∀{l:List α}{r:List β},l.mapM f=some r->r.length=l.length/\∀(i:Nat)(a:α)(b:β),l[i]? =some a->r[i]? =some b->f a=some b
 |[],r,h=>by simp_all
 |x::l,r,h=>by
  simp only[List.mapM_cons,Option.bind_eq_bind,Option.bind_eq_some_iff,Option.pure_def,Option.some.injEq] at h
  obtain⟨b,hb,r',hr',rfl⟩:=h
  obtain⟨h1,h2⟩:=Lj hr'
  grind
theorem Vd{w:ahs}{base n:Nat}{a:Addr}{vs:List Value}(h:w.cells? base a n=some vs):aj (hp w) a vs:=by
 unfold World.cells? at h
 split at h
 ·obtain⟨O,u⟩:=Lj h;intro j v J
  grind[List.getElem?_eq_some_iff,List.length_range,P0]
 simp_all
theorem yd{H:Type}{P:Program}{e:TypeId}{N:Nat}:∀{l:List (DataW H)},(DataW.weightsAll P e l).all (·<=N)=true->∀d∈l,(d.weights P e).all (·<=N)=true
 |[],_,d,hd=>by simp_all
 |x::l,h,d,hd=>by
  rw[DataW.weightsAll,List.all_append,afX] at h
  rcases af6.1 hd with rfl|hd
  ·grind
  ·exact yd h.2 d hd
theorem jD{H:Type}{P:Program}{N:Nat}:∀{ts:List TypeId}{l:List (DataW H)},(DataW.weightsEach P ts l).all (·<=N)=true->∀(i:Nat) t d,ts[i]? =some t->l[i]? =some d->(d.weights P t).all (·<=N)=true
 |[],l,_,i,t,d,ht,_=>by simp_all
 |_::_,[],_,i,t,d,_,hd=>by simp_all
 |t0::ts,x::l,h,i,t,d,ht,hd=>by
  rw[DataW.weightsEach,List.all_append,afX] at h
  cases i with
  |zero=>simp_all
  |succ i=>exact jD h.2 i t d (by simp_all) (by simp_all)
def Qb(P:Program)(α:Type)[tQ α](bd:α->Prop)(t:TypeId):Prop:=
 ∀{H:Type}(enc:TypeId×Value->H)(W:ahs)(n:Nat)(cs:List Value)(x:DataW H×List MemPlace),DataW.trod enc P W 0 (λ_=>true) true n t cs=some x->(x.1.weights P t).all (·<=reachBytes)=true->∃y:α,rd (hp W) y cs/\bd y
def anyS:ByteArray->Prop:=λs=>s.size<=reachBytes
def Nc{α:Type}(bytes:Nat)(bd:α->Prop):List α->Prop:=λxs=>xs.length*bytes<=reachBytes/\∀x∈xs,bd x
section
variable{P:Program}{t e:TypeId}
theorem abz(ht:P.underlying t=some (.int .i64)):Qb P Int anyI t:=by
 intro H enc W n cs x h J;obtain⟨z,rfl,_,u⟩:=DataW.trod_int ht h;refine⟨z,rfl,?_⟩;have:IntKind.i64.min<=z/\z<=IntKind.i64.max:=by simp_all[Lit.wf]
 exact this
theorem abA(ht:P.underlying t=some .string):Qb P ByteArray anyS t:=by
 intro H enc W n cs x h u;obtain⟨z,rfl,rfl,_⟩:=DataW.trod_string ht h;refine⟨z,rfl,?_⟩
 simp_all[DataW.weights,anyS]
theorem yK{α:Type}[tQ α]{bd:α->Prop}{bb:Nat}(ht:P.underlying t=some (.slice e))(hc:P.cellsOf e=tQ.n α)(hb:P.bytesOf e=bb)(he:Qb P α bd e):Qb P (List α) (Nc bb bd) t:=by
 intro H enc W n cs x h hw
 rcases DataW.trod_slice ht h with⟨rfl,rfl⟩|⟨a,len,Y,u,rest,m,rfl,rfl,rfl,_,Z,a5,a7,hg,_,_⟩
 ·exact⟨[],⟨none,0,0,rfl,afR _,aY.nil⟩,σ,λx hx=>by simp at hx⟩
 ·simp only[DataW.weights,ht,List.all_cons,List.all_append,afX,aga,af4] at hw;obtain⟨a6,X,_⟩:=hw
  have key:∀k,k<=len->∃ys:List α,ys.length=k/\(∀i y,ys[i]? =some y->∃vs,aj (hp W) (a.add (eV i (tQ.n α))) vs/\rd (hp W) y vs)/\∀y∈ys,bd y:=by
   intro k
   induction k with
   |zero=>simp
   |succ k ih=>
    intro hk;obtain⟨ys,U,h2,h3⟩:=ih ω;have O:=hg k ω;obtain⟨d,hd⟩:∃d,u[k]? =some d:=⟨u[k]'ω,afJ _⟩;rw[hd,Option.bind_eq_some_iff] at O;obtain⟨vs,a8,V⟩:=O;obtain⟨y,a4,a0⟩:=he enc W m vs d V (yd X _ (by grind))
    refine⟨ys++[y],by grind,λi z J=>?_,λz J=>?_⟩
    ·by_cases hi:i<k
     ·grind
     ·have:i=k:=by grind
      subst this;rw[agf ω,U,agX] at J
      grind[bg,Vd]
    ·rcases afT.1 J with J|J
     ·exact h3 z J
     ·simp at J;subst J;exact a0
  obtain⟨ys,U,h2,h3⟩:=key len (afR _)
  refine⟨ys,⟨some a,len,Y,rfl,Z,U,λi y hy=>?_⟩,?_,h3⟩
  ·simp_all
  grind
theorem Bg{fs:Array Field}(ht:P.underlying t=some (.struct fs)){H:Type}{enc:TypeId×Value->H}{W:ahs}{n:Nat}{cs:List Value}{x:DataW H×List MemPlace}(h:DataW.trod enc P W 0 (λ_=>true) true n t cs=some x)(hw:(x.1.weights P t).all (·<=reachBytes)=true):
  cs.length=P.cellsOf t/\∀(i:Nat)(f:Field)(ty k o:Nat),fs[i]? =some f->P.cellsOf ty=k->f.type=ty->f.offset=o->∃(m:Nat)(d:DataW H×List MemPlace),DataW.trod enc P W 0 (λ_=>true) true m ty ((cs.drop o).take k)=some d/\(d.1.weights P ty).all (·<=reachBytes)=true:=by
 obtain⟨xs,m,rfl,rfl,hl,J,hf⟩:=DataW.trod_struct ht h;refine⟨hl,?_⟩;rintro i f _ _ _ hi rfl rfl rfl;have u:=(ag4.1 hi).1;obtain⟨d,O⟩:∃d,xs[i]? =some d:=⟨xs[i]'ω,afJ _⟩;refine⟨m,d,by grind,?_⟩;simp only[DataW.weights,ht] at hw;exact jD hw i f.type d.1 (by grind) (by grind)
theorem TS{α:Type}[tQ α]{bd:α->Prop}(ho:Qb P α bd t){H:Type}{enc:TypeId×Value->H}{W:ahs}{v:Value}{d:DataW H}{ps:List MemPlace}(h:DataW.Trod enc P W 0 (λ_=>true) true t v d ps)
  (hw:(d.weights P t).all (·<=reachBytes)=true):∃y:α,rd (hp W) y v.cells.toList/\bd y:=by
 obtain⟨n,h⟩:=h;exact ho enc W n _ _ h hw
theorem Ve{α:Type}[tQ α]{bd:α->Prop}{bb:Nat}(ho:Qb P (List α) (Nc bb bd) t)(ht:P.underlying t=some (.slice e)){H:Type}{enc:TypeId×Value->H}{W:ahs}{b:Nat}{v:Value}{d:DataW H}{ps:List MemPlace}
  (hval:Value.okWide P W .any b t v) (h:DataW.Trod enc P W 0 (λ_=>true) true t v d ps) (hw:(d.weights P t).all (·<=reachBytes)=true):∃(xs:List α)(a:ahr)(l c:Nat),v=vS a l c/\l<=c/\aY (hp W) xs a l/\Nc bb bd xs:=by
 obtain⟨xs,⟨a,l,c,O,u,J⟩,hb⟩:=TS ho h hw;refine⟨xs,a,l,c,?_,u,J,hb⟩;cases v<;>first|(simp[Value.okWide,ht,Cell.okWide,Cell.ok] at hval;done)|simpa[Value.cells] using O
theorem RV{α:Type}[tQ α]{bd:α->Prop}{fs:Array Field}(ho:Qb P α bd t)(ht:P.underlying t=some (.struct fs)){H:Type}{enc:TypeId×Value->H}{W:ahs}{b:Nat}{v:Value}{d:DataW H}{ps:List MemPlace}
  (hval:Value.okWide P W .any b t v) (h:DataW.Trod enc P W 0 (λ_=>true) true t v d ps) (hw:(d.weights P t).all (·<=reachBytes)=true):∃(x:α)(cs:List Value),v=.agg ⟨cs⟩/\rd (hp W) x cs/\bd x:=by
 obtain⟨x,u,hb⟩:=TS ho h hw;simp only[Value.okWide,ht] at hval;obtain⟨cs,rfl,_⟩:=hval;exact⟨x,cs.toList,rfl,u,hb⟩
theorem Y4{w w':ahs}(h:Ev w w')(g:Gr w w'):Below w.heap.size w w':=by
 refine⟨h.os,h.tape,h.output,h.size,λk J=>?_⟩;cases ho:w.heap[k]? with
 |none=>simp_all
 |some o=>
  by_cases u:Nh o=true
  ·have:hp w k=some o:=by simp_all[hp,GG]
   exact rQ (g k o this)
  ·cases o<;>first|exact absurd rfl u|exact h.dfr _ _ ho
theorem zX(hl:laidOutB P=true){H:Type}{enc:TypeId×Value->H}{W W':ahs}(hb:Below W.heap.size W W'){sp:Nat->Bool}:∀{ts:List TypeId}{vs:List Value}{ds:List (DataW H)}{ps:List MemPlace},
  (ts.all λt=>P.readableRec t&&decide (t<P.types.size))=true->DataW.TrodAll enc P W 0 (λ_=>true) true ts vs ds ps->(∀x∈ps,x.block<W.heap.size)->(∀x∈ps,sp x.block=true)->
  DataW.TrodAll enc P W' 0 sp true ts vs ds ps
 |[],[],[],ps,_,h,_,_=>h
 |[],_::_,_,_,_,h,_,_=>h.elim
 |[],[],_::_,_,_,h,_,_=>h.elim
 |_::_,[],_,_,_,h,_,_=>h.elim
 |_::_,_::_,[],_,_,h,_,_=>h.elim
 |t::ts,v::vs,d::ds,ps,ht,h,hlt,hsp=>by
  obtain⟨p,q,h1,h2,rfl⟩:=h
  rw[List.all_cons,afX,afX,aga] at ht
  exact⟨p,q,WideElems.Trod_stays hl ht.1.1 ht.1.2 h1 (λx hx=>hb.same (hlt x (by grind))) (λx hx=>hsp x (by grind)),zX hl hb ht.2 h2 (λx hx=>hlt x (by grind)) (λx hx=>hsp x (by grind)),rfl⟩
theorem Y5{H:Type}{enc:TypeId×Value->H}{s:ChangeSpec}{f:Func}{W W':ahs}{args:Array Value}{ds gs:List (DataW H)}{before:List MemPlace}{tb:TypeId}(hv:s.vars=[])(hrt:f.resultTypes=#[tb])(htb:P.underlying tb=some .bool)
  (hsp:s.fn H (ds++gs)={ results:=[.lit (.bool true)],args:=ds }) (hl:laidOutB P=true) (hrd:(f.params.toList.all λt=>P.readableRec t&&decide (t<P.types.size))=true)
  (hW:DataW.Whole enc P f.params.toList s.vars false W args.toList ds gs before) (hE:Ev W W') (hg:Gr W W'):s.post enc P f false true false false W args (vB true) W':=by
 have hb:=Y4 hE hg;have a0:∀p∈before,p.block<W.heap.size:=λp hp=>hW.lt p hp;have U:∀p∈before,(λb=>decide (b<W.heap.size)) p.block=true:=λp hp=>by simp_all
 have Y:=hW;obtain⟨p,q,h1,X,rfl,h3,h4⟩:=hW
 have hq:q=[]:=by
  rw[hv] at X;cases gs with
  |nil=>exact X
  |cons _ _=>exact X.elim
 subst hq;rw[agc] at*;have O:∀u:Nat->Bool,(∀x∈p,u x.block=true)->DataW.TrodAll enc P W' 0 u true f.params.toList args.toList (s.fn H (ds++gs)).args p:=λu hs=>by grind[zX]
 have J:∀u:Nat->Bool,DataW.TrodVars enc P W' u s.vars (s.fn H (ds++gs)).vars []:=λu=>by
  rw[hsp,hv];rfl
 have V:∀(b:Nat)(u:Nat->Bool)(Z:Bool),DataW.TrodAll enc P W' b u Z f.resultTypes.toList ((vB true).resultList f.resultTypes.size) (s.fn H (ds++gs)).results []:=λb u Z=>by
  rw[hsp,hrt];exact trodAll_cons_mk (shut_bool htb _) trodAll_mk0
 have a4:∀(j:Nat)(t:TypeId)(r:Value),f.resultTypes[j]? =some t->((vB true).resultList f.resultTypes.size)[j]? =some r->Value.okWide P W' .any 0 t r:=ok_one hrt rfl (okWide_bool_mk htb _)
 refine⟨ds,gs,p,[],p,[],Y,V _ _ _,O _ U,J _,World.keptBut_mono (λx hx=>⟨hx,?_⟩) (hb.frame (·∈p)),λ_=>?_⟩
 ·simp_all
 simp_all
end
end
section
open Go.V Go.RowKit Go.WideShapes Go.ChangeShapes Go.ChangeAt
theorem afG:ownKnob Tryz.prog.godebug=none:=by kernel_rfl
theorem Vf:Tryz.pinned.checked.prog.mayEnter=true:=by kernel_rfl
theorem Y6:Tryz.pinned.checked.prog.liftsFinal=Rows.topGoesOnRow.lifted:=by kernel_rfl
theorem Y7:Tryz.pinned.checked.prog.make=some Rows.topGoesOnRow.make:=by kernel_rfl
theorem abB:laidOutB Tryz.pinned.checked.prog=true:=by kernel_rfl
theorem Vg:mapsRowed Tryz.pinned.checked.prog=true:=by kernel_rfl
theorem Vh:Tryz.pinned.checked.prog.stops=[]:=by kernel_rfl
theorem Vi:Tryz.pinned.checked.prog.stopKnobs=[]:=by kernel_rfl
theorem Vj:Tryz.pinned.checked.prog.stopsHeard=true:=by kernel_rfl
theorem Y8:Tryz.pinned.checked.prog.plainKeys=false:=by kernel_rfl
theorem Vk:Tryz.pinned.checked.prog.looks []=true:=by kernel_rfl
theorem Y9:Tryz.pinned.checked.prog.mainIs=some (true,"5752f73987eab450df8fa777ac1da065d74fe7e5dd4b24fd50114edcd979b5cc".toList):=by kernel_rfl
theorem afc:laidOutB Tryz.prog=true:=by kernel_rfl
theorem Ja:Tryz.prog.cellsOf 3=1:=by kernel_rfl
theorem aeb:Tryz.prog.bytesOf 3=8:=by kernel_rfl
theorem P1:Tryz.prog.cellsOf 9=1:=by kernel_rfl
theorem Y_:Tryz.prog.bytesOf 9=16:=by kernel_rfl
theorem P3:Tryz.prog.cellsOf 24=1:=by kernel_rfl
theorem Za:Tryz.prog.cellsOf 22=1:=by kernel_rfl
theorem Zb:Tryz.prog.cellsOf 23=1:=by kernel_rfl
theorem Zc:Tryz.prog.cellsOf 25=1:=by kernel_rfl
theorem Zd:Tryz.prog.cellsOf 288=2:=by kernel_rfl
theorem aec:Tryz.prog.bytesOf 288=24:=by kernel_rfl
theorem Ze:Tryz.prog.cellsOf 134=3:=by kernel_rfl
theorem aed:Tryz.prog.bytesOf 134=40:=by kernel_rfl
theorem aee:Tryz.prog.cellsOf 27=5:=by kernel_rfl
theorem Zf:Qb Tryz.prog Int anyI 3:=abz Tryz.underlying3
theorem Zg:Qb Tryz.prog (List Int) (Nc 8 anyI) 24:=yK Tryz.underlying24 Ja aeb Zf
theorem afd:Qb Tryz.prog ByteArray anyS 9:=abA Tryz.underlying9
theorem afe:Qb Tryz.prog (List ByteArray) (Nc 16 anyS) 23:=yK Tryz.underlying23 P1 Y_ afd
theorem aff:Qb Tryz.prog mP (λt=>anyS t.name/\anyI t.level) 288:=by
 intro H enc W n cs x h Z;obtain⟨hl,hf⟩:=Bg Tryz.underlying288 h Z;rw[Zd] at hl;obtain⟨_,_,J,w0⟩:=hf 0 _ 9 1 0 rfl P1 rfl rfl;obtain⟨_,_,t1,Y⟩:=hf 1 _ 3 1 1 rfl Ja rfl rfl;obtain⟨y0,r0,b0⟩:=afd enc W _ _ _ J w0;obtain⟨u,U,X⟩:=Zf enc W _ _ _ t1 Y
 match cs,hl with
 |[c0,c1],_=>
  have V:[c0]=[.string y0]:=r0;have O:[c1]=[iI u]:=U;cases V;cases O;exact⟨⟨y0,u⟩,rfl,b0,X⟩
theorem aef:Qb Tryz.prog (List mP) (Nc 24 λt=>anyS t.name/\anyI t.level) 22:=yK Tryz.underlying22 Zd aec aff
theorem afg:Qb Tryz.prog aO (λp=>anyI p.left/\Nc 8 anyI p.right/\anyI p.level) 134:=by
 intro H enc W n cs x h hw;obtain⟨hl,hf⟩:=Bg Tryz.underlying134 h hw;rw[Ze] at hl;obtain⟨_,_,U,w0⟩:=hf 0 _ 3 1 0 rfl Ja rfl rfl;obtain⟨_,_,t1,w1⟩:=hf 1 _ 24 1 1 rfl P3 rfl rfl;obtain⟨_,_,t2,w2⟩:=hf 2 _ 3 1 2 rfl Ja rfl rfl;obtain⟨y0,r0,b0⟩:=Zf enc W _ _ _ U w0;obtain⟨Y,⟨a,l,c,Z,J,u⟩,b1⟩:=Zg enc W _ _ _ t1 w1;obtain⟨O,r2,V⟩:=Zf enc W _ _ _ t2 w2
 match cs,hl with
 |[c0,c1,c2],_=>
  have e0:[c0]=[iI y0]:=r0;have X:[c1]=[vS a l c]:=Z;have e2:[c2]=[iI O]:=r2;cases e0;cases X;cases e2;exact⟨⟨y0,Y,O⟩,⟨a,l,c,rfl,J,u⟩,b0,b1,V⟩
theorem aeg:Qb Tryz.prog (List aO) (Nc 40 λp=>anyI p.left/\Nc 8 anyI p.right/\anyI p.level) 25:=yK Tryz.underlying25 Ze aed afg
def afH(g:ah):Prop:=mi g/\g.terms.length*24<=140737488355328/\g.cM.length*16<=140737488355328
theorem afh:Qb Tryz.prog ah afH 27:=by
 intro H enc W n cs x h hw;obtain⟨hl,hf⟩:=Bg Tryz.underlying27 h hw;rw[aee] at hl;obtain⟨_,_,t0,w0⟩:=hf 0 _ 22 1 0 rfl Za rfl rfl;obtain⟨_,_,t1,w1⟩:=hf 1 _ 23 1 1 rfl Zb rfl rfl;obtain⟨_,_,t2,w2⟩:=hf 2 _ 24 1 2 rfl P3 rfl rfl;obtain⟨_,_,t3,w3⟩:=hf 3 _ 3 1 3 rfl Ja rfl rfl;obtain⟨_,_,t4,w4⟩:=hf 4 _ 25 1 4 rfl Zc rfl rfl;obtain⟨y0,⟨a0,l0,J,r0,k0,q0⟩,b0⟩:=aef enc W _ _ _ t0 w0;obtain⟨V,⟨a1,Y,U,r1,k1,q1⟩,b1⟩:=afe enc W _ _ _ t1 w1;obtain⟨y2,⟨a2,l2,O,r2,k2,q2⟩,b2⟩:=Zg enc W _ _ _ t2 w2;obtain⟨X,r3,b3⟩:=Zf enc W _ _ _ t3 w3;obtain⟨Z,⟨a4,l4,u,r4,k4,q4⟩,b4⟩:=aeg enc W _ _ _ t4 w4
 match cs,hl with
 |[c0,c1,c2,c3,c4],_=>
  have e0:[c0]=[vS a0 l0 J]:=r0;have e1:[c1]=[vS a1 Y U]:=r1;have e2:[c2]=[vS a2 l2 O]:=r2;have e3:[c3]=[iI X]:=r3;have e4:[c4]=[vS a4 l4 u]:=r4;cases e0;cases e1;cases e2;cases e3;cases e4;refine⟨⟨y0,V,y2,X,Z⟩,⟨⟨a0,l0,J,a1,Y,U,a2,l2,O,X,a4,l4,u⟩,rfl,q0,q1,q2,rfl,q4,k0,k1,k2,k4⟩,?_⟩;have z0:=b0.1;have z1:=b1.1;have z2:=b2.1;have z4:=b4.1;unfold reachBytes at z0 z1 z2 z4
  refine⟨⟨by show y0.length<=_;omega,by show V.length<=_;omega,by show y2.length<=_;omega,by show Z.length*40<=_;omega,λt ht=>⟨?_,(b0.2 t ht).2⟩,λs hs=>?_,λp hp=>?_⟩,by show y0.length*24<=_;omega,by show V.length*16<=_;omega⟩
  ·have:=(b0.2 t ht).1;unfold anyS reachBytes at this;omega
  ·have:=b1.2 s hs;unfold anyS reachBytes at this;omega
  ·have:=(b4.2 p hp).2.1.1;unfold reachBytes at this;omega
theorem afi:Tryz.prog.globalNamed "math/bits.deBruijn64tab"=some 0:=by kernel_rfl
theorem Zh:(Tryz.prog.globals[0]?).map (·.type)=some 465:=by kernel_rfl
theorem Zi:Tryz.prog.cellsOf 465=64:=by kernel_rfl
theorem Vl:Tryz.prog.cellsOf 5=1:=by kernel_rfl
theorem table{W:ahs}(h:laidMetH Tryz.prog [("math/bits.deBruijn64tab",Rows.laid_math_bits_deBruijn64tab)] W):dK (hp W):=by
 have ht:Lib.TabIs Tryz.prog W "math/bits.deBruijn64tab" .u8 (Lib.deBruijn64tab.map λ(k:Nat)=>(k:Int)):=
  Lib.tabIs_of_head (rest:=[]) afi Zh Tryz.underlying465 Tryz.underlying5 Vl Zi h
 refine .inr ⟨_,rfl,λj v J=>?_⟩;have u:=(afK.1 J).1;have hc:=ht.cell afi j (by simpa[ZN] using u);rw[ak];refine P0 (hc.trans ?_);rw[<-J];simp only[ZN,afQ,af4] at J u ⊢;rw[afJ u];simp[u]
noncomputable def EJ(os:Os):ahs:=
  { World.holding Tryz.prog os ⟨#[],#[],[]⟩ with heap:=(World.holding Tryz.prog os ⟨#[],#[],[]⟩).heap.modify 0 fun
      |.cells _ t frozen=>.cells ⟨ZN⟩ t frozen
      |o=>o }
end
end Go.Proofs.YtaoaemnefghnbaaGreatDoor
