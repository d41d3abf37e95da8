/- Texts of this claim, one behind the other. -/
import Derived.Test.YtaoaemnefghnbaaGreatDoorG5
import Derived.Test.YtaoaemnefghnbaaGreatDoorG2
import Derived.Test.YtaoaemnefghnbaaGreatDoorG4
import Derived.Test.YtaoaemnefghnbaaGreatDoorG3
set_option linter.unusedVariables false
set_option linter.unusedSectionVars false
set_option maxRecDepth 100000
set_option maxHeartbeats 16000000
namespace Go.V
end Go.V
namespace Go.Proofs.YtaoaemnefghnbaaGreatDoor
end Go.Proofs.YtaoaemnefghnbaaGreatDoor
open Go.V Go.Proofs.YtaoaemnefghnbaaGreatDoor
namespace Go.Proofs.YtaoaemnefghnbaaGreatDoor
theorem zW:∀(N:List aC){M:List aC}{h:Hp},aG (N++M) h->∃h0,aG M h0/\sub h0 h/\aG (N++[has h0]) h
 |[],M,h,hs=>⟨h,hs,sZZ,bH sZZ⟩
 |A::N,M,h,⟨h1,h2,d,s1,s2,ha,hl⟩=>by
  obtain⟨h0,k1,k2,k3⟩:=zW N hl
  exact⟨h0,k1,sub.trans k2 s2,h1,h2,d,s1,s2,ha,k3⟩
theorem St.lj{w:ahs}(N:List aC){M:List aC}(h:St w (N++M)):∃h0,aG M h0/\St w (N++[Proofs.YtaoaemnefghnbaaGreatDoor.has h0]):=by
 obtain⟨h0,u,_,J⟩:=zW N h;exact⟨h0,u,J⟩
theorem abV{L:List aC}{h:Hp}{p:ahr}{bs:List Bool}(i:Nat)(hl:aG L h)(e:vc L i=cN p bs:=by rfl)(hi:Nat.blt i (DG L)=true:=by rfl):eH h p bs:=by
 obtain⟨u,s,ha⟩:=ew i (by simp_all[kQ]) hl;rw[e] at ha;exact(DE ha).mono s
theorem X9(xs:List Int)(i:Nat)(v:Int):(iv xs).set i (iI v)=iv (xs.set i v):=by simp[iv]
theorem ade(n:Nat):List.replicate n (iI 0)=iv (List.replicate n 0):=by simp[iv]
theorem X_{α:Type}(xs:List α)(i:Nat)(a b:α):(xs.set i a).set i b=xs.set i b:=σ
theorem aaP{w:ahs}{k u:Nat}{xs:List Int}{v:Int}(r:aj (hp w) ⟨k,0,none⟩ (iv xs))(h:xs[u]? =some v):w.cell? ((⟨k,0,none⟩:Addr).add u)=some (iI v):=r.cell sZZ (j:=u) (by simp_all[iv])
section
variable{w:ahs}{g:ah}{x:GA}
theorem adf{H:Hp}{k1 k2 k27 k44 k54 k53 tc lc:Nat}{ta la qm qi:ahr}{may bs:List Bool}{R:Value->ahs->Prop}(hg:gR H g x)(B:GB H k1 x)(hb:mi g)(he:bZ g)(hpd:X3 g may)(hus:UsP g bs)(hm:eH H qm may)(hi:eH H qi bs)
  (r27:aj H ⟨k27,0,none⟩ [.pointer qm,iI (g.T:Int)]) (r44:aj H ⟨k44,0,none⟩ [.pointer qi,iI (g.T:Int)]) (ht:dK H)
  (h:St w [az k54 [vS ta g.terms.length tc,vS (some ⟨k53,0,none⟩) 1 1,vS la g.levels.length lc,iI 0,vS none 0 0],own 2 ta g.terms.length tc (cJ g.terms),own 1 (some ⟨k53,0,none⟩) 1 1 [.string .empty],own 1 la g.levels.length lc (iv g.levels),az k2 [vS none 0 0,vS none 0 0,vS none 0 0,iI 0,vS none 0 0],has H])
  (hR:∀(x':GA) os w',BO (ia g (may.drop g.T) (bs.drop g.T)) x'->os.length=(ia g (may.drop g.T) (bs.drop g.T)).prods.length->St w' (vm (ia g (may.drop g.T) (bs.drop g.T)) x' os++[has H])->R (.tuple #[.agg ⟨x'.cells⟩,iI 0]) w'):Pk k1 k2 k27 k44 k54 w R:=by
 unfold Pk Q3;dsimp only[nn];obtain⟨iG,bT,bN,pN,pT,bP⟩:=Jc he;obtain⟨g9,eN⟩:=tF he;have tl:g.T=x.tl:=hg.t.1;have nl:g.N=x.nl:=hg.n.1;have pl:=hg.p.1;have cI:=hg.s;have be:=hus.1;obtain⟨b1,b2,b3,b4,b5,b6,b7⟩:=id hb;obtain⟨n,hn⟩:∃n,n=g.T+g.N:=⟨_,rfl⟩;rw[<-hn] at be;obtain⟨uns,c8⟩:∃uns,uns=bs.drop g.T:=⟨_,rfl⟩;obtain⟨pds,b8⟩:∃pds,pds=may.drop g.T:=⟨_,rfl⟩;rw[<-c8,<-b8] at hR;refine⟨_,r44.cell0 (aA 5 h.l),(LM (hi.mono (aA 5 h.l))).mono ?_⟩;rintro _ fz⟨rfl,rfl⟩;refine⟨_,rfl,?_⟩;rw[be];refine⟨⟨ω,rfl,ω⟩,?_⟩;rw[afU,dR,ade,<-aaJ g.T n uns];refine ag h λO g4 h=>ag h λa5 fS h=>aR h σ λfw h=>⟨_,r44.cell0 (aA 7 h.l),?_⟩;refine(KB (hi.mono (aA 7 h.l))).mono ?_;rintro _ eC⟨b,rfl,h9⟩;have h:=h9.fb h;obtain⟨ks,cd⟩:∃ks,ks=mb bs:=⟨_,rfl⟩;have al:∀{w:ahs},sub H (hp w)->w.cell? ((⟨k44,0,none⟩:Addr).add 1)=some (iI (g.T:Int)):=λs=>r44.cell s (j:=1) rfl
 refine⟨_,_,rfl,a_.2 ⟨rfl,rM (mb bs),Wd b bs.length (bt bs),dK,λi=>ex λy:ahr×Nat=>aV [az a5 [vS (some ⟨O,0,none⟩) n n],az O (iv (K7 g.T n uns (ks.take i))),az k54 [vS ta g.terms.length tc,.slice y.1 (uO g (ks.take i)).length y.2,vS la g.levels.length lc,iI 0,vS none 0 0],own 1 y.1 (uO g (ks.take i)).length y.2 ((uO g (ks.take i)).map λs=>Value.string s)],pu False,λ_=>pu False,[own 2 ta g.terms.length tc (cJ g.terms),own 1 la g.levels.length lc (iv g.levels),az k2 [vS none 0 0,vS none 0 0,vS none 0 0,iI 0,vS none 0 0],has H],?_,λh hh=>ec.mono (aA 3 hh) ht,oH,?_,?_,?_,?_,trivial⟩⟩
 ·refine St.ex.2 ⟨(some ⟨k53,0,none⟩,1),St.flat.2 ?_⟩;exact h.pick 9 [1,2,3,5,0,4,6,7,8]
 ·intro y hy;simp only[rM,afW] at hy
  grind
 ·intro i y hy L' fd _ hs;refine⟨_,hs,λam cz av U=>?_⟩;obtain⟨⟨na,nc⟩,U⟩:=St.ex.1 U;have U:=St.flat.1 U;have hy:(rM (mb bs))[i]? =some [iI y]:=hy
  obtain⟨s,hk,rfl⟩:∃k,(mb bs)[i]? =some k/\y=(k:Int):=by
   unfold rM at hy
   grind
  obtain⟨fc,a8,e9⟩:=yF hk;rw[be] at a8;rw[<-cd] at hk;have er:ks.take i=dj s (bt bs):=by rw[cd];exact e9
  have et:ks.take (i+1)=ks.take i++[s]:=by simp_all[afM]
  have U:St cz (az a5 [vS (some ⟨O,0,none⟩) n n]::az O (iv (K7 g.T n uns (ks.take i)))::az k54 [vS ta g.terms.length tc,.slice na (uO g (ks.take i)).length nc,vS la g.levels.length lc,iI 0,vS none 0 0]::own 1 na (uO g (ks.take i)).length nc ((uO g (ks.take i)).map λs=>Value.string s)::am):=U;have sL:∀{w:ahs}{A1 A2 A3 A4:aC},St w (A1::A2::A3::A4::am)->sub H (hp w):=λh=>aA 3 (av _ h.tail.tail.tail.tail);have eu:=U.l;refine⟨_,_,_,U.cell 0,ay rfl a8 ?_⟩;rw[ak];refine aR (U.pick 4 [1,0,2,3]) (by simp_all[cZ,Tl]) λcu h=>?_;have h:St cu (az O ((iv (K7 g.T n uns (ks.take i))).set s (iI (s:Int)))::az a5 [vS (some ⟨O,0,none⟩) n n]::az k54 [vS ta g.terms.length tc,.slice na (uO g (ks.take i)).length nc,vS la g.levels.length lc,iI 0,vS none 0 0]::own 1 na (uO g (ks.take i)).length nc ((uO g (ks.take i)).map λs=>Value.string s)::am):=h;rw[X9] at h;refine⟨_,al (sL h),ae (λh4=>?_) λh4=>?_⟩
  rotate_left
  ·have h4:s<g.T:=by simp_all
   have e1:(K7 g.T n uns (ks.take i)).set s (s:Int)=K7 g.T n uns (ks.take (i+1)):=by
    rw[et,<-Tm a8,X8 h4]
   rw[e1] at h;refine St.ex.2 ⟨(na,nc),St.flat.2 ?_⟩;have e2:uO g (ks.take (i+1))=uO g (ks.take i):=by grind[ac9]
   dsimp only;rw[e2];exact h.pick 4 [1,0,2,3]
  have h4:g.T<=s:=by simp_all
  have ef:(uO g (ks.take i)).length=1+de (s-g.T) (bt uns):=by simp_all[aaM]
  have fg:de (s-g.T) (bt uns)<=s-g.T:=DD _ _;have eX:s-g.T<g.N:=ω
  obtain⟨nm,ad,g6,cA,d7⟩:=hg.n.dS (i:=s-g.T) ω;have a0:aj (hp cu) ⟨k54,0,none⟩ [vS ta g.terms.length tc,.slice na (uO g (ks.take i)).length nc,vS la g.levels.length lc,iI 0,vS none 0 0]:=af 2 h.l;refine⟨_,_,_,h.swap.cell 0,_,al (sL h),_,_,_,a0.cell sZZ (j:=1) rfl,⟨ω,ω⟩,ay rfl a8 ?_⟩;rw[ak];refine aR h (by simp_all[cZ,Tl]) λf6 h=>?_;rw[X9,X_] at h
  have e1:(K7 g.T n uns (ks.take i)).set s ((g.T:Int)+((uO g (ks.take i)).length:Int))=K7 g.T n uns (ks.take (i+1)):=by
   have hu:bt uns (s-g.T)=true:=by simp_all[fx]
   rw[et,<-Tm a8,aaL h4 hu,ef]
   grind
  rw[e1] at h;intro e5 hd;have h:=h.drawn hd;have ck:aj (hp e5) ⟨k54,0,none⟩ [vS ta g.terms.length tc,.slice na (uO g (ks.take i)).length nc,vS la g.levels.length lc,iI 0,vS none 0 0]:=af 2 h.l;have em:(s:Int)-(g.T:Int)=((s-g.T:Nat):Int):=ω
  refine⟨λw=>aj (hp w) ⟨k54,0,none⟩ [vS ta g.terms.length tc,.slice na (uO g (ks.take i)).length nc,vS la g.levels.length lc,iI 0,vS none 0 0]/\sub H (hp w),⟨ck,sL h⟩,_,_,_,λw s=>s.1.cell sZZ (j:=1) rfl,_,_,_,λw s=>B.c1 s.2,_,λw s=>al s.2,⟨ω,ω⟩,?_⟩;rw[em];refine ay cA ω ⟨nm,λw s=>d7 _ s.2,ag h λdl fL h=>⟨⟨af 3 h.l,sL h.tail⟩,?_⟩⟩;refine(aU aT (rfl:ai Ty _=.slice _) (rfl:ai Ty _=.slice _) rfl rfl rfl (h.pick 5 [0,4,1,2,3]) rfl (by simp[aK]) (by grind) ω).mono ?_;rintro _ d8⟨o',c',rfl,h⟩;have h:St d8 (own 1 o' ((uO g (ks.take i)).length+1) c' (((uO g (ks.take i)).map λs=>Value.string s)++[.string nm])::az dl [.string nm]::az O (iv (K7 g.T n uns (ks.take (i+1))))::az a5 [vS (some ⟨O,0,none⟩) n n]::az k54 [vS ta g.terms.length tc,.slice na (uO g (ks.take i)).length nc,vS la g.levels.length lc,iI 0,vS none 0 0]::am):=h;refine⟨_,_,_,rfl,⟨af 4 h.l,aA 3 (av _ h.tail.tail.tail.tail.tail)⟩,?_⟩;rw[ak];refine aR (h.pick 5 [4,0,2,3]) σ λg8 h=>?_;refine St.ex.2 ⟨(o',c'),St.flat.2 ?_⟩;have e2:uO g (ks.take (i+1))=uO g (ks.take i)++[nm]:=by simp_all[ac_,zV]
  have e3:(uO g (ks.take (i+1))).length=(uO g (ks.take i)).length+1:=by simp_all
  have e4:((uO g (ks.take i)).map λs=>Value.string s)++[.string nm]=(uO g (ks.take (i+1))).map λs=>Value.string s:=by simp_all
  rw[e4,<-e3] at h;exact h.pick 4 [3,2,0,1]
 ·intro c7 hs;obtain⟨⟨na,nc⟩,hs⟩:=St.ex.1 hs;have hs:=St.flat.1 hs;have e:(rM (mb bs)).length=ks.length:=by simp_all[rM]
  dsimp only at hs;rw[e,af7] at hs;have h:St c7 [az a5 [vS (some ⟨O,0,none⟩) n n],az O (iv (K7 g.T n uns ks)),az k54 [vS ta g.terms.length tc,.slice na (uO g ks).length nc,vS la g.levels.length lc,iI 0,vS none 0 0],own 1 na (uO g ks).length nc ((uO g ks).map λs=>Value.string s),Wd b bs.length (bt bs),own 2 ta g.terms.length tc (cJ g.terms),own 1 la g.levels.length lc (iv g.levels),az k2 [vS none 0 0,vS none 0 0,vS none 0 0,iI 0,vS none 0 0],has H]:=hs;clear hs;have dF:uO g ks=d_ g uns:=by simp_all[aaN]
  rw[dF] at h;have to:∀{s:Int},0<=s->s<(g.T:Int)+g.N->(K7 g.T n uns ks)[s.toNat]? =some (fG g.T uns s):=λ{s} h1 h2=>by grind[aaK,jX]
  obtain⟨st,cm⟩:∃st,st=fG g.T uns g.start:=⟨_,rfl⟩
  --the table of numbers is only read from here on
  obtain⟨V,bb,h⟩:=St.lj [_,_,_,_,_] (M:=[_,_,_]) (h.pick 9 [2,3,5,6,7,0,1,8]);have sH:sub H V:=aA 2 bb;have bi:aj V ⟨a5,0,none⟩ [vS (some ⟨O,0,none⟩) n n]:=af 0 bb;have d5:aj V ⟨O,0,none⟩ (iv (K7 g.T n uns ks)):=af 1 bb;have h:St c7 [az k54 [vS ta g.terms.length tc,.slice na (d_ g uns).length nc,vS la g.levels.length lc,iI 0,vS none 0 0],own 1 na (d_ g uns).length nc ((d_ g uns).map λs=>Value.string s),own 2 ta g.terms.length tc (cJ g.terms),own 1 la g.levels.length lc (iv g.levels),az k2 [vS none 0 0,vS none 0 0,vS none 0 0,iI 0,vS none 0 0],has V]:=h;have bl:∀{w:ahs}{s:Int},sub V (hp w)->0<=s->s<(g.T:Int)+g.N->w.cell? ((⟨O,0,none⟩:Addr).add s.toNat)=some (iI (fG g.T uns s)):=λs h1 h2=>aaP (d5.mono s) (to h1 h2);refine⟨_,_,_,bi.cell0 (aA 5 h.l),_,B.c3 (sub.trans sH (aA 5 h.l)),?_⟩;rw[cI,<-jX (show(0:Int)<=g.start by omega)];refine ay rfl ω ⟨_,bl (aA 5 h.l) ω ω,?_⟩;rw[<-cm,ak];refine aR h σ λd3 h=>?_;have h:St d3 [az k54 [vS ta g.terms.length tc,.slice na (d_ g uns).length nc,vS la g.levels.length lc,iI st,vS none 0 0],own 1 na (d_ g uns).length nc ((d_ g uns).map λs=>Value.string s),own 2 ta g.terms.length tc (cJ g.terms),own 1 la g.levels.length lc (iv g.levels),az k2 [vS none 0 0,vS none 0 0,vS none 0 0,iI 0,vS none 0 0],has V]:=h;refine⟨_,al (sub.trans sH (aA 5 h.l)),_,h.cell 3,ag h λJ f4 h=>ag h λZ g5 h=>?_⟩;rw[ak];refine aR (h.pick 8 [2,0,1,3,4,5,6,7]) σ λa4 h=>?_;obtain⟨K,hK⟩:=yz (λ(pa:ahr)(m pc:Nat)=>[vS ta g.terms.length tc,.slice na (d_ g uns).length nc,vS la g.levels.length lc,iI st,vS pa m pc]);have h:St a4 [az k54 (K (some ⟨Z,0,none⟩) 1 1),az Z [iI (g.T:Int),vS (some ⟨J,0,none⟩) 1 1,iI 0],az J (iv [st]),own 1 na (d_ g uns).length nc ((d_ g uns).map λs=>Value.string s),own 2 ta g.terms.length tc (cJ g.terms),own 1 la g.levels.length lc (iv g.levels),az k2 [vS none 0 0,vS none 0 0,vS none 0 0,iI 0,vS none 0 0],has V]:=by rw[hK];exact h
  have c5:St a4 (own 1 (some ⟨J,0,none⟩) 1 1 (iv [st])::_):=bj (cs:=[]) (vs:=iv [st]) (h.pick 8 [2,0,1,3,4,5,6,7]) rfl rfl (afR _)
  have ca:St a4 (own 3 (some ⟨Z,0,none⟩) 1 1 (dV [(some ⟨J,0,none⟩,1)] [lh g uns])::_):=bj (cs:=[]) (vs:=dV [(some ⟨J,0,none⟩,1)] [lh g uns]) (b:=Z) (by
   have:=c5.pick 8 [2,0,1,3,4,5,6,7];rw[agc];have e:dV [(some ⟨J,0,none⟩,1)] [lh g uns]=[iI (g.T:Int),vS (some ⟨J,0,none⟩) 1 1,iI 0]:=rfl;rw[e];exact this) rfl rfl (afR _)
  obtain⟨u,ej⟩:=yz (λ(j:Nat)=>lh g uns::kv g pds uns (g.prods.take j))
  have h:St a4 [own 1 (some ⟨J,0,none⟩) 1 1 (iv [st]),aV (cf [] []),az k54 (K (some ⟨Z,0,none⟩) 1 1),own 3 (some ⟨Z,0,none⟩) 1 1 (dV [(some ⟨J,0,none⟩,1)] [lh g uns]),own 1 na (d_ g uns).length nc ((d_ g uns).map λs=>Value.string s),own 2 ta g.terms.length tc (cJ g.terms),own 1 la g.levels.length lc (iv g.levels),az k2 [vS none 0 0,vS none 0 0,vS none 0 0,iI 0,vS none 0 0],has V]:=by
   have h6:St a4 (aV (cf [] [])::_):=St.flat.2 (show St a4 ([]++_) from ca);exact h6.pick 9 [2,0,3,1,4,5,6,7,8]
  have h:=St.snoc (A:=own 1 (some ⟨J,0,none⟩) 1 1 (iv [st])) (M:=cf [] []) h;have dc:(cf [] []++[own 1 (some ⟨J,0,none⟩) 1 1 (iv [st])])=cf [((some ⟨J,0,none⟩:ahr),1)] [lh g uns]:=by simp_all[cf,lh]
  rw[dc] at h
  have e6:∀j,(u j).length<=1+j:=λj=>by
   rw[ej];have:=agp (u9 g pds uns) (g.prods.take j);simp only[agk,kv,af4]
   grind
  refine⟨_,_,_,B.c4 (sub.trans sH (aA 7 h.l)),λn w'=>∃(j:Nat)(pa:ahr)(pc:Nat)(os:List (ahr×Nat)),n=j/\j<=g.prods.length/\os.length=(u j).length/\St w' [az k54 (K pa (u j).length pc),own 3 pa (u j).length pc (dV os (u j)),aV (cf os (u j)),own 1 na (d_ g uns).length nc ((d_ g uns).map λs=>Value.string s),own 2 ta g.terms.length tc (cJ g.terms),own 1 la g.levels.length lc (iv g.levels),az k2 [vS none 0 0,vS none 0 0,vS none 0 0,iI 0,vS none 0 0],has V],λn _=>g.prods.length-n.toNat,⟨0,some ⟨Z,0,none⟩,1,[(some ⟨J,0,none⟩,1)],rfl,ω,by grind,?_⟩,?_⟩
  ·have e0:u 0=[lh g uns]:=by simp_all[kv]
   rw[e0];exact h.pick 8 [1,2,0,3,4,5,6,7]
  clear h c5 ca;rintro _ n2 ea⟨j,pa,pc,os,rfl,hj,a6,h⟩;refine ae (λh2=>?_) λh2=>?_
  rotate_left
  ·have h2:j=g.prods.length:=by grind
   subst h2;have eP:u g.prods.length=(ia g pds uns).prods:=by grind[ia,List.take_length]
   rw[eP] at h a6;have a0:aj (hp ea) ⟨k54,0,none⟩ (K pa (ia g pds uns).prods.length pc):=af 0 h.l;rw[hK] at a0;refine⟨_,_,_,_,_,_,_,_,_,_,_,_,_,a0.at sZZ rfl,aL (h.pick 8 [6,1,2,3,4,5,7]) rfl (by intro v hv;simp at hv;rcases hv with rfl|rfl|rfl|rfl|rfl<;>rfl) λeS h=>?_⟩;refine⟨_,_,_,_,_,_,_,_,_,_,_,_,_,h.row.at sZZ rfl,λe7 cx=>?_⟩;have h:=h.eq cx;refine hR ⟨ta,g.terms.length,tc,na,(d_ g uns).length,nc,la,g.levels.length,lc,st,pa,(ia g pds uns).prods.length,pc⟩ os e7 ⟨rfl,rfl,rfl,cm,rfl⟩ a6 ?_;exact St.on (N:=[_,_,_,_,_]) (h.pick 7 [1,2,4,3,5,6]) (bH sH)
  have h2:j<g.prods.length:=by simp_all
  obtain⟨p,ad,vs,ei,d9,d4,ra,rl,rc,rfl,eT,bA⟩:=hg.p.get (i:=j) ω;have bc:=afI ei;obtain⟨eG,d6⟩:=iG p bc;have g7:=b7 p bc;have fC:=bA.1;have et:g.prods.take (j+1)=g.prods.take j++[p]:=by grind[List.take_add_one]
  have eI:u (j+1)=u j++(if u9 g pds uns p then[jt g uns p] else[]):=by grind[Rw]
  have cF:=aaO iG hpd (bs:=bs) bc;rw[<-b8,<-c8] at cF;have ey:=e6 j;have Y:∀{w:ahs},sub V (hp w)->sub H (hp w):=λs=>sub.trans sH s
  have ci:∀{w':ahs},u9 g pds uns p=false->St w' [az k54 (K pa (u j).length pc),own 3 pa (u j).length pc (dV os (u j)),aV (cf os (u j)),own 1 na (d_ g uns).length nc ((d_ g uns).map λs=>Value.string s),own 2 ta g.terms.length tc (cJ g.terms),own 1 la g.levels.length lc (iv g.levels),az k2 [vS none 0 0,vS none 0 0,vS none 0 0,iI 0,vS none 0 0],has V]->aD ((j:Int)+1)/\(∃(j':Nat)(pa:ahr)(pc:Nat)(os:List (ahr×Nat)),(j:Int)+1=j'/\j'<=g.prods.length/\os.length=(u j').length/\St w' [az k54 (K pa (u j').length pc),own 3 pa (u j').length pc (dV os (u j')),aV (cf os (u j')),own 1 na (d_ g uns).length nc ((d_ g uns).map λs=>Value.string s),own 2 ta g.terms.length tc (cJ g.terms),own 1 la g.levels.length lc (iv g.levels),az k2 [vS none 0 0,vS none 0 0,vS none 0 0,iI 0,vS none 0 0],has V])/\g.prods.length-((j:Int)+1).toNat<g.prods.length-(j:Int).toNat:=λ{w'} hk h=>by
   have e:u (j+1)=u j:=by grind
   refine⟨⟨ω,ω⟩,⟨j+1,pa,pc,os,σ,ω,by grind,?_⟩,bY h2⟩
   grind
  refine aJ d9 ω ⟨_,_,_,_,_,d4.at (Y (aA 7 h.l)) rfl,ag h λbz f2 h=>aL h rfl (by simp[aK]) λe8 h=>?_⟩;have cg:aj (hp e8) ⟨bz,0,none⟩ [iI p.left,vS ra rl rc,iI p.level]:=af 0 h.l;refine⟨_,r44.cell0 (Y (aA 8 h.l)),_,cg.cell0 sZZ,(KA (hi.mono (Y (aA 8 h.l))) p.left).mono ?_⟩;rintro _ ez⟨rfl,rfl⟩;refine⟨_,rfl,ae (λh5=>ci (by grind) (h.pick 9 [1,2,3,4,5,6,7,8])) λh5=>?_⟩;have h5:hasB bs p.left=true:=by grind
  refine⟨_,_,r27.at (Y (aA 8 h.l)) rfl,_,_,_,cg.cell sZZ (j:=1) rfl,(X0 (hm.mono (Y (aA 8 h.l))) (bA.mono (Y (aA 8 h.l))) ω).mono ?_⟩;rintro _ g0⟨rfl,eb⟩;have h:=h.gr eb;refine⟨_,rfl,ae (λh6=>ci (by grind) (h.pick 9 [1,2,3,4,5,6,7,8])) λh6=>?_⟩;have h6:vW may p.right=true:=by grind
  have fs:u9 g pds uns p=true:=by grind
  intro eU hd;have h:=h.drawn hd;have eL:p.left=((p.left.toNat:Nat):Int):=ω
  refine⟨λw=>aj (hp w) ⟨bz,0,none⟩ [iI p.left,vS ra rl rc,iI p.level]/\sub V (hp w),⟨af 0 h.l,aA 8 h.l⟩,_,_,_,λw s=>bi.cell0 s.2,_,λw s=>s.1.cell0 sZZ,?_⟩;rw[eL];refine ay rfl ω ⟨_,λw s=>bl s.2 ω ω,p.level,λw s=>s.1.cell sZZ (j:=2) rfl,ag h λaa eY h=>⟨⟨by rw[<-eL];exact af 1 h.l,aA 9 h.l⟩,aL h rfl (by simp[aK]) λcC h=>?_⟩⟩;have c6:aj (hp cC) ⟨bz,0,none⟩ [iI p.left,vS ra rl rc,iI p.level]:=af 1 h.l;refine⟨_,_,_,c6.cell sZZ (j:=1) rfl,?_⟩;obtain⟨M,hM⟩:∃M,M=[az k54 (K pa (u j).length pc),own 3 pa (u j).length pc (dV os (u j)),aV (cf os (u j)),own 1 na (d_ g uns).length nc ((d_ g uns).map λs=>Value.string s),own 2 ta g.terms.length tc (cJ g.terms),own 1 la g.levels.length lc (iv g.levels),az k2 [vS none 0 0,vS none 0 0,vS none 0 0,iI 0,vS none 0 0],has V]:=⟨_,rfl⟩;have sM:∀{w:ahs}{A1 A2:aC},St w (A1::A2::M)->sub V (hp w):=λ{w A1 A2} h=>by rw[hM] at h;exact aA 9 h.l
  refine⟨λn w'=>∃(i:Nat)(X:ahr)(W:Nat),n=i/\i<=rl/\St w' (az aa [iI (fG g.T uns p.left),vS X i W,iI p.level]::own 1 X i W (iv ((p.right.take i).map (fG g.T uns)))::M),λn _=>rl-n.toNat,⟨0,none,0,rfl,ω,?_⟩,?_⟩
  ·have h:=aI 1 (h.pick 10 [0,2,3,4,5,6,7,8,9]);rw[hM];exact h.swap
  clear h;rintro _ eB c9⟨i,X,W,rfl,f7,h⟩
  refine ae (λh7=>?_) λh7=>?_
  ·have h7:i<rl:=by grind
   obtain⟨s,f5,cc,d0,eg⟩:=bA.dS h7;have eD:=d6 s (afI cc);have es:s=((s.toNat:Nat):Int):=ω
   have ek:p.right.take (i+1)=p.right.take i++[s]:=by rw[afM,cc];rfl
   refine ay d0 h7 ⟨s,eg _ (Y (sM h)),λf8 hd=>?_⟩;have h:=h.drawn hd;refine⟨λw=>aj (hp w) ⟨aa,0,none⟩ [iI (fG g.T uns p.left),vS X i W,iI p.level]/\sub V (hp w),⟨af 0 h.l,sM h⟩,_,_,_,λw s=>s.1.cell sZZ (j:=1) rfl,_,_,_,λw s=>bi.cell0 s.2,?_⟩;rw[es];refine ay rfl ω ⟨_,λw q=>bl q.2 ω ω,ag h λel f3 h=>⟨⟨af 1 h.l,sM h.tail⟩,?_⟩⟩;refine(aU aT (rfl:ai Ty _=.slice _) (rfl:ai Ty _=.slice _) rfl rfl rfl (h.pick 3 [0,2,1]) rfl (by simp[aK]) (by grind) ω).mono ?_;rintro _ dk⟨o',c',rfl,h⟩;have h:St dk (own 1 o' (i+1) c' (iv ((p.right.take i).map (fG g.T uns))++[iI (fG g.T uns s)])::az el [iI (fG g.T uns s)]::az aa [iI (fG g.T uns p.left),vS X i W,iI p.level]::M):=h;refine⟨_,_,_,rfl,⟨af 2 h.l,sM h.tail⟩,?_⟩;rw[ak];refine aR (h.pick 3 [2,0]) σ λf9 h=>⟨⟨ω,ω⟩,⟨i+1,o',c',σ,ω,?_⟩,bY h7⟩;have e:iv ((p.right.take i).map (fG g.T uns))++[iI (fG g.T uns s)]=iv ((p.right.take (i+1)).map (fG g.T uns)):=by rw[ek];simp[iv]
   rw[e] at h;exact h
  have h7:i=rl:=by grind
  have ba:=h;subst h7;rw[af3 ω] at ba;have h:=ba;have ch:(jt g uns p).right.length=i:=by show(p.right.map _).length=i;grind
  have h:St c9 (az aa (qy ((X,W),jt g uns p))::own 1 X i W (iv (jt g uns p).right)::M):=by
   unfold qy;dsimp only;rw[ch];exact h
  rw[hM] at h;have a0:aj (hp c9) ⟨k54,0,none⟩ (K pa (u j).length pc):=af 2 h.l;rw[hK] at a0;refine⟨_,_,_,a0.cell sZZ (j:=4) rfl,_,_,_,_,_,h.row.at sZZ rfl,ag h λeo cT h=>?_⟩;have h:St cT [az eo (qy ((X,W),jt g uns p)),az aa (qy ((X,W),jt g uns p)),own 1 X i W (iv (jt g uns p).right),az k54 (K pa (u j).length pc),own 3 pa (u j).length pc (dV os (u j)),aV (cf os (u j)),own 1 na (d_ g uns).length nc ((d_ g uns).map λs=>Value.string s),own 2 ta g.terms.length tc (cJ g.terms),own 1 la g.levels.length lc (iv g.levels),az k2 [vS none 0 0,vS none 0 0,vS none 0 0,iI 0,vS none 0 0],has V]:=h;refine(aU aT (rfl:ai Ty _=.slice _) (rfl:ai Ty _=.slice _) rfl rfl rfl (h.pick 11 [0,4,2,3,5,6,7,8,9,10]) rfl (by simp[aK,qy]) (by grind) ω).mono ?_;rintro _ eA⟨a7,a9,rfl,h⟩;refine⟨_,_,_,rfl,?_⟩;refine aR (h.pick 10 [3,0,2,4,5,6,7,8,9]) (by rw[hK];simp) λep h=>?_;have eK:(K pa (u j).length pc).set 4 (vS a7 ((u j).length+1) a9)=K a7 ((u j).length+1) a9:=by rw[hK];rfl
  have bB:u (j+1)=u j++[jt g uns p]:=by grind
  have cp:(u (j+1)).length=(u j).length+1:=by rw[bB,afS];rfl
  have h:St ep [az k54 (K a7 ((u j).length+1) a9),own 3 a7 ((u j).length+1) a9 (dV os (u j)++qy ((X,W),jt g uns p)),own 1 X i W (iv (jt g uns p).right),aV (cf os (u j)),own 1 na (d_ g uns).length nc ((d_ g uns).map λs=>Value.string s),own 2 ta g.terms.length tc (cJ g.terms),own 1 la g.levels.length lc (iv g.levels),az k2 [vS none 0 0,vS none 0 0,vS none 0 0,iI 0,vS none 0 0],has V]:=by rw[<-eK];exact h
  have h:=St.snoc (A:=own 1 X i W (iv (jt g uns p).right)) (M:=cf os (u j)) (h.pick 9 [2,3,0,1,4,5,6,7,8]);have e1:=BN a6 (X,W) (jt g uns p);have e2:=EV a6 (X,W) (jt g uns p);dsimp only at e1;rw[ch] at e1;rw[<-e1,<-e2,<-bB] at h;refine⟨⟨ω,ω⟩,⟨j+1,a7,a9,os++[(X,W)],σ,ω,by rw[cp,afS,a6];rfl,?_⟩,bY h2⟩;rw[cp];exact h.pick 8 [1,2,0,3,4,5,6,7]
 simp[St.pu]
end
structure Saf(g:ah)(A:Int->Int->aE)(G:Int->Int->Int)(t:Int)(Q:List Int->Prop):Prop where
 red:∀l,Q l->(A (ot l) t).kind=2->∃p,0<=(A (ot l) t).to/\g.prods[(A (ot l) t).to.toNat]? =some p/\p.right.length<=l.length/\0<=p.left/\p.left<=1000000/\Q (l.take (l.length-p.right.length)++[G (ot (l.take (l.length-p.right.length))) (p.left-g.T)])
structure TrP where
 kept:Nat
 ab:List Int
 ms:List aE
 o:ahr
 c:Nat
abbrev P9(m:Nat)(x:GA)(T:TypeId)(v:Value)(o:ahr)(n c:Nat):List Value:=[vP (some (aM m)),vS x.ta x.tl x.tc,vS x.na x.nl x.nc,vS x.la x.ll x.lc,iI x.s,vS x.pa x.pl x.pc,.iface T v,vS o n c]
structure TrI(g:ah)(A:Int->Int->aE)(G:Int->Int->Int)(t:Int)(Q:List Int->Prop)(m k b:Nat)(x:GA)(T:TypeId)(v:Value)(st:List Int)(r0:TrR)(L:List aC)(y:TrP)(w:ahs):Prop where
 kl:y.kept<=st.length
 hl:y.kept+y.ab.length<=64
 ml:y.ms.length<=1024
 q:Q (st.take y.kept++y.ab)
 e:Vs g A G t (1024-y.ms.length) (st.take y.kept++y.ab) y.ms=r0
 s:St w (JK m k y.kept y.ab::az b (P9 m x T v y.o y.ms.length y.c)::own 2 y.o y.ms.length y.c (di y.ms)::L)
section
variable{w:ahs}{L:List aC}{g:ah}{A:Int->Int->aE}{G:Int->Int->Int}{t:Int}{Q:List Int->Prop}{m k b:Nat}{x:GA}{T:TypeId}{v:Value}{st:List Int}{r0:TrR}{y0:TrP}{H:Hp}
theorem adg(n:Nat)(l:List Int)(ms:List aE):Vs g A G t n l ms=trB g A G t (match n with|0=>λ_ _=>none|n+1=>Vs g A G t n) l ms:=by cases n<;>rfl
theorem adh(hT:aeU T v H A G)(hQ:Saf g A G t Q)(hb:mi g)(hs:∀h,aG L h->FF h k st/\sub H h/\gR h g x)(h0:TrI g A G t Q m k b x T v st r0 L y0 w):
  ρ 220 [vP (some (aM b)),iI t] w λu w'=>
   (r0=none/\u=.tuple #[vB false,iI 15]/\St w' L)\/
   ∃(y:TrP)(f:Bool),r0=some (f,y.ms,st.take y.kept++y.ab)/\u=.tuple #[vB f,iI 0]/\y.kept<=st.length/\y.kept+y.ab.length<=64/\y.ms.length<=1025/\Q (st.take y.kept++y.ab)/\
    St w' (JK m k y.kept y.ab::az b (P9 m x T v y.o y.ms.length y.c)::own 2 y.o y.ms.length y.c (di y.ms)::L):=by
 refine xz ⟨λu=>∃y,TrI g A G t Q m k b x T v st r0 L y u,Vo (TrI g A G t Q m k b x T v st r0 L) λy=>1024-y.ms.length,⟨y0,h0⟩,?_⟩;intro _ w1 h1;obtain⟨y,⟨kl,hl,ml,q,e,h⟩,cp⟩:=BP (f:=λy:TrP=>1024-y.ms.length) h1;clear h0 h1;have c7:(st.take y.kept++y.ab).length=y.kept+y.ab.length:=by simp_all
 have hL:∀h,aG (az b (P9 m x T v y.o y.ms.length y.c)::own 2 y.o y.ms.length y.c (di y.ms)::L) h->FF h k st:=λh hh=>(hs _ (aq (aq hh))).1;obtain⟨a,ha⟩:∃a,a=A (ot (st.take y.kept++y.ab)) t:=⟨_,rfl⟩;have Z:∀v∈bD a,aK v=true:=λv hv=>by simp[bD] at hv;rcases hv with rfl|rfl<;>rfl
 refine⟨λo u=>∃V,o=some (aM V)/\St u (az V (bD a)::JK m k y.kept y.ab::az b (P9 m x T v y.o y.ms.length y.c)::own 2 y.o y.ms.length y.c (di y.ms)::L),λw2 hd=>?_,?_⟩
 ·have h2:=h.drawn hd
  refine⟨λu=>aj (hp u) (aM b) (P9 m x T v y.o y.ms.length y.c),af 1 h2.l,T,v,λu r=>r.cell sZZ (j:=6) rfl,some (aM m),λu r=>r.cell0 sZZ,?_,?_⟩
  ·refine(WW h2 hL kl ω).mono ?_;rintro _ w5⟨rfl,e5⟩;have h5:=h2.eq e5
   refine⟨_,rfl,af 1 h5.l,?_,?_⟩
   ·obtain⟨g',cs,c1,c2⟩:=hT.act w5 (ot (st.take y.kept++y.ab)) t (hs _ h5.tail.tail.tail).2.1;refine⟨g',cs,c1,c2.mono ?_⟩;rintro _ w6⟨rfl,g6⟩;rw[<-ha];exact⟨_,_,rfl,ag (h5.gr g6) λV w7 h7=>⟨af 2 h7.l,aL h7 rfl Z λw8 Z=>⟨V,rfl,Z⟩⟩⟩
   ·refine ag h5 λk2 w9 h9=>⟨af 2 h9.l,?_⟩;obtain⟨g',cs,c1,c2⟩:=hT.act w9 (ot (st.take y.kept++y.ab)) t (hs _ h9.tail.tail.tail.tail).2.1;refine⟨g',cs,c1,c2.mono ?_⟩;rintro _ cx⟨rfl,b4⟩;rw[<-ha];exact⟨_,_,rfl,aL (h9.gr b4) rfl Z λw8 Z=>⟨k2,rfl,Z⟩⟩
  ·refine ag h2 λk3 cz a6=>⟨af 2 a6.l,(WW a6.swap (λh hh=>hL h (aq hh)) kl ω).mono ?_⟩;rintro _ bB⟨rfl,bl⟩;have a4:=a6.eq bl;obtain⟨g',cs,c1,c2⟩:=hT.act bB (ot (st.take y.kept++y.ab)) t (hs _ a4.tail.tail.tail.tail).2.1;refine⟨_,rfl,af 2 a4.l,g',cs,c1,c2.mono ?_⟩;rintro _ ck⟨rfl,bA⟩;rw[<-ha];exact⟨_,_,rfl,aL (a4.gr bA) rfl Z λw8 Z=>⟨k3,rfl,Z⟩⟩
 ·rintro _ _ cT⟨V,rfl,h⟩
  have app:∀{u:ahs}{K:ahs->Prop},St u (az V (bD a)::JK m k y.kept y.ab::az b (P9 m x T v y.o y.ms.length y.c)::own 2 y.o y.ms.length y.c (di y.ms)::L)->
    (∀u' O J,St u' (JK m k y.kept y.ab::az b (P9 m x T v O (y.ms++[a]).length J)::own 2 O (y.ms++[a]).length J (di (y.ms++[a]))::az V (bD a)::L)->K u')->
    ∀u1,drawn u u1->∃I:ahs->Prop,I u1/\∃o4 k4 k5,(∀a9,I a9->a9.cell? ((aM b).add 7)=some (vS o4 k4 k5))/\∃al b3,(∀am,I am->rowAt am (aM V) 0 2=some [iI al,iI b3])/\
     new u1 (oC [iI al,iI b3] qM) λk6 a8=>I a8/\rS (fX bw (Array.mk [vS o4 k4 k5,vS (some (aM k6)) 1 1])) a8 λv8 a0=>∃o5 k7 k8,v8=vS o5 k7 k8/\I a0/\st1 a0 ((aM b).add 7) (vS o5 k7 k8) K:=by
   intro u K h hK u1 hd;have h:=h.drawn hd;refine⟨λz=>aj (hp z) (aM b) (P9 m x T v y.o y.ms.length y.c)/\aj (hp z) (aM V) (bD a),⟨af 2 h.l,af 0 h.l⟩,_,_,_,λz r=>r.1.cell sZZ (j:=7) rfl,_,_,λz r=>r.2.at sZZ rfl,ag h λk6 a8 h=>⟨⟨af 3 h.l,af 1 h.l⟩,?_⟩⟩;refine(aU (us:=di y.ms) (vs:=bD a) aT (rfl:ai Ty _=.slice _) (rfl:ai Ty _=.slice _) rfl rfl rfl (h.pick 5 [0,4,1,2,3]) rfl Z (by grind) ω).mono ?_;rintro _ a0⟨O,J,rfl,h⟩;refine⟨_,_,_,rfl,⟨af 4 h.l,af 2 h.l⟩,?_⟩;rw[ak];have h:St a0 (az b (P9 m x T v y.o y.ms.length y.c)::own 2 O (y.ms.length+1) J (di y.ms++bD a)::JK m k y.kept y.ab::az V (bD a)::L):=h.pick 5 [4,0,3,2];refine aR h σ λcA h=>hK _ O J ?_;have e:di (y.ms++[a])=di y.ms++bD a:=by simp[di]
   rw[e,afS,ag8];exact h.pick 4 [2,0,1,3]
  rw[adg] at e;unfold trB at e;rw[<-ha] at e
  refine⟨a.kind,h.cell 0,ae (λh1=>?_) λh1=>ae (λh2=>?_) λh2=>ae (λh3=>?_) λh3=>?_⟩
  ·have hk:a.kind=1:=by grind
   rw[afZ hk] at e;refine⟨some (aM m),(af 2 h.l).cell0 sZZ,(Hy h.swap ω ω).mono ?_⟩;rintro _ cu⟨rfl,b6⟩;have h:=h.eq b6
   refine⟨_,rfl,ae (λY=>?_) λY=>?_⟩
   ·have Y:=afO Y;rw[afZ ω] at e;exact .inl ⟨e.symm,rfl,h.tail.tail.tail.tail⟩
   ·have Y:=afN Y;rw[afV ω] at e;exact app h λw' O J h=>.inr ⟨⟨y.kept,y.ab,y.ms++[a],O,J⟩,true,e.symm,rfl,kl,hl,by simp_all,q,h.pick 4 [0,1,2]⟩
  ·have W:¬a.kind=1:=by grind
   have hk:a.kind=3:=by grind
   rw[afV W,afZ hk] at e;exact app h λw' O J h=>.inr ⟨⟨y.kept,y.ab,y.ms++[a],O,J⟩,true,e.symm,rfl,kl,hl,by simp_all,q,h.pick 4 [0,1,2]⟩
  ·have W:¬a.kind=1:=by grind
   have a5:¬a.kind=3:=by grind
   have hk:a.kind=2:=by grind
   rw[afV W,afV a5,afZ hk] at e;obtain⟨p,p0,p1,p2,p4,p5,p3⟩:=hQ.red _ q (by simp_all);rw[<-ha] at p0 p1;rw[p1] at e;dsimp only at e
   refine⟨_,_,_,(af 2 h.l).cell sZZ (j:=7) rfl,ae (λY=>?_) λY=>?_⟩
   ·have Y:=afO Y;have h7:1024-y.ms.length=0:=ω
    rw[h7] at e;dsimp only at e;exact .inl ⟨by grind,rfl,h.tail.tail.tail.tail⟩
   have Y:=afN Y;refine app h λd3 O J h=>λcc hd=>?_;have h:=h.drawn hd;obtain⟨n1,c8⟩:∃n1,n1=(y.ms++[a]).length:=⟨_,rfl⟩;have ci:n1=y.ms.length+1:=by simp_all
   rw[<-c8] at h;obtain⟨h0,b1,h⟩:=St.lj [_,_,_,_] (M:=L) h;obtain⟨sk,sH,hg⟩:=hs h0 b1;obtain⟨i,hi⟩:∃i:Nat,a.to=i:=⟨a.to.toNat,ω⟩;rw[hi,afU] at p1;obtain⟨ad,vs,be,av,pa,pl,pc,rfl,_,bc⟩:=hg.p.2 i p p1;have c9:i<x.pl:=by rw[<-hg.p.1];grind
   have b7:p.right.length=pl:=bc.1;have bP:(g.T:Int)=x.tl:=by have:=hg.t.1;show(g.terms.length:Int)=_;omega
   have cI:x.tl<=17592186044416:=by rw[<-hg.t.1];exact hb.1
   refine⟨λz=>aj (hp z) (aM b) (P9 m x T v O n1 J)/\aj (hp z) (aM V) (bD a)/\sub h0 (hp z),⟨af 1 h.l,af 3 h.l,aA 4 h.l⟩,x.pa,x.pl,x.pc,λz r=>by rw[add_add];exact r.1.cell sZZ (j:=5) rfl,a.to,λz r=>r.2.1.cell sZZ (j:=1) rfl,?_⟩;rw[hi];refine aJ be c9 ⟨p.left,pa,pl,pc,p.level,λz r=>(av.mono r.2.2).at sZZ rfl,ag h λa7 cd h=>⟨⟨af 2 h.l,af 4 h.l,aA 5 h.l⟩,aL h rfl (by intro v hv;simp at hv;rcases hv with rfl|rfl|rfl<;>rfl) λcg h=>λcm hd=>?_⟩⟩;have h:=h.drawn hd;refine⟨λz=>aj (hp z) (aM b) (P9 m x T v O n1 J)/\aj (hp z) (aM a7) [iI p.left,vS pa pl pc,iI p.level],⟨af 2 h.l,af 0 h.l⟩,some (aM m),λz r=>r.1.cell0 sZZ,pa,pl,pc,λz r=>r.2.cell sZZ (j:=1) rfl,?_⟩;have bi:pl<=y.kept+y.ab.length:=ω
   refine(aeD (n:=pl) h.swap ω ω bi).mono ?_;rintro _ cF⟨rfl,h⟩;obtain⟨U,b2⟩:∃U,U=y.kept-(pl-y.ab.length):=⟨_,rfl⟩;obtain⟨ab,aa⟩:∃ab,ab=y.ab.take (y.ab.length-pl):=⟨_,rfl⟩;rw[<-b2,<-aa] at h;have ca:ab.length=y.ab.length-pl:=by grind
   have c6:(st.take y.kept++y.ab).take ((st.take y.kept++y.ab).length-p.right.length)=st.take U++ab:=by
    rw[c7,b7,List.take_append,b2,aa,List.take_take,agj]
    grind
   have b5:(st.take y.kept++y.ab).length-p.right.length=U+ab.length:=ω
   rw[c6] at e p3;rw[b5] at e;have c5:∀h,aG (az a7 [iI p.left,vS pa pl pc,iI p.level]::az b (P9 m x T v O n1 J)::own 2 O n1 J (di (y.ms++[a]))::az V (bD a)::[has h0]) h->FF h k st:=λh hh=>sk.mono (aA 4 hh);have back:∀{u:ahs}{X:List aC},St u (X++[has h0])->St u (X++L):=λh=>h.on b1
   refine⟨_,rfl,λz u=>(64<=U+ab.length/\z=15/\St u L)\/(U+ab.length<64/\z=0/\St u (JK m k U (ab++[G (ot (st.take U++ab)) (p.left-g.T)])::az b (P9 m x T v O n1 J)::own 2 O n1 J (di (y.ms++[a]))::L)),λch hd=>?_,?_⟩
   ·have h:=h.drawn hd;refine⟨λz=>aj (hp z) (aM b) (P9 m x T v O n1 J)/\aj (hp z) (aM a7) [iI p.left,vS pa pl pc,iI p.level],⟨af 2 h.l,af 1 h.l⟩,some (aM m),λz r=>r.1.cell0 sZZ,T,v,λz r=>r.1.cell sZZ (j:=6) rfl,some (aM m),λz r=>r.1.cell0 sZZ,p.left,λz r=>r.2.cell0 sZZ,x.ta,x.tl,x.tc,λz r=>r.1.cell sZZ (j:=1) rfl,⟨ω,ω⟩,?_⟩;refine(WW h c5 ω ω).mono ?_;rintro _ bz⟨rfl,ba⟩;have h:=h.eq ba;obtain⟨g',cs,c1,c2⟩:=hT.tgt bz (ot (st.take U++ab)) (p.left-x.tl) (sH.trans (aA 5 h.l));refine⟨_,rfl,⟨af 2 h.l,af 1 h.l⟩,g',cs,c1,c2.mono ?_⟩;rintro _ cC⟨rfl,b8⟩;have h:=h.gr b8;rw[<-bP];refine⟨_,rfl,⟨af 2 h.l,af 1 h.l⟩,(acI (z:=G (ot (st.take U++ab)) (p.left-g.T)) h ω ω).mono ?_⟩
    rintro _ d0 (⟨f1,rfl,f2⟩|⟨f1,rfl,h⟩)
    ·have h:=h.eq f2;exact⟨_,rfl,⟨af 2 h.l,af 1 h.l⟩,.inl ⟨f1,rfl,back (X:=[]) h.tail.tail.tail.tail.tail⟩⟩
    ·exact⟨_,rfl,⟨af 2 h.l,af 1 h.l⟩,.inr ⟨f1,rfl,back (X:=[_,_,_]) (h.pick 5 [0,2,3])⟩⟩
   ·rintro _ _ bb (⟨f1,rfl,h⟩|⟨f1,rfl,h⟩)
    ·rw[afZ f1] at e;exact dL rfl (.inl ⟨e.symm,rfl,h⟩)
    ·rw[afV ω] at e;have hf:1024-y.ms.length=(1024-(y.ms++[a]).length)+1:=ω
     rw[hf] at e;dsimp only at e
     have hI:TrI g A G t Q m k b x T v st r0 L ⟨U,ab++[G (ot (st.take U++ab)) (p.left-g.T)],y.ms++[a],O,J⟩ bb:=by
      refine⟨by grind,by grind,by grind,?_,?_,?_⟩
      ·show Q (st.take U++(ab++[_]));rw[<-af0];exact p3
      ·grind
      grind
     refine bn rfl ⟨⟨_,hI⟩,?_⟩;have h1:=Am (f:=λy:TrP=>1024-y.ms.length) hI
     grind
  ·have W:¬a.kind=1:=by grind
   have a5:¬a.kind=3:=by grind
   have bT:¬a.kind=2:=by grind
   rw[afV W,afV a5,afV bT] at e;exact .inr ⟨⟨y.kept,y.ab,y.ms,y.o,y.c⟩,false,e.symm,rfl,kl,hl,by grind,q,h.tail⟩
end
section
variable{g:ah}{nn:List Bool}{ss:List SQ}
theorem Tn(hc:ax g)(hA:bR g ss){q m d:Nat}{r:SQ}{p:aO}{s:Int}(hq:ss[q]? =some r)(hy:wi g r.1.2 ⟨(m:Int),(d:Int)⟩)(hp:g.prods[m]? =some p)(hs:p.right[d]? =some s)(hT:(g.T:Int)<=s):∃(v j:Nat)(r':SQ),(bW g ss)[v]? =some ⟨(q:Int),s⟩/\dm ss q s=some (j:Int)/\ss[j]? =some r'/\(⟨(m:Int),((d+1:Nat):Int)⟩:au)∈r'.1.2:=by
 obtain⟨j,r',J,u,O⟩:=yx hc hA hq hy (mD hp hs) ω
 grind[XN]
end
inductive Rx (g:ah) (ss:List SQ):Nat->Nat->Nat->Nat->Prop
 |st:Rx g ss 0 0 0 0
 |sh (q m d j x:Nat) (p:aO) (s:Int):g.prods[m]? =some p->p.right[d]? =some s->dm ss q s=some (j:Int)->Rx g ss q m d x->Rx g ss j m (d+1) x
 |fs (q m d n x:Nat) (p p':aO) (s:Int) (r:SQ):ss[q]? =some r->wi g r.1.2 ⟨(m:Int),(d:Int)⟩->g.prods[m]? =some p->p.right[d]? =some s->g.prods[n]? =some p'->p'.left=s->Cv g (p.right.drop (d+1)) x->Rx g ss q n 0 x
 |up (q m d n x:Nat) (p p':aO) (s:Int):g.prods[m]? =some p->p.right[d]? =some s->g.prods[n]? =some p'->p'.left=s->Xl g (p.right.drop (d+1))->Rx g ss q m d x->Rx g ss q n 0 x
section
variable{g:ah}{nn:List Bool}{ss:List SQ}
theorem Rx.Nf(hc:ax g)(hA:bR g ss){m i x:Nat}{p:aO}(hp:g.prods[m]? =some p)(h:Rx g ss i m 0 x)(hi:i<ss.length):∀(d q:Nat),d<=p.right.length->dy ss (i:Int) (p.right.take d)=(q:Int)->Rx g ss q m d x/\q<ss.length
 |0,q,_,hw=>by
  rw[List.take_zero] at hw
  have hw:(i:Int)=q:=hw
  grind
 |d+1,q,hd,hw=>by
  have hs:p.right[d]? =some p.right[d]:=afJ ω
  rw[cQ hs,Ct (λi s j h=>fe hc hA h) _ _ _ (agu _) ω] at hw
  obtain⟨k,hk⟩:∃k,k=dy ss (i:Int) (p.right.take d):=⟨_,rfl⟩
  rw[<-hk] at hw
  by_cases h0:k=-1
  ·omega
  ·rw[afV h0] at hw
   have hk0:0<=k:=by
    rcases Cr (ss:=ss) (λi s j h=>fe hc hA h) (p.right.take d) i (agu _) ω with h|h
    ·omega
    omega
   obtain⟨k',rfl⟩:∃k':Nat,k=k':=⟨k.toNat,ω⟩
   obtain⟨ih,ihl⟩:=Rx.Nf hc hA hp h hi d k' ω hk.symm
   rw[oI,afU] at hw
   cases hn:dm ss k' p.right[d] with
   |none=>simp_all
   |some j=>
    rw[hn] at hw
    have hw:dy ss j []=(q:Int):=hw
    have hj:j=q:=hw
    subst hj
    obtain⟨_,_,_,_,_,_,hto⟩:=qB hn
    exact⟨.sh k' m d q x p _ hp hs hn ih,(fe hc hA hn).2 |> λh=>ω⟩
theorem adi(hc:ax g){p:aO}(hp:p∈g.prods){s:Int}(hs:s∈p.right):s≠g.T:=by
 obtain⟨_,V,u,X,O,U,J,_⟩:=hc;obtain⟨n,hn⟩:=agb hp;cases n with
 |zero=>
  rw[O] at hn;cases hn;rw[J,af_] at hs;have:=u.2.2.2.2.1;omega
 |succ n=>
  have W:p∈g.prods.drop 1:=by
   refine afI (i:=n) ?_
   simp_all
  have:=(u.2.2.1 p W).2 s hs
  grind[oW]
theorem To(hc:ax g){n:Nat}{p p':aO}{s:Int}(hp:p∈g.prods)(hs:s∈p.right)(hn:g.prods[n]? =some p')(hl:p'.left=s):n≠0:=λh=>by
 subst h
 have h:=adi hc hp hs
 obtain⟨_,_,_,O,J,u,_⟩:=hc
 simp_all
theorem aaQ(hc:ax g)(hA:bR g ss)(hn:u6 g nn){v x:Nat}(h:h_ (A7 g nn ss) (Ta g nn ss) v x):∀(i:Nat) t,(bW g ss)[v]? =some t->t.st=i->∀(n:Nat) p',g.prods[n]? =some p'->p'.left=t.sym->Rx g ss i n 0 x:=by
 refine h_.least (Q:=λv x=>∀(i:Nat) t,(bW g ss)[v]? =some t->t.st=i->∀(n:Nat) p',g.prods[n]? =some p'->p'.left=t.sym->Rx g ss i n 0 x) (λv x hx i t ht hi n p' U hl=>?_) (λv u x hu ih i t ht hi n p' U hl=>?_) h
 ·rw[Rr (afK.1 ht).1] at hx;obtain⟨x',e,_,hh⟩:=mu.1 hx;have:x'=x:=ω
  subst this;obtain⟨X,j,q,r,f1,hq,f3,f4,f5,hr,a4⟩:=A_ hc hA ht;have:X=i:=ω
  subst this
  rcases aaB hc hA hn hh X j t ht f1 f4 with⟨rfl,rfl⟩|W
  ·have hi:X=0:=by grind
   subst hi;obtain⟨_,_,_,p0,a0,a8,a6,_⟩:=hc;exact .up 0 0 0 n 0 p0 p' _ a0 (by simp_all) U hl (λs Y=>by simp_all) .st
  ·obtain⟨z,hz,hf⟩:=W.item hc hA r hr;rw[a4] at hz;obtain⟨y,h1,Z,rfl⟩:=dW.1 hz;obtain⟨p,hp,Y,_⟩:=CF (y:=y) (by rw[Z];omega);obtain⟨hT,hN,hP,a7,_,_⟩:=hc.cX;have hK:=(mq hA hq).1;have J:=h1.fit ((jC (g:=g) ω X).fit _ (afI hK));have hd:(y.dot+1).toNat=y.dot.toNat+1:=by have:=J.2.1;omega
   unfold rest at hf;rw[show g.prods[((⟨y.prod,y.dot+1⟩:au).prod).toNat]? =some p from hp] at hf;have hf:Cv g (p.right.drop (y.dot+1).toNat) x':=hf;rw[hd] at hf;rw[Z] at Y;refine .fs X y.prod.toNat y.dot.toNat n x' p p' _ q hq ?_ hp Y U hl hf
   have e:(⟨(y.prod.toNat:Int),(y.dot.toNat:Int)⟩:au)=y:=by
    have a1:=J.1;have a2:=J.2.1;cases y;grind
   simp_all
 ·obtain⟨h1,Z,O⟩:=XM.1 hu;have V:(bW g ss)[u]? =some (bW g ss)[u]:=afJ Z;unfold Cx at O;rw[V] at O;simp only[List.any_eq_true] at O;obtain⟨m,hm,O⟩:=O;rw[afX] at O;obtain⟨_,O⟩:=O;cases hp:g.prods[m]? with
  |none=>simp_all
  |some p=>
   rw[hp] at O;simp only[afX,List.any_eq_true,aga] at O;obtain⟨h4,k,hk,W,h6⟩:=O;have hk:=agd.1 hk;rw[ht] at W;have W:=Option.some.inj W;subst W;obtain⟨i0,j0,q0,_,f1,a5,_⟩:=A_ hc hA V;have Y:p.right[k]? =some (p.right.getD k 0):=by simp_all
   have hi:dy ss (bW g ss)[u].st (p.right.take k)=(i:Int):=hi;rw[f1] at hi;have hb:=ih i0 _ V f1 m p hp h4;have:=(hb.Nf hc hA hp (afK.1 a5).1 k i ω hi).1;exact .up i m k n x p p' _ hp Y U hl ((Pa hc hn).1 h6) this
structure afx(g:ah)(nn:List Bool)(ss:List SQ)(q m d x:Nat):Prop where
 it:∃r,ss[q]? =some r/\wi g r.1.2 ⟨(m:Int),(d:Int)⟩
 pr:∃p,g.prods[m]? =some p/\d<=p.right.length/\(m=0->x=0/\dy ss 0 (p.right.take d)=(q:Int))/\
  (m≠0->∃(i v:Nat),(bW g ss)[v]? =some ⟨(i:Int),p.left⟩/\dy ss (i:Int) (p.right.take d)=(q:Int)/\h_ (A7 g nn ss) (Ta g nn ss) v x)
theorem Rx.inv(hc:ax g)(hA:bR g ss)(hn:u6 g nn){q m d x:Nat}(h:Rx g ss q m d x):afx g nn ss q m d x:=by
 have a8:=hc;obtain⟨_,_,aa,p0,a6,b1,a5,_⟩:=a8;have am:=aa.2.2.2.2.1;have a0:=hA.pos
 induction h with
 |st=>
  obtain⟨r,U⟩:∃r,ss[0]? =some r:=⟨_,afJ a0⟩;have hK:=(mq hA U).1
  have e:r.1.2=[⟨0,0⟩]:=by
   have:(fK g 0).1[0]? =some [⟨0,0⟩]:=rfl
   simp_all
  exact⟨⟨r,U,.base (by simp_all)⟩,p0,a6,afL _,λ_=>⟨rfl,rfl⟩,λh=>absurd rfl h⟩
 |sh q m d j x p s hp O hj _ ih=>
  obtain⟨⟨r,U,J⟩,p',a4,hd,h0,h1⟩:=ih;rw[hp] at a4;cases a4;have W:=(afK.1 O).1;have av:=hc.sym (afI hp) (afI O);obtain⟨j',r',e1,e2,e3⟩:=yx hc hA U J (mD hp O) ω;rw[hj] at e1;have:j=j':=by grind
  subst this
  have step:∀i:Nat,i<ss.length->dy ss (i:Int) (p.right.take d)=(q:Int)->dy ss (i:Int) (p.right.take (d+1))=(j:Int):=λi hi hw=>by
   rw[cQ O,Ct (λi s j h=>fe hc hA h) _ _ _ (agu _) ω,hw,afV ω,oI,afU,hj];rfl
  refine⟨⟨r',e2,.base (by simp_all)⟩,p,hp,W,λY=>⟨(h0 Y).1,?_⟩,λY=>?_⟩
  ·grind
  ·obtain⟨i,v,q1,q2,q3⟩:=h1 Y;obtain⟨i',_,q',_,f1,ad,_⟩:=A_ hc hA q1
   grind
 |fs q m d n x p p' s r U J hp O hn' hl hf=>
  have V:(g.T:Int)<=s:=by rw[<-hl];exact hc.left (afI hn')
  obtain⟨v,j,r',Z,f1,f2,f3⟩:=Tn hc hA U J hp O V;have X:=To hc (afI hp) (afI O) hn' hl;refine⟨⟨r,U,.step J (by grind[mD]) hn' (by simp_all[mD])⟩,p',hn',afL _,λh=>absurd h X,λ_=>⟨q,v,by simp_all,rfl,h_.iff.2 (.inl ?_)⟩⟩;have hh:=(JZ.ac3 hc hA hp f2 (.base f3) hf).has hc hA hn v q _ Z rfl f1;have al:=aeS hc hA hh;obtain⟨sT,_⟩:=hc.cX;rw[Rr (afK.1 Z).1];exact mu.2 ⟨x,rfl,ω,hh⟩
 |up q m d n x p p' s hp O hn' hl hnu _ ih=>
  obtain⟨⟨r,U,J⟩,p2,a7,hd,h0,h1⟩:=ih;rw[hp] at a7;cases a7;have V:(g.T:Int)<=s:=by rw[<-hl];exact hc.left (afI hn')
  obtain⟨v,j,r',Z,f1,f2,f3⟩:=Tn hc hA U J hp O V;have X:=To hc (afI hp) (afI O) hn' hl;refine⟨⟨r,U,.step J (by grind[mD]) hn' (by simp_all[mD])⟩,p',hn',afL _,λh=>absurd h X,λ_=>⟨q,v,by simp_all,rfl,?_⟩⟩
  by_cases Y:m=0
  ·subst Y;obtain⟨rfl,hw⟩:=h0 rfl;rw[a6] at hp;cases hp;have W:=(afK.1 O).1;rw[a5] at W;have a9:d=0:=by simp_all
   subst a9;have hq:(0:Int)=q:=hw;have hq:q=0:=ω
   subst hq;rw[a5] at O;have O:g.start=s:=Option.some.inj O;subst O;obtain⟨sT,_⟩:=hc.cX;have hd:h_ (xQ g nn ss) (vV g ss) v 0:=h_.iff.2 (.inl ((ML hc hA Z rfl f1).2 (.inl ⟨rfl,rfl⟩)));refine h_.iff.2 (.inl ?_);rw[Rr (afK.1 Z).1];exact mu.2 ⟨0,rfl,ω,hd⟩
  ·obtain⟨i,u,hu,hw,hh⟩:=h1 Y;refine h_.iff.2 (.inr ⟨u,XM.2 ⟨(afK.1 Z).1,(afK.1 hu).1,?_⟩,hh⟩);unfold Cx;rw[hu];simp only[List.any_eq_true,agd];refine⟨m,(afK.1 hp).1,?_⟩;rw[agt Y,ahm,hp];simp only[decide_true,ahm,List.any_eq_true,agd,afX,aga]
   grind[List.getElem?_eq_some_iff,Pa]
theorem Ya(hc:ax g)(hA:bR g ss)(hn:u6 g nn){q m:Nat}{p:aO}(hp:g.prods[m]? =some p)(hm:m≠0){z:Int}:z∈(nE g (Ro g nn ss) ⟨(q:Int),(m:Int),dz (bW g ss).length (gd g ss q m)⟩).tm↔∃x:Nat,z=x/\x<g.T/\Rx g ss q m p.right.length x:=by
 rw[XP];refine exists_congr λx=>and_congr_right λ_=>and_congr_right λhx=>?_
 constructor
 ·rintro⟨t,ht,hf⟩;obtain⟨u,rfl,X,hb⟩:=gb.1 ht;have ht:(bW g ss)[u]? =some (bW g ss)[u]:=afJ X;obtain⟨U,p',J,hw⟩:=(yD ht).1 hb;rw[hp] at J;cases J;obtain⟨_,p2,O,hl⟩:=qC.1 U;rw[hp] at O;cases O;rw[afU,XO X] at hf;obtain⟨x',e,_,hh⟩:=mu.1 hf;have:x'=x:=ω
  subst this;obtain⟨i,_,q0,_,f1,V,_⟩:=A_ hc hA ht;have h0:=aaQ hc hA hn hh i _ ht f1 m p hp hl;rw[f1] at hw;exact(h0.Nf hc hA hp (afK.1 V).1 p.right.length q (afR _) (by simp_all)).1
 ·intro h;obtain⟨_,p',J,_,_,h1⟩:=h.inv hc hA hn;rw[hp] at J;cases J;obtain⟨i,v,W,Z,q3⟩:=h1 hm;rw[af7] at Z;have Y:=(afK.1 W).1;obtain⟨sT,_⟩:=hc.cX;refine⟨(v:Int),gb.2 ⟨v,rfl,Y,(yD W).2 ⟨qC.2 ⟨ω,p,hp,rfl⟩,p,hp,Z⟩⟩,?_⟩;rw[afU,XO Y];exact mu.2 ⟨x,rfl,ω,q3⟩
end
inductive Tr where
 |lf (s:Int) (k:Nat)
 |nd (n:Nat) (l:List Tr)
abbrev CM:=Int×Nat×Tr
def eM:List CM->Nat
 |[]=>0
 |e::_=>e.2.1
def zA(ss:List SQ):List CM->Prop
 |[]=>True
 |e::l=>dm ss (eM l) e.1=some (e.2.1:Int)/\zA ss l
section
variable{g:ah}{nn:List Bool}{ss:List SQ}{A:Nat->Int->aE}{G:Nat->Int->Nat}
theorem Yb{q:Nat}{s j:Int}(h:dm ss q s=some j):q<ss.length:=by
 obtain⟨r,_,_,u,_⟩:=qB h;exact(afK.1 u).1
end
section
variable{g:ah}{nn:List Bool}{ss:List SQ}{A:Nat->Int->aE}{G:Nat->Int->Nat}
theorem Ry(hA:bR g ss)(hc:ax g):∀{l:List CM},zA ss l->∃r,ss[eM l]? =some r
 |[],_=>⟨_,afJ hA.pos⟩
 |e::l,h=>by
  obtain⟨h1,h2⟩:=fe hc hA h.1
  exact⟨_,afJ (by show e.2.1<_;omega)⟩
theorem Pl:∀{l:List CM}(n:Nat),zA ss l->zA ss (l.drop n)
 |l,0,h=>h
 |[],n+1,h=>h
 |e::l,n+1,h=>Pl (l:=l) n h.2
theorem Pm(hA:bR g ss){r:SQ}(hr:ss[0]? =some r):r.1.2=[⟨0,0⟩]:=by
 have u:=(mq hA hr).1;have:(fK g 0).1[0]? =some [⟨0,0⟩]:=rfl;rw[this] at u;exact(Option.some.inj u).symm
theorem Pn(hc:ax g)(hA:bR g ss){m:Nat}{p:aO}(hp:g.prods[m]? =some p):∀(d:Nat)(l:List CM)(r:SQ),zA ss l->ss[eM l]? =some r->wi g r.1.2 ⟨(m:Int),(d:Int)⟩->
  d<=l.length/\((l.take d).map (·.1)).reverse=p.right.take d/\∃r',ss[eM (l.drop d)]? =some r'/\wi g r'.1.2 ⟨(m:Int),0⟩
 |0,l,r,_,hr,hy=>⟨afL _,σ,r,hr,hy⟩
 |d+1,l,r,hw,hr,hy=>by
  have hx:(⟨(m:Int),((d+1:Nat):Int)⟩:au)∈r.1.2:=by
   generalize hz:(⟨(m:Int),((d+1:Nat):Int)⟩:au)=z at hy
   cases hy with
   |base h=>subst hz;exact h
   |step _ _ _ _=>have:=congrArg au.dot hz;simp at this;omega
  cases l with
  |nil=>
   have hr:ss[0]? =some r:=hr
   rw[Pm hA hr,af_] at hx
   have:=congrArg au.dot hx
   simp at this
   omega
  |cons e l=>
   obtain⟨q0,k,ed,hq0,he,he1,he2⟩:=qB hw.1
   obtain⟨_,_,j,r2,hj,_,hr2,hrk,_⟩:=fv hc hA hq0 he
   have hr:ss[e.2.1]? =some r:=hr
   have:j=e.2.1:=ω
   subst this
   rw[hr] at hr2;cases hr2
   rw[hrk,he1] at hx
   obtain⟨y,hy1,hy2,hy3⟩:=dW.1 hx
   have e4:y=⟨(m:Int),(d:Int)⟩:=by
    cases y
    simp only[au.mk.injEq] at hy3 ⊢
    omega
   subst e4
   obtain⟨i1,i2,i3⟩:=Pn hc hA hp d l q0 hw.2 hq0 hy1
   have hf:p.right[d]? =some e.1:=by
    rw[wR (p:=p) (by show g.prods[(m:Int).toNat]? =_;rw[afU];exact hp)] at hy2
    have hy2:p.right.getD (d:Int).toNat (-1)=e.1:=hy2
    rw[afU,afP] at hy2
    cases hg:p.right[d]? with
    |none=>
     rw[hg] at hy2
     have hpos:=(fv hc hA hq0 he).1
     have hy2:(-1:Int)=e.1:=hy2
     omega
    |some s=>rw[hg] at hy2;rw[show s=e.1 from hy2]
   refine⟨by simp;omega,?_,?_⟩
   ·rw[List.take_succ_cons,agv,List.reverse_cons,i2,afM,hf]
    rfl
   ·simpa using i3
structure Sd(g:ah)(ss:List SQ)(A:Nat->Int->aE)(G:Nat->Int->Nat):Prop where
 sh:∀(q t:Nat),q<ss.length->t<g.T->(A q t).kind=1->dm ss q (t:Int)=some (A q t).to
 rd:∀(q t:Nat)(r:SQ),ss[q]? =some r->t<g.T->(A q t).kind=2->∃(m:Nat)(p:aO),(A q t).to=m/\m≠0/\g.prods[m]? =some p/\wi g r.1.2 ⟨(m:Int),(p.right.length:Int)⟩
 ac:∀(q t:Nat)(r:SQ),ss[q]? =some r->t<g.T->(A q t).kind=3->t=0/\(⟨0,1⟩:au)∈r.1.2
 gt:∀(q j:Nat)(s:Int),(g.T:Int)<=s->dm ss q s=some (j:Int)->G q s=j
theorem Sd.reduce(hc:ax g)(hA:bR g ss)(hS:Sd g ss A G){l:List CM}{t:Nat}(hw:zA ss l)(ht:t<g.T)(hk:(A (eM l) t).kind=2):
  ∃(m:Nat)(p:aO),(A (eM l) t).to=m/\m≠0/\g.prods[m]? =some p/\p.right.length<=l.length/\((l.take p.right.length).map (·.1)).reverse=p.right/\
   dm ss (eM (l.drop p.right.length)) p.left=some (G (eM (l.drop p.right.length)) p.left:Int):=by
 obtain⟨r,U⟩:=Ry hA hc hw;obtain⟨m,p,Y,V,u,h4⟩:=hS.rd _ t r U ht hk;obtain⟨W,Z,r',J,i3⟩:=Pn hc hA u _ l r hw U h4;have hb:=aam hc hA J u i3;rw[agt V] at hb;obtain⟨j,O⟩:=ahh.1 hb;have X:=(fe hc hA O).1;obtain⟨j,rfl⟩:∃n:Nat,j=n:=⟨j.toNat,ω⟩;refine⟨m,p,Y,V,u,W,by rw[Z,af7],?_⟩;rw[O,hS.gt _ _ _ (hc.left (afI u)) O]
end
def wj(l:List CM):List Int:=(l.map λe=>(e.2.1:Int)).reverse
theorem fU(l:List CM):(wj l).length=l.length:=by simp[wj]
theorem xX(e:CM)(l:List CM):wj (e::l)=wj l++[(e.2.1:Int)]:=by simp[wj]
theorem yG(l:List CM):ot (wj l)=(eM l:Int):=by
 cases l with
 |nil=>rfl
 |cons e l=>
  rw[xX];unfold ot;rw[List.getLast_cons σ,List.getLast_append_of_ne_nil _ σ];rfl
theorem Iv(l:List CM)(n:Nat)(h:n<=l.length):(wj l).take ((wj l).length-n)=wj (l.drop n):=by grind[fU,wj,List.take_reverse,List.length_map,List.map_drop]
def Iw(G:Nat->Int->Nat)(m:Nat)(p:aO)(l:List CM):List CM:=(p.left,G (eM (l.drop p.right.length)) p.left,.nd m ((l.take p.right.length).map (·.2.2)).reverse)::l.drop p.right.length
inductive Yc (g:ah) (A:Nat->Int->aE) (G:Nat->Int->Nat) (t:Int):List CM->List aE->List CM->Prop
 |nil (l:List CM):Yc g A G t l [] l
 |cons (l:List CM) (m:Nat) (p:aO) (ms:List aE) (l':List CM):A (eM l) t=⟨2,(m:Int)⟩->g.prods[m]? =some p->p.right.length<=l.length->(l.drop p.right.length).length<64->Yc g A G t (Iw G m p l) ms l'->Yc g A G t l (⟨2,(m:Int)⟩::ms) l'
section
variable{g:ah}{ss:List SQ}{A:Nat->Int->aE}{G:Nat->Int->Nat}{A':Int->Int->aE}{G':Int->Int->Int}{t:Nat}
structure adj(g:ah)(ss:List SQ)(A:Nat->Int->aE)(G:Nat->Int->Nat)(A':Int->Int->aE)(G':Int->Int->Int):Prop where
 a:∀(q:Nat)(t:Int),A' q t=A q t
 g:∀(q:Nat)(s:Int),(∃j,dm ss q s=some j)->(g.T:Int)<=s->G' q (s-g.T)=(G q s:Int)
theorem Sd.Nf(hc:ax g)(hA:bR g ss)(hS:Sd g ss A G){l:List CM}(hw:zA ss l)(ht:t<g.T)(hk:(A (eM l) t).kind=2):
  ∃(m:Nat)(p:aO),A (eM l) t=⟨2,(m:Int)⟩/\g.prods[m]? =some p/\p.right.length<=l.length/\zA ss (Iw G m p l)/\(g.T:Int)<=p.left/\dm ss (eM (l.drop p.right.length)) p.left=some (G (eM (l.drop p.right.length)) p.left:Int):=by
 obtain⟨m,p,V,U,J,O,W,u⟩:=hS.reduce hc hA hw ht hk;refine⟨m,p,?_,J,O,⟨u,Pl _ hw⟩,hc.left (afI J),u⟩;cases ha:A (eM l) t
 simp_all
theorem adk(hc:ax g)(hA:bR g ss)(hb:mi g)(hS:Sd g ss A G)(hN:adj g ss A G A' G')(ht:t<g.T)(hl:∀p∈g.prods,p.left<=1000000):Saf g A' G' t λl=>∃es,zA ss es/\l=wj es where
 red:=by
  rintro _⟨es,X,rfl⟩ u;rw[yG,hN.a] at u ⊢;obtain⟨m,p,U,J,W,Y,O,V⟩:=hS.Nf hc hA X ht u;rw[U];refine⟨p,agu _,by simp_all,by simp_all[fU],ω,hl p (afI J),Iw G m p es,Y,?_⟩;rw[Iv _ _ W,yG,hN.g _ _ ⟨_,V⟩ O];exact(xX (p.left,G (eM (es.drop p.right.length)) p.left,Tr.nd m ((es.take p.right.length).map (·.2.2)).reverse) (es.drop p.right.length)).symm
theorem adl(hc:ax g)(hA:bR g ss)(hS:Sd g ss A G)(hN:adj g ss A G A' G')(ht:t<g.T):∀(n:Nat){l:List CM}{ms ms2:List aE}{st:List Int}{f:Bool},zA ss l->Vs g A' G' t n (wj l) ms=some (f,ms2,st)->
  ∃rs l',Yc g A G t l rs l'/\zA ss l'/\st=wj l'/\
   ((f=true/\(A (eM l') t).kind=1/\l'.length<64/\ms2=ms++rs++[A (eM l') t])\/(f=true/\(A (eM l') t).kind=3/\ms2=ms++rs++[A (eM l') t])\/
    (f=false/\(A (eM l') t).kind≠1/\(A (eM l') t).kind≠2/\(A (eM l') t).kind≠3/\ms2=ms++rs)):=by
 intro n
 induction n with
 |zero=>
  intro l ms ms2 st f u h;unfold Vs trB at h;rw[yG,hN.a,fU] at h
  split at h
  ·rename_i h1
   split at h
   ·grind
   ·cases h;exact⟨[],l,.nil l,u,rfl,.inl ⟨rfl,h1,ω,σ⟩⟩
  ·rename_i h1
   split at h
   ·rename_i h3;cases h;exact⟨[],l,.nil l,u,rfl,.inr (.inl ⟨rfl,h3,σ⟩)⟩
   ·rename_i h3
    split at h
    ·grind
    ·rename_i h2;cases h;exact⟨[],l,.nil l,u,rfl,.inr (.inr ⟨rfl,h1,h2,h3,σ⟩)⟩
 |succ n ih=>
  intro l ms ms2 st f u h;unfold Vs trB at h;rw[yG,hN.a,fU] at h
  split at h
  ·rename_i h1
   split at h
   ·grind
   ·cases h;exact⟨[],l,.nil l,u,rfl,.inl ⟨rfl,h1,ω,σ⟩⟩
  ·rename_i h1
   split at h
   ·rename_i h3;cases h;exact⟨[],l,.nil l,u,rfl,.inr (.inl ⟨rfl,h3,σ⟩)⟩
   ·rename_i h3
    split at h
    ·rename_i h2;obtain⟨m,p,g1,g2,g3,W,X,J⟩:=hS.Nf hc hA u ht h2;rw[g1,afU,g2] at h;dsimp only at h
     split at h
     ·grind
     ·rename_i h4;rw[<-fU l,Iv _ _ g3,yG,hN.g _ _ ⟨_,J⟩ X] at h;have e:wj (l.drop p.right.length)++[(G (eM (l.drop p.right.length)) p.left:Int)]=wj (Iw G m p l):=(xX (p.left,G (eM (l.drop p.right.length)) p.left,Tr.nd m ((l.take p.right.length).map (·.2.2)).reverse) (l.drop p.right.length)).symm;rw[e] at h;obtain⟨rs,l',O,V,U,Y⟩:=ih W h;refine⟨_::rs,l',.cons l m p rs l' g1 g2 g3 (by simp_all) O,V,U,?_⟩
      simp_all
    ·rename_i h2;cases h;exact⟨[],l,.nil l,u,rfl,.inr (.inr ⟨rfl,h1,h2,h3,σ⟩)⟩
end
structure NdT where
 sym:Int
 prod:Int
 tok:Int
 kids:List Int
deriving DecidableEq
instance:Inhabited NdT:=⟨⟨0,0,0,[]⟩⟩
inductive F0 (g:ah) (nd:List NdT):List Tr->List Nat->List Nat->Prop
 |nil:F0 g nd [] [] []
 |lf (s:Int) (k i:Nat) (l:List Tr) (r z:List Nat):nd[i]? =some ⟨s,-1,k,[]⟩->F0 g nd l r z->F0 g nd (.lf s k::l) (i::r) (i::z)
 |nd (n:Nat) (p:aO) (ks l:List Tr) (kids r y z:List Nat) (i:Nat):nd[i]? =some ⟨p.left,n,0,kids.map λ(j:Nat)=>(j:Int)⟩->g.prods[n]? =some p->(∀k∈kids,k<i)->F0 g nd ks kids y->F0 g nd l r z->F0 g nd (.nd n ks::l) (i::r) (i::(y++z))
section
variable{g:ah}{nd nd':List NdT}{l l':List Tr}{r r' z z':List Nat}
theorem F0.lt(h:F0 g nd l r z):∀i∈z,i<nd.length:=by
 induction h with
 |nil=>simp
 |lf s k i l r z h1 _ ih=>
  grind
 |nd n p ks l kids r y z i h1 _ _ _ _ ih1 ih2=>
  grind
theorem F0.sub(h:F0 g nd l r z):r.Sublist z:=by
 induction h with
 |nil=>simp
 |lf s k i l r z _ _ ih=>simp_all
 |nd n p ks l kids r y z i _ _ _ _ _ ih1 ih2=>simp_all
theorem F0.app(h:F0 g nd l r z)(h':F0 g nd l' r' z'):F0 g nd (l++l') (r++r') (z++z'):=by
 induction h with
 |nil=>grind
 |lf s k i l r z h1 _ ih=>exact .lf s k i _ _ _ h1 ih
 |nd n p ks l kids r y z i h1 h2 h3 h4 _ _ ih=>
  have:=F0.nd n p ks _ kids _ y _ i h1 h2 h3 h4 ih
  simp_all
theorem F0.mono(h:F0 g nd l r z)(hn:∀(i:Nat)(x:NdT),nd[i]? =some x->nd'[i]? =some x):F0 g nd' l r z:=by
 induction h with
 |nil=>exact .nil
 |lf s k i l r z h1 _ ih=>exact .lf s k i _ _ _ (hn _ _ h1) ih
 |nd n p ks l kids r y z i h1 h2 h3 _ _ ih1 ih2=>exact .nd n p ks _ kids _ y _ i (hn _ _ h1) h2 h3 ih1 ih2
theorem F0.split:∀{l:List Tr}{z:List Nat}{r:List Nat},l.length=r.length->F0 g nd (l++l') (r++r') z->∃z1 z2,z=z1++z2/\F0 g nd l r z1/\F0 g nd l' r' z2
 |[],z,[],_,h=>⟨[],z,rfl,.nil,h⟩
 |t::l,z,i::r,hl,h=>by
  generalize e1:t::l++l'=a at h
  generalize e2:i::r++r'=b at h
  cases h with
  |nil=>grind
  |lf s k i2 l2 r2 z2 h1 h2=>
   cases e1;cases e2
   obtain⟨z1,z3,rfl,f1,f2⟩:=F0.split (by simp_all) h2
   exact⟨_,z3,rfl,.lf s k _ _ _ _ h1 f1,f2⟩
  |nd n p ks l2 kids r2 y z2 i2 h1 h2 h3 h4 h5=>
   cases e1;cases e2
   obtain⟨z1,z3,rfl,f1,f2⟩:=F0.split (by simp_all) h5
   exact⟨_,z3,σ,.nd n p ks _ kids _ y _ _ h1 h2 h3 h4 f1,f2⟩
end
structure da where
 es:List CM
 ids:List Nat
 nd:List NdT
 tk:List Bool
 mv:List (aE×Nat)
 de:Nat
 ov:Bool
def da.new:da:=⟨[],[],[],[],[],0,false⟩
def xY(tk:List Bool)(ks:List Nat):List Bool:=ks.foldl (λl k=>l.set k true) tk
def Ix(t:Nat)(q:Nat)(y:da):da:={ y with es:=((t:Int),q,.lf t y.de)::y.es,ids:=y.nd.length::y.ids,nd:=y.nd++[⟨t,-1,y.de,[]⟩],tk:=y.tk++[false],mv:=y.mv++[(⟨1,q⟩,y.de)] }
def F1(G:Nat->Int->Nat)(m:Nat)(p:aO)(y:da):da:={ y with es:=Iw G m p y.es,ids:=y.nd.length::y.ids.drop p.right.length,nd:=y.nd++[⟨p.left,m,0,(y.ids.take p.right.length).reverse.map λ(j:Nat)=>(j:Int)⟩],tk:=xY y.tk (y.ids.take p.right.length).reverse++[false],mv:=y.mv++[(⟨2,m⟩,y.de)] }
def UO(a:aE)(y:da):da:={ y with mv:=y.mv++[(a,y.de)],ov:=true }
def Ew(g:ah)(G:Nat->Int->Nat)(t:Nat)(y:da)(a:aE):da:=
 if a.kind=1 then Ix t a.to.toNat y else if a.kind=2 then(match g.prods[a.to.toNat]? with|some p=>F1 G a.to.toNat p y|none=>y) else UO a y
def Iy(t:Nat)(y:da):da:=if 0<t then{ y with de:=y.de+1 } else y
structure fV(g:ah)(ss:List SQ)(y:da):Prop where
 Nf:zA ss y.es
 il:y.ids.length=y.es.length
 hl:y.es.length<=64
 tl:y.tk.length=y.nd.length
 fr:∃z,F0 g y.nd (y.es.map (·.2.2)).reverse y.ids.reverse z/\z.Nodup
 tk:∀i∈y.ids,y.tk[i]? =some false
 nl:y.nd.length<=y.mv.length
 kl:∀x∈y.nd,x.kids.length<=64
section
variable{g:ah}{ss:List SQ}{y:da}{A:Nat->Int->aE}{G:Nat->Int->Nat}
theorem fV.new:fV g ss da.new:=⟨trivial,rfl,afL _,rfl,⟨[],.nil,.nil⟩,λi hi=>(by cases hi),afR _,λx u=>(by cases u)⟩
theorem fV.nd(h:fV g ss y):y.ids.Nodup/\∀i∈y.ids,i<y.nd.length:=by
 obtain⟨z,u,J⟩:=h.fr;have O:=u.sub.nodup J;refine⟨(List.reverse_perm _).nodup_iff.1 O,λi hi=>u.lt i (u.sub.subset (List.mem_reverse.2 hi))⟩
theorem CN(ks:List Nat):∀tk:List Bool,(xY tk ks).length=tk.length:=by
 induction ks with
 |nil=>exactλ_=>rfl
 |cons k ks ih=>simp_all[xY]
theorem Tp{i:Nat}(ks:List Nat):∀{tk:List Bool},i∉ks->(xY tk ks)[i]? =tk[i]?:=by
 induction ks with
 |nil=>exactλ_=>rfl
 |cons k ks ih=>
  intro tk h
  show(xY (tk.set k true) ks)[i]? =_
  grind
theorem Gq{α:Type}{l m:List α}{i:Nat}{x:α}(h:l[i]? =some x):(l++m)[i]? =some x:=by grind
theorem fV.sh(h:fV g ss y){t q:Nat}(hn:dm ss (eM y.es) (t:Int)=some (q:Int))(hl:y.es.length<64):fV g ss (Ix t q y):=by
 obtain⟨z,J,O⟩:=h.fr;have U:=h.nd
 refine⟨⟨hn,h.Nf⟩,by simp[Ix,h.il],by grind[Ix],by simp[Ix,h.tl],⟨z++[y.nd.length],?_,?_⟩,λi hi=>?_,by have:=h.nl;simp_all[Ix],λx u=>?_⟩
 ·have e:=(J.mono (nd':=y.nd++[⟨(t:Int),-1,y.de,[]⟩]) λi x=>Gq).app (.lf (t:Int) y.de y.nd.length [] [] [] σ .nil)
  simp_all[Ix]
 ·rw[agw];refine⟨O,σ,λa ha b hb=>?_⟩;have:=J.lt a ha
  grind
 ·have hi:i∈y.nd.length::y.ids:=hi
  show(y.tk++[false])[i]? =some false
  rcases af6.1 hi with rfl|hi
  ·rw[<-h.tl];simp
  ·exact Gq (h.tk i hi)
 ·rcases afT.1 u with u|u
  ·exact h.kl x u
  simp_all
theorem fV.rd(h:fV g ss y){m:Nat}{p:aO}(hp:g.prods[m]? =some p)(hk:p.right.length<=y.es.length)(hw:zA ss (Iw G m p y.es))(hl:(y.es.drop p.right.length).length<64):fV g ss (F1 G m p y):=by
 obtain⟨z,J,U⟩:=h.fr;have V:=h.nd;have a0:=h.il;simp only[ag3] at hl;have Y:(y.es.map (·.2.2)).reverse=((y.es.drop p.right.length).map (·.2.2)).reverse++((y.es.take p.right.length).map (·.2.2)).reverse:=σ
 have Z:y.ids.reverse=(y.ids.drop p.right.length).reverse++(y.ids.take p.right.length).reverse:=σ
 rw[Y,Z] at J;obtain⟨z1,X,rfl,f1,O⟩:=J.split (by simp_all);rw[agw] at U;obtain⟨n1,n2,n3⟩:=U;have W:∀i x,y.nd[i]? =some x->(y.nd++[⟨p.left,m,0,(y.ids.take p.right.length).reverse.map λ(j:Nat)=>(j:Int)⟩])[i]? =some x:=λi x=>Gq
 refine⟨hw,by grind[F1,Iw],by grind[F1,Iw],by simp[F1,CN,h.tl],⟨z1++y.nd.length::(X++[]),?_,?_⟩,λi hi=>?_,by have:=h.nl;simp_all[F1],λx u=>?_⟩
 ·have e:=(f1.mono W).app (.nd m p _ [] _ [] X [] y.nd.length σ hp (λk hk=>V.2 k (List.mem_of_mem_take (List.mem_reverse.1 hk))) (O.mono W) .nil)
  simp_all[F1,Iw]
 ·rw[agc,agw];refine⟨n1,agB.2 ⟨λu=>by have:=O.lt _ u;omega,n2⟩,λa ha b hb=>?_⟩
  rcases af6.1 hb with rfl|hb
  ·have:=f1.lt a ha;omega
  simp_all
 ·have hi:i∈y.nd.length::y.ids.drop p.right.length:=hi
  show(xY y.tk (y.ids.take p.right.length).reverse++[false])[i]? =some false
  rcases af6.1 hi with rfl|hi
  ·rw[<-h.tl,<-CN (y.ids.take p.right.length).reverse y.tk];simp
  ·refine Gq ?_;rw[Tp,h.tk i (List.mem_of_mem_drop hi)];intro u;have u:=List.mem_reverse.1 u;have:=V.1;rw[<-af9 p.right.length y.ids,agw] at this
   grind
 ·rcases afT.1 u with u|u
  ·exact h.kl x u
  ·rw[af_.1 u];have:=h.hl
   grind
theorem fV.ac(h:fV g ss y)(a:aE):fV g ss (UO a y):=⟨h.Nf,h.il,h.hl,h.tl,h.fr,h.tk,by have:=h.nl;grind[UO],h.kl⟩
theorem fV.fin(h:fV g ss y)(t:Nat):fV g ss (Iy t y):=by
 unfold Iy
 split
 ·exact⟨h.Nf,h.il,h.hl,h.tl,h.fr,h.tk,h.nl,h.kl⟩
 omega
end
def noG:GA:=⟨none,0,0,none,0,0,none,0,0,0,none,0,0⟩
theorem MP{w:ahs}{M:List aC}(h:St w M):St w (vm nF noG []++M):=by
 have J:St w (own 1 none 0 0 []::M):=aI 1 h;have u:St w (own 1 none 0 0 []::_):=aI 1 J;have U:St w (own 2 none 0 0 []::_):=aI 2 u;have O:St w (aV (cf [] [])::_):=St.flat.2 (show St w ([]++_) from U);exact aI 3 O
section
variable{w:ahs}{g:ah}{x:GA}{a:ahr}{l c:Nat}
theorem tI{ts:List mP}(hr:aY (hp w) ts a l)(hb:ts.length*24<=140737488355328)(hb2:ts.length<=9223372036854775807):ρ 170 [vS a l c] w λv w'=>∃o c',v=vS o ts.length c'/\St w' (own 2 o ts.length c' (cJ ts)::all w):=by
 refine jc ?_;have hl:=hr.1;cases a with
 |none=>
  have h0:ts=[]:=by
   cases ts with
   |nil=>rfl
   |cons t ts=>obtain⟨U,_,e,_⟩:=hr.2 0 t rfl;cases e
  subst h0;exact⟨none,0,rfl,aI 2 (St.all w)⟩
 |some U=>
  refine ag (St.all w) λb Z O=>?_;have X:St Z (own 2 (some ⟨b,0,none⟩) 0 0 []::all w):=bj (cs:=[]) O rfl rfl (afR _);have hr:=hr.mono O.aQ
  refine(ja aT (rfl:ai Ty _=.slice _) rfl rfl rfl X (n:=l) (news:=cJ ts) (gk aT (rfl:ai Ty _=.slice _) (by rw[Hm,hl]) (.inr ⟨U,rfl,λj u V=>(ZX hr).cell sZZ V⟩) (by
   intro u Y;obtain⟨t,_,ht⟩:=agN.1 Y;simp[Hl] at ht;rcases ht with rfl|rfl<;>rfl)) (by show(0+l)*24<=_;omega) ω).mono ?_
  rintro _ w2⟨W,c',rfl,J⟩;rw[ahj,<-hl] at J ⊢;rw[agY] at J;exact⟨_,_,_,rfl,W,c',rfl,J⟩
theorem dB{xs:List Int}(hr:aY (hp w) xs a l)(hb:xs.length*8<=140737488355328)(hb2:xs.length<=9223372036854775807):ρ 115 [vS a l c] w λv w'=>∃o c',v=vS o xs.length c'/\St w' (own 1 o xs.length c' (iv xs)::all w):=by
 refine iD ?_;have hl:=hr.1;cases a with
 |none=>
  have h0:xs=[]:=by
   cases xs with
   |nil=>rfl
   |cons t ts=>obtain⟨U,_,e,_⟩:=hr.2 0 t rfl;cases e
  subst h0;exact⟨none,0,rfl,aI 1 (St.all w)⟩
 |some U=>
  refine ag (St.all w) λb Z O=>?_;have X:St Z (own 1 (some ⟨b,0,none⟩) 0 0 []::all w):=bj (cs:=[]) O rfl rfl (afR _);have hr:=hr.mono O.aQ
  refine(ja aT (rfl:ai Ty _=.slice _) rfl rfl rfl X (n:=l) (news:=iv xs) (gk aT (rfl:ai Ty _=.slice _) (by rw[cZ,hl,agE]) (by
    rcases hr.iv with h0|⟨a0,e,hc⟩
    ·exact .inl (by have:=congrArg List.length h0;rw[cZ,hl] at this;exact this)
    ·cases e;exact .inr ⟨U,rfl,λj u V=>jA (hc j u V)⟩) (by
   intro u Y;obtain⟨t,_,rfl⟩:=afW.1 Y;rfl)) (by show(0+l)*8<=_;omega) ω).mono ?_
  rintro _ w2⟨W,c',rfl,J⟩;rw[ahj,<-hl] at J ⊢;rw[agY] at J;exact⟨_,_,_,rfl,W,c',rfl,J⟩
theorem Yd(hg:gR (hp w) g x)(hb:mi g)(ht:dK (hp w)):ρ 82 [.agg ⟨x.cells⟩] w λv w'=>∃(x':GA)(G:ah)(os:List (ahr×Nat))(e:Int),v=.tuple #[.agg ⟨x'.cells⟩,iI e]/\BO G x'/\os.length=G.prods.length/\MO g e G/\St w' (vm G x' os++all w):=by
 refine D3 ?_;refine gH hg λk1 w1 gw hg B=>?_;have gs:sub (hp w) (hp w1):=gw;have h1:=St.all w1;unfold Proofs.YtaoaemnefghnbaaGreatDoor.all at h1;have bB:=hg.s;have ca:=hg.t.1;have ci:=hg.l.1;have ht1:dK (hp w1):=ec.mono gw ht;generalize hH:hp w1=H at*;refine ag h1 λk2 w2 h=>?_;refine⟨_,_,_,_,_,_,_,_,_,_,_,_,_,B.row (aA 1 h.l),(LV (x:=x) (hg.mono (aA 1 h.l)) hb).mono ?_⟩;rintro _ w3⟨⟨r1,rfl,e1⟩,g3⟩;have h:=h.gr g3
 have ad:∀{w4:ahs}{e:Int}{M:List aC},MO g e nF->St w4 (az k2 [vS none 0 0,vS none 0 0,vS none 0 0,iI 0,vS none 0 0]::M)->(∀h,aG M h->sub H h)->∀w5,hp w5=hp w4->∃(x':GA)(G:ah)(os:List (ahr×Nat))(e':Int),Value.tuple #[.agg #[vS none 0 0,vS none 0 0,vS none 0 0,iI 0,vS none 0 0],iI e]=.tuple #[.agg ⟨x'.cells⟩,iI e']/\BO G x'/\os.length=G.prods.length/\MO g e' G/\St w5 (vm G x' os++all w):=λ{w4 e M} hr h hM w5 h5=>by
  refine⟨noG,nF,[],e,rfl,⟨rfl,rfl,rfl,rfl,rfl⟩,rfl,hr,MP ?_⟩;exact bH (sub.trans gs (by rw[h5];exact hM _ h.tail))
 refine⟨_,rfl,ae (λa5=>?_) λa5=>?_⟩
 ·have hn:¬mj g:=λJ=>by rw[e1.2 J] at a5;cases a5
  exact aL h rfl (by intro v J;simp at J;rcases J with rfl|rfl|rfl|rfl|rfl<;>rfl) λw4 h=>⟨_,_,_,_,_,_,_,_,_,_,_,_,_,h.row.at sZZ rfl,ad (.inl ⟨hn,rfl,rfl⟩) h λ_ hh=>aA 0 hh⟩
 have J:mj g:=e1.1 (by simpa using a5);have he:bZ g:=.inl J;obtain⟨iG,bT,bN,pN,pT,bP⟩:=Jc he;obtain⟨ck,c9⟩:=tF he;refine⟨_,_,_,_,_,_,_,_,_,_,_,_,_,B.row (aA 1 h.l),(uN (x:=x) (hg.mono (aA 1 h.l)) hb he).mono ?_⟩;rintro _ w6⟨pm,W,rfl,a0,h6⟩;have h:=h6.fb h;refine⟨_,_,rfl,ag h λb8 w7 h=>aL h rfl (by simp[aK]) λw8 h=>?_⟩;have a6:aj (hp w8) ⟨b8,0,none⟩ [.pointer (some ⟨pm,0,none⟩),iI (g.T:Int)]:=af 0 h.l;have al:eH (hp w8) (some ⟨pm,0,none⟩) W:=h.swap.eH;refine⟨_,a6.cell0 sZZ,_,B.c3 (aA 3 h.l),?_⟩;rw[bB];refine(KA al g.start).mono ?_;rintro _ w9⟨rfl,rfl⟩;have av:hasB W g.start=true↔Pd g g.start:=by rw[tG ω,a0.2,jX ω]
 refine⟨_,rfl,ae (λa4=>?_) λa4=>?_⟩
 ·have hn:¬Pd g g.start:=λbA=>by rw[av.2 bA] at a4;cases a4
  exact aL (h.pick 4 [2,0,1,3]) rfl (by intro v J;simp at J;rcases J with rfl|rfl|rfl|rfl|rfl<;>rfl) λcd h=>⟨_,_,_,_,_,_,_,_,_,_,_,_,_,h.row.at sZZ rfl,ad (.inr (.inl ⟨J,hn,rfl,rfl⟩)) h λ_ hh=>aA 2 hh⟩
 have ba:Pd g g.start:=av.1 (by simpa using a4);refine⟨_,_,_,_,_,_,_,_,_,_,_,_,_,B.row (aA 3 h.l),_,_,a6.at sZZ rfl,(It (x:=x) (hg.mono (aA 3 h.l)) hb he al a0).mono ?_⟩;rintro _ ch⟨pi,bs,rfl,aa,be⟩;have h:=be.fb h;refine⟨_,_,rfl,ag h λc5 cg h=>aL h rfl (by simp[aK]) λbi h=>?_⟩;obtain⟨Y,Z,h⟩:=St.lj [_] (M:=[_,_,_,_,_]) (h.pick 6 [4,0,1,2,3,5]);have sH:sub H Y:=aA 4 Z;have bb:aj Y ⟨c5,0,none⟩ [.pointer (some ⟨pi,0,none⟩),iI (g.T:Int)]:=af 0 Z;have bl:aj Y ⟨b8,0,none⟩ [.pointer (some ⟨pm,0,none⟩),iI (g.T:Int)]:=af 2 Z;have bc:eH Y (some ⟨pi,0,none⟩) bs:=abV 1 Z;have bz:eH Y (some ⟨pm,0,none⟩) W:=abV 3 Z;have O:gR Y g x:=hg.mono sH;have BH:GB Y k1 x:=⟨λs=>B.c0 (sub.trans sH s),λs=>B.c1 (sub.trans sH s),λs=>B.c2 (sub.trans sH s),λs=>B.c3 (sub.trans sH s),λs=>B.c4 (sub.trans sH s),λs=>B.row (sub.trans sH s)⟩;have c6:dK Y:=ec.mono sH ht1;have h:St bi [az k2 [vS none 0 0,vS none 0 0,vS none 0 0,iI 0,vS none 0 0],has Y]:=h;obtain⟨b1,b2,b3,b4,b5,b6,b7⟩:=id hb;have c7:g.T=g.terms.length:=rfl
 have a9:∀(x':GA) os w',BO (ia g (W.drop g.T) (bs.drop g.T)) x'->os.length=(ia g (W.drop g.T) (bs.drop g.T)).prods.length->St w' (vm (ia g (W.drop g.T) (bs.drop g.T)) x' os++[has Y])->∃(a8:GA)(G:ah)(am:List (ahr×Nat))(e:Int),Value.tuple #[.agg ⟨x'.cells⟩,iI 0]=.tuple #[.agg ⟨a8.cells⟩,iI e]/\BO G a8/\am.length=G.prods.length/\MO g e G/\St w' (vm G a8 am++all w):=λx' os w' h1 h2 h3=>
  ⟨x',_,os,0,rfl,h1,h2,.inr (.inr ⟨J,ba,rfl,_,_,a0.cM,aa.cM,rfl⟩),St.on (N:=[_,_,_,_,_]) h3 (bH (sub.trans gs sH))⟩
 refine⟨λo u=>∃(X a7 cT cL:Nat)(oT V:ahr),o=some (aM X)/\St u [az X [vS oT g.terms.length cT,vS (some ⟨a7,0,none⟩) 1 1,vS V g.levels.length cL,iI 0,vS none 0 0],own 2 oT g.terms.length cT (cJ g.terms),own 1 (some ⟨a7,0,none⟩) 1 1 [.string .empty],own 1 V g.levels.length cL (iv g.levels),az k2 [vS none 0 0,vS none 0 0,vS none 0 0,iI 0,vS none 0 0],has Y],λc8 hd=>?_,?_⟩
 rotate_left
 ·rintro _ _ cc⟨X,a7,cT,cL,oT,V,rfl,h⟩;exact adf O BH hb he a0 aa bz bc bl bb c6 h a9
 have h:=h.drawn hd;clear a9;refine⟨λw=>sub Y (hp w),aA 1 h.l,_,_,_,λw s=>BH.c0 s,_,_,_,λw s=>BH.c2 s,?_⟩
 refine⟨?_,?_,?_⟩
 ·refine(tI (O.t.mono (aA 1 h.l)) ω ω).mono ?_;rintro _ _⟨oT,cT,rfl,hN⟩;have h:=hN.fb h;refine⟨_,_,_,rfl,aA 2 h.l,?_⟩
  refine⟨?_,?_,?_⟩
  ·refine(dB (O.l.mono (aA 2 h.l)) ω ω).mono ?_;rintro _ _⟨V,cL,rfl,hN⟩;have h:=hN.fb h;refine⟨_,_,_,rfl,aA 3 h.l,?_⟩
   refine⟨?_,?_⟩
   ·refine ag h λkS _ h=>⟨aA 4 h.l,?_⟩;refine ag h λX _ h=>⟨aA 5 h.l,?_⟩;have h:=bj (cs:=[]) (vs:=[.string .empty]) (l:=1) (c:=1) (sz:=1) (h.pick 6 [1,0,3,2,4,5]) rfl rfl (afR _);refine aL (h.pick 6 [1,2,0,3,4,5]) rfl (by intro v J;simp at J;rcases J with rfl|rfl|rfl|rfl|rfl<;>rfl) λU h=>?_;exact⟨_,_,_,_,_,_,rfl,h⟩
   ·refine ag h λX _ h=>⟨aA 4 h.l,?_⟩;refine ag h λkS _ h=>⟨aA 5 h.l,?_⟩;have h:=bj (cs:=[]) (vs:=[.string .empty]) (l:=1) (c:=1) (sz:=1) (h.pick 6 [0,1,3,2,4,5]) rfl rfl (afR _);refine aL (h.pick 6 [1,2,0,3,4,5]) rfl (by intro v J;simp at J;rcases J with rfl|rfl|rfl|rfl|rfl<;>rfl) λU h=>?_;exact⟨_,_,_,_,_,_,rfl,h⟩
  ·refine ag h λkS _ h=>⟨aA 3 h.l,?_⟩
   refine⟨?_,?_⟩
   ·refine(dB (O.l.mono (aA 3 h.l)) ω ω).mono ?_;rintro _ _⟨V,cL,rfl,hN⟩;have h:=hN.fb h;refine⟨_,_,_,rfl,aA 4 h.l,?_⟩;refine ag h λX _ h=>⟨aA 5 h.l,?_⟩;have h:=bj (cs:=[]) (vs:=[.string .empty]) (l:=1) (c:=1) (sz:=1) (h.pick 6 [2,0,3,1,4,5]) rfl rfl (afR _);refine aL (h.pick 6 [1,2,0,3,4,5]) rfl (by intro v J;simp at J;rcases J with rfl|rfl|rfl|rfl|rfl<;>rfl) λU h=>?_;exact⟨_,_,_,_,_,_,rfl,h⟩
   ·refine ag h λX _ h=>⟨aA 4 h.l,?_⟩;refine(dB (O.l.mono (aA 4 h.l)) ω ω).mono ?_;rintro _ _⟨V,cL,rfl,hN⟩;have h:=hN.fb h;refine⟨_,_,_,rfl,aA 5 h.l,?_⟩;have h:=bj (cs:=[]) (vs:=[.string .empty]) (l:=1) (c:=1) (sz:=1) (h.pick 6 [2,1,3,0,4,5]) rfl rfl (afR _);refine aL (h.pick 6 [1,2,0,3,4,5]) rfl (by intro v J;simp at J;rcases J with rfl|rfl|rfl|rfl|rfl<;>rfl) λU h=>?_;exact⟨_,_,_,_,_,_,rfl,h⟩
  ·refine ag h λX _ h=>⟨aA 3 h.l,?_⟩
   refine⟨?_,?_⟩
   ·refine(dB (O.l.mono (aA 3 h.l)) ω ω).mono ?_;rintro _ _⟨V,cL,rfl,hN⟩;have h:=hN.fb h;refine⟨_,_,_,rfl,aA 4 h.l,?_⟩;refine ag h λkS _ h=>⟨aA 5 h.l,?_⟩;have h:=bj (cs:=[]) (vs:=[.string .empty]) (l:=1) (c:=1) (sz:=1) (h.pick 6 [0,2,3,1,4,5]) rfl rfl (afR _);refine aL (h.pick 6 [1,2,0,3,4,5]) rfl (by intro v J;simp at J;rcases J with rfl|rfl|rfl|rfl|rfl<;>rfl) λU h=>?_;exact⟨_,_,_,_,_,_,rfl,h⟩
   ·refine ag h λkS _ h=>⟨aA 4 h.l,?_⟩;refine(dB (O.l.mono (aA 4 h.l)) ω ω).mono ?_;rintro _ _⟨V,cL,rfl,hN⟩;have h:=hN.fb h;refine⟨_,_,_,rfl,aA 5 h.l,?_⟩;have h:=bj (cs:=[]) (vs:=[.string .empty]) (l:=1) (c:=1) (sz:=1) (h.pick 6 [1,2,3,0,4,5]) rfl rfl (afR _);refine aL (h.pick 6 [1,2,0,3,4,5]) rfl (by intro v J;simp at J;rcases J with rfl|rfl|rfl|rfl|rfl<;>rfl) λU h=>?_;exact⟨_,_,_,_,_,_,rfl,h⟩
 ·refine ag h λkS _ h=>⟨aA 2 h.l,?_⟩
  refine⟨?_,?_⟩
  ·refine(tI (O.t.mono (aA 2 h.l)) ω ω).mono ?_;rintro _ _⟨oT,cT,rfl,hN⟩;have h:=hN.fb h;refine⟨_,_,_,rfl,aA 3 h.l,?_⟩
   refine⟨?_,?_⟩
   ·refine(dB (O.l.mono (aA 3 h.l)) ω ω).mono ?_;rintro _ _⟨V,cL,rfl,hN⟩;have h:=hN.fb h;refine⟨_,_,_,rfl,aA 4 h.l,?_⟩;refine ag h λX _ h=>⟨aA 5 h.l,?_⟩;have h:=bj (cs:=[]) (vs:=[.string .empty]) (l:=1) (c:=1) (sz:=1) (h.pick 6 [3,0,2,1,4,5]) rfl rfl (afR _);refine aL (h.pick 6 [1,2,0,3,4,5]) rfl (by intro v J;simp at J;rcases J with rfl|rfl|rfl|rfl|rfl<;>rfl) λU h=>?_;exact⟨_,_,_,_,_,_,rfl,h⟩
   ·refine ag h λX _ h=>⟨aA 4 h.l,?_⟩;refine(dB (O.l.mono (aA 4 h.l)) ω ω).mono ?_;rintro _ _⟨V,cL,rfl,hN⟩;have h:=hN.fb h;refine⟨_,_,_,rfl,aA 5 h.l,?_⟩;have h:=bj (cs:=[]) (vs:=[.string .empty]) (l:=1) (c:=1) (sz:=1) (h.pick 6 [3,1,2,0,4,5]) rfl rfl (afR _);refine aL (h.pick 6 [1,2,0,3,4,5]) rfl (by intro v J;simp at J;rcases J with rfl|rfl|rfl|rfl|rfl<;>rfl) λU h=>?_;exact⟨_,_,_,_,_,_,rfl,h⟩
  ·refine ag h λX _ h=>⟨aA 3 h.l,?_⟩;refine(tI (O.t.mono (aA 3 h.l)) ω ω).mono ?_;rintro _ _⟨oT,cT,rfl,hN⟩;have h:=hN.fb h;refine⟨_,_,_,rfl,aA 4 h.l,?_⟩;refine(dB (O.l.mono (aA 4 h.l)) ω ω).mono ?_;rintro _ _⟨V,cL,rfl,hN⟩;have h:=hN.fb h;refine⟨_,_,_,rfl,aA 5 h.l,?_⟩;have h:=bj (cs:=[]) (vs:=[.string .empty]) (l:=1) (c:=1) (sz:=1) (h.pick 6 [3,2,1,0,4,5]) rfl rfl (afR _);refine aL (h.pick 6 [1,2,0,3,4,5]) rfl (by intro v J;simp at J;rcases J with rfl|rfl|rfl|rfl|rfl<;>rfl) λU h=>?_;exact⟨_,_,_,_,_,_,rfl,h⟩
 ·refine ag h λX _ h=>⟨aA 2 h.l,?_⟩
  refine⟨?_,?_⟩
  ·refine(tI (O.t.mono (aA 2 h.l)) ω ω).mono ?_;rintro _ _⟨oT,cT,rfl,hN⟩;have h:=hN.fb h;refine⟨_,_,_,rfl,aA 3 h.l,?_⟩
   refine⟨?_,?_⟩
   ·refine(dB (O.l.mono (aA 3 h.l)) ω ω).mono ?_;rintro _ _⟨V,cL,rfl,hN⟩;have h:=hN.fb h;refine⟨_,_,_,rfl,aA 4 h.l,?_⟩;refine ag h λkS _ h=>⟨aA 5 h.l,?_⟩;have h:=bj (cs:=[]) (vs:=[.string .empty]) (l:=1) (c:=1) (sz:=1) (h.pick 6 [0,3,2,1,4,5]) rfl rfl (afR _);refine aL (h.pick 6 [1,2,0,3,4,5]) rfl (by intro v J;simp at J;rcases J with rfl|rfl|rfl|rfl|rfl<;>rfl) λU h=>?_;exact⟨_,_,_,_,_,_,rfl,h⟩
   ·refine ag h λkS _ h=>⟨aA 4 h.l,?_⟩;refine(dB (O.l.mono (aA 4 h.l)) ω ω).mono ?_;rintro _ _⟨V,cL,rfl,hN⟩;have h:=hN.fb h;refine⟨_,_,_,rfl,aA 5 h.l,?_⟩;have h:=bj (cs:=[]) (vs:=[.string .empty]) (l:=1) (c:=1) (sz:=1) (h.pick 6 [1,3,2,0,4,5]) rfl rfl (afR _);refine aL (h.pick 6 [1,2,0,3,4,5]) rfl (by intro v J;simp at J;rcases J with rfl|rfl|rfl|rfl|rfl<;>rfl) λU h=>?_;exact⟨_,_,_,_,_,_,rfl,h⟩
  ·refine ag h λkS _ h=>⟨aA 3 h.l,?_⟩;refine(tI (O.t.mono (aA 3 h.l)) ω ω).mono ?_;rintro _ _⟨oT,cT,rfl,hN⟩;have h:=hN.fb h;refine⟨_,_,_,rfl,aA 4 h.l,?_⟩;refine(dB (O.l.mono (aA 4 h.l)) ω ω).mono ?_;rintro _ _⟨V,cL,rfl,hN⟩;have h:=hN.fb h;refine⟨_,_,_,rfl,aA 5 h.l,?_⟩;have h:=bj (cs:=[]) (vs:=[.string .empty]) (l:=1) (c:=1) (sz:=1) (h.pick 6 [2,3,1,0,4,5]) rfl rfl (afR _);refine aL (h.pick 6 [1,2,0,3,4,5]) rfl (by intro v J;simp at J;rcases J with rfl|rfl|rfl|rfl|rfl<;>rfl) λU h=>?_;exact⟨_,_,_,_,_,_,rfl,h⟩
end
def MQ:aW:={ rngs:=[],loops:=[(11,[(41,(.one (.int .i64)))])],joins:=[],blocks:=[] }
def Po(a:ahr)(b c:Nat)(d:ahr)(e f:Nat)(g:ahr)(i j:Nat)(k:Int)(l:ahr)(m n:Nat)(w:ahs)(R:Value->WP):Prop:=  new w (ψ a b c d e f g i j k l m n) λa b=>new b (oC [vP none] 28) λb c=>new c (oC [iI 0,iI 0,vS none 0 0] 31) λc d=>new d (oC [vS none 0 0,vS none 0 0,vS none 0 0,iI 0,vS none 0 0,vS none 0 0,iI 0,iI 0,vS none 0 0,vS none 0 0,vS none 0 0,vS none 0 0,vS none 0 0,vS none 0 0,vS none 0 0,vS none 0 0,vS none 0 0,vS none 0 0,vS none 0 0,vS none 0 0,vB false] 110) λd e=>st1 e (aM b) (vP (some (aM d))) λd=>∃e f g h i j k l m n o p q,rowAt d (aM a) 0 5=some [vS e f g,vS h i j,vS k l m,iI n,vS o p q]/\iK Tryz.prog Ev 39 [vA (Array.mk [vS e f g,vS h i j,vS k l m,iI n,vS o p q])] d λa d=>∃e f g h i j k l m n o p q r,a=vT (Array.mk [vA (Array.mk [vS e f g,vS h i j,vS k l m,iI n,vS o p q]),iI r])/\new d (oC [vS none 0 0,vS none 0 0,vS none 0 0,iI 0,vS none 0 0] 27) λa d=>bC d (aM a) [vS e f g,vS h i j,vS k l m,iI n,vS o p q] λd=>br (r !=0) (∃a,World.cell? d (aM b)=some (vP a)/\st1 d (aM b) (vP a) λa=>bC a (aM c) [iI r,iI 0,vS none 0 0] λa=>Jq Tryz.prog Ev 38 [vP (some (aM c)),vP (some (aM b))] a λa=>∃d,World.cell? a (aM b)=some (vP d)/\∃b e f g h,rowAt a (aM c) 0 3=some [iI b,iI e,vS f g h]/\R (vT (Array.mk [vP d,vA (Array.mk [iI b,iI e,vS f g h])])) a) (∃e,World.cell? d (aM b)=some (vP e)/\∃f g h i j k l m n o p q r,rowAt d (aM a) 0 5=some [vS f g h,vS i j k,vS l m n,iI o,vS p q r]/\nn e λe=>bC d e [vS f g h,vS i j k,vS l m n,iI o,vS p q r] λd=>∃e f g h i j k l m n o p q,rowAt d (aM a) 0 5=some [vS e f g,vS h i j,vS k l m,iI n,vS o p q]/\iK Tryz.prog Ev 40 [vA (Array.mk [vS e f g,vS h i j,vS k l m,iI n,vS o p q])] d λd e=>∃f g h i,d=vT (Array.mk [vS f g h,iI i])/\br (decide (0<(↑g:Int))) (st1 e (aM c) (iI 13) λd=>τ [(41,aN)] λe h=>e 0 d/\∀(_:ν) d i,e d i->br (decide (d<(↑g:Int))) (idx f g d 1 λb=>∃f,World.cell? i b=some (iI f)/\∀b,drawn i b->∃(g:ahs->Prop),g b/\∃j k l,(∀a,g a->World.cell? a (Addr.add (aM c) 2)=some (vS j k l))/\∃m n o,(∀b,g b->World.cell? b (Addr.add (aM a) 1)=some (vS m n o))/\∃o p q,(∀b,g b->World.cell? b (aM a)=some (vS o p q))/\aD (f-(↑p:Int))/\idx m n (f-(↑p:Int)) 1 λa=>∃f,(∀b,g b->World.cell? b a=some (Value.string f))/\new b (oC [Value.string f] 9) λa b=>g b/\aX Tryz.prog (fX 23 (Array.mk [vS j k l,vS (some (aM a)) 1 1])) b λa b=>∃f j k,a=vS f j k/\g b/\st1 b (Addr.add (aM c) 2) (vS f j k) λa=>aD (d+1)/\e (d+1) a/\h (d+1) a<h d i) (∀a,drawn i a->∃(d:ahs->Prop),d a/\∃e,(∀a,d a->World.cell? a (aM b)=some (vP e))/\∃f g h i j,(∀a,d a->rowAt a (aM c) 0 3=some [iI f,iI g,vS h i j])/\st1 a (aM b) (vP e) λa=>d a/\bC a (aM c) [iI f,iI g,vS h i j] λa=>Jq Tryz.prog Ev 38 [vP (some (aM c)),vP (some (aM b))] a λa=>∃d,World.cell? a (aM b)=some (vP d)/\∃b e f g h,rowAt a (aM c) 0 3=some [iI b,iI e,vS f g h]/\R (vT (Array.mk [vP d,vA (Array.mk [iI b,iI e,vS f g h])])) a)) (∀d,drawn e d->∃(e:ahs->Prop),e d/\∃f,(∀a,e a->World.cell? a (aM b)=some (vP f))/\∃g h i j k l m n o p q r s,(∀b,e b->rowAt b (aM a) 0 5=some [vS g h i,vS j k l,vS m n o,iI p,vS q r s])/\iK Tryz.prog Ev 41 [vA (Array.mk [vS g h i,vS j k l,vS m n o,iI p,vS q r s])] d λd g=>∃h i j k l m,d=vT (Array.mk [vA (Array.mk [vS h i j,iI k,iI l]),iI m])/\e g/\nn f λd=>bC g (Addr.add d 5) [vS h i j,iI k,iI l] λd=>e d/\br (m !=0) (∃a,World.cell? d (aM b)=some (vP a)/\st1 d (aM b) (vP a) λa=>bC a (aM c) [iI m,iI 0,vS none 0 0] λa=>Jq Tryz.prog Ev 38 [vP (some (aM c)),vP (some (aM b))] a λa=>∃d,World.cell? a (aM b)=some (vP d)/\∃b e f g h,rowAt a (aM c) 0 3=some [iI b,iI e,vS f g h]/\R (vT (Array.mk [vP d,vA (Array.mk [iI b,iI e,vS f g h])])) a) (∀e,drawn d e->∃(d:ahs->Prop),d e/\∃f,(∀a,d a->World.cell? a (aM b)=some (vP f))/\∃g h i j k l m n o p q r s,(∀b,d b->rowAt b (aM a) 0 5=some [vS g h i,vS j k l,vS m n o,iI p,vS q r s])/\iK Tryz.prog Ev 42 [vA (Array.mk [vS g h i,vS j k l,vS m n o,iI p,vS q r s])] e λe g=>∃h i j k,e=vT (Array.mk [vS h i j,iI k])/\d g/\nn f λe=>st1 g (Addr.add (Addr.add e 5) 3) (vS h i j) λe=>d e/\∀d,drawn e d->∃(e:ahs->Prop),e d/\∃f,(∀a,e a->World.cell? a (aM b)=some (vP f))/\∃g h i j k l m n o p q r s,(∀b,e b->rowAt b (aM a) 0 5=some [vS g h i,vS j k l,vS m n o,iI p,vS q r s])/\iK Tryz.prog Ev 43 [vA (Array.mk [vS g h i,vS j k l,vS m n o,iI p,vS q r s])] d λd g=>∃h i j k l m n o p q,d=vT (Array.mk [vA (Array.mk [vS h i j,vS k l m,vS n o p]),iI q])/\e g/\nn f λd=>bC g (Addr.add d 9) [vS h i j,vS k l m,vS n o p] λd=>e d/\∀e,drawn d e->∃(d:ahs->Prop),d e/\∃f,(∀a,d a->World.cell? a (aM b)=some (vP f))/\∃g,(∀a,d a->World.cell? a (aM b)=some (vP g))/\nn g λg=>∃h i j k l m,(∀a,d a->rowAt a (Addr.add g 9) 0 2=some [vS h i j,vS k l m])/\iK Tryz.prog Ev 44 [vA (Array.mk [vS h i j,vS k l m])] e λe g=>∃h i j k l m n o p q r s t u v w x y z a0 a1 a2 a3 a4 a5,e=vT (Array.mk [vA (Array.mk [vS h i j,vS k l m,vS n o p,vS q r s,vS t u v,vS w x y,vS z a0 a1,vS a2 a3 a4]),iI a5])/\d g/\nn f λe=>bC g (Addr.add (Addr.add e 9) 3) [vS h i j,vS k l m,vS n o p,vS q r s,vS t u v,vS w x y,vS z a0 a1,vS a2 a3 a4] λe=>d e/\∃d f g h i j k l m n o p q,rowAt e (aM a) 0 5=some [vS d f g,vS h i j,vS k l m,iI n,vS o p q]/\iK Tryz.prog Ev 45 [vA (Array.mk [vS d f g,vS h i j,vS k l m,iI n,vS o p q])] e λa d=>∃e f g h,a=vT (Array.mk [vS e f g,iI h])/\∃a,World.cell? d (aM b)=some (vP a)/\nn a λa=>st1 d (Addr.add (Addr.add a 9) 11) (vB ((↑f:Int)==0)) λa=>∃d,World.cell? a (aM b)=some (vP d)/\st1 a (aM b) (vP d) λa=>bC a (aM c) [iI 0,iI 0,vS none 0 0] λa=>Jq Tryz.prog Ev 38 [vP (some (aM c)),vP (some (aM b))] a λa=>∃d,World.cell? a (aM b)=some (vP d)/\∃b e f g h,rowAt a (aM c) 0 3=some [iI b,iI e,vS f g h]/\R (vT (Array.mk [vP d,vA (Array.mk [iI b,iI e,vS f g h])])) a)))
theorem MR(a:ahr)(b c:Nat)(d:ahr)(e f:Nat)(g:ahr)(i j:Nat)(k:Int)(l:ahr)(m n:Nat)(w:ahs)(R:Value->WP)(h:Po a b c d e f g i j k l m n w R):ρ 8 [φ a b c d e f g i j k l m n] w R:=rvD Tryz.func8 MQ (by kernel_rfl) h
section
variable{a b c d:ahr}{i j k l m n o p:Nat}{A B:Int}{w:ahs}{R:Value->WP}
theorem ju(h:new w (oC [vS none 0 0,vS none 0 0,vS none 0 0,iI 0,vS none 0 0] 27) λb c=>rEp 46 [vP a] c λd c=>nn d λa=>rE 47 [vP (some a)] c λa c=>∃d e f g h i j k l m n o p,a=vG [vS d e f,vS g h i,vS j k l,iI m,vS n o p]/\bC c (aM b) [vS d e f,vS g h i,vS j k l,iI m,vS n o p] λa=>χ a (aM b) λb=>R (b) a):ρ 9 [.pointer a] w R:=rv Tryz.func9 ⟨[],[],[],[]⟩ h
theorem rj(h:new w (oC [vS none 0 0,vS none 0 0,vS none 0 0] 96) λb c=>rEp 46 [vP a] c λd c=>nn d λa=>rE 80 [vP (some (a.add 9))] c λa c=>∃d e f g h i j k l,a=vG [vS d e f,vS g h i,vS j k l]/\bC c (aM b) [vS d e f,vS g h i,vS j k l] λa=>∃c d e f g h i j k,rA a (aM b) 3 [vS c d e,vS f g h,vS i j k]/\R (vG [vS c d e,vS f g h,vS i j k]) a):ρ 37 [.pointer a] w R:=rv Tryz.func37 ⟨[],[],[],[]⟩ h
abbrev J1:FuncId:=38
def u_:aW:={ rngs:=[],loops:=[],joins:=[],blocks:=[] }
def xZ(c0:Addr)(c1:Addr)(w:ahs)(R:ahs->Prop):Prop:=  ∃n1,World.cell? w c0=some (iI n1)/\br (n1 !=0) (st1 w c1 (vP none) λw1=>R w1) (R w)
theorem F2(c0:Addr)(c1:Addr)(w:ahs)(R:ahs->Prop)(h:xZ c0 c1 w R):Jq Tryz.prog Ev 38 [(.pointer (some c0)),(.pointer (some c1))] w R:=
 ZG aT V9 mixed Tryz.func38 u_ ab5 (by kernel_rfl) ((by kernel_rfl:Zk Tryz.prog Ty Fn Ev u_ Tryz.f38 [(.pointer (some c0)),(.pointer (some c1))] w (λ_ w=>R w)=xZ c0 c1 w R)▸h)
theorem IA(h:new w (ψ a i j b k l c m n A d o p) λa b=>new b (oC [vS none 0 0,vS none 0 0,vS none 0 0,iI 0,vS none 0 0] 27) λb c=>χ c (aM a) λd=>rEb 81 [d] c λe d=>br (!e) (χ d (aM a) λa=>rE 82 [a] d λa c=>∃d e f g h i j k l m n o p q,a=vU [vG [vS d e f,vS g h i,vS j k l,iI m,vS n o p],iI q]/\bC c (aM b) [vS d e f,vS g h i,vS j k l,iI m,vS n o p] λa=>χ a (aM b) λb=>R (vU [b,iI q]) a) (χ d (aM a) λc=>rE 83 [c] d λc d=>∃e f g h,c=vU [vS e f g,iI h]/\br (h !=0) (bC d (aM b) [vS none 0 0,vS none 0 0,vS none 0 0,iI 0,vS none 0 0] λa=>χ a (aM b) λb=>R (vU [b,iI 1]) a) (rEb 84 [vS e f g,vB false] d λe d=>br e (bC d (aM b) [vS none 0 0,vS none 0 0,vS none 0 0,iI 0,vS none 0 0] λa=>χ a (aM b) λb=>R (vU [b,iI 1]) a) (χ d (aM a) λa=>rE 85 [a] d λa c=>∃d e f g h i j k l m n o p,a=vG [vS d e f,vS g h i,vS j k l,iI m,vS n o p]/\bC c (aM b) [vS d e f,vS g h i,vS j k l,iI m,vS n o p] λa=>χ a (aM b) λb=>R (vU [b,iI 0]) a)))):ρ 39 [φ a i j b k l c m n A d o p] w R:=rv Tryz.func39 ⟨[],[],[],[]⟩ h
theorem lQ{a:ahr}{w:ahs}{R:Value->WP}(h:br (Option.isNone a) (new w (oC [vS none 0 0,vS none 0 0,vS none 0 0,iI 0,vS none 0 0,vS none 0 0,iI 0,iI 0,vS none 0 0,vS none 0 0,vS none 0 0,vS none 0 0,vS none 0 0,vS none 0 0,vS none 0 0,vS none 0 0,vS none 0 0,vS none 0 0,vS none 0 0,vS none 0 0,vB false] 110) λa b=>R (vP (some (aM a))) b) (R (vP a) w)):ρ 46 [.pointer a] w R:=rv Tryz.func46 ⟨[],[],[],[]⟩ h
theorem qg(h:new w (oC [vS none 0 0,vS none 0 0,vS none 0 0,iI 0,vS none 0 0] 27) λb c=>br (Option.isNone a) (bC c (aM b) [vS none 0 0,vS none 0 0,vS none 0 0,iI 0,vS none 0 0] λa=>χ a (aM b) λb=>R (b) a) (nn a λa=>∃d e f g h i j k l m n o p,rA c a 5 [vS d e f,vS g h i,vS j k l,iI m,vS n o p]/\rE 85 [vG [vS d e f,vS g h i,vS j k l,iI m,vS n o p]] c λa c=>∃d e f g h i j k l m n o p,a=vG [vS d e f,vS g h i,vS j k l,iI m,vS n o p]/\bC c (aM b) [vS d e f,vS g h i,vS j k l,iI m,vS n o p] λa=>χ a (aM b) λb=>R (b) a)):ρ 47 [.pointer a] w R:=rv Tryz.func47 ⟨[],[],[],[]⟩ h
theorem rr(h:new w (oC [vS none 0 0,vS none 0 0,vS none 0 0] 96) λb c=>br (Option.isNone a) (bC c (aM b) [vS none 0 0,vS none 0 0,vS none 0 0] λa=>∃c d e f g h i j k,rA a (aM b) 3 [vS c d e,vS f g h,vS i j k]/\R (vG [vS c d e,vS f g h,vS i j k]) a) (∀d,drawn c d->∃(c:WP),c d/\nn a λe=>∃f g h,(∀a,c a->cL a e (vS f g h))/\nn a λe=>∃i j k,(∀a,c a->cL a (e.add 1) (vS i j k))/\(rEs 158 [vS f g h,Value.func (Fn.func 159) (Array.mk []) (Array.mk [])] d λf g h e=>c e/\(rEs 160 [vS i j k,Value.func (Fn.func 161) (Array.mk []) (Array.mk [])] e λi j k e=>c e/\new e (oC [vS none 0 0,vS none 0 0] 94) λd e=>c e/\bC e (aM d) [vS f g h,vS i j k] λc=>nn a λa=>cLs c (a.add 2) λe f g=>rEs 162 [vS e f g,Value.func (Fn.func 163) (Array.mk []) (Array.mk [])] c λe f g c=>∃a h i j k l,rA c (aM d) 2 [vS a h i,vS j k l]/\bC c (aM b) [vS a h i,vS j k l,vS e f g] λa=>∃c d e f g h i j k,rA a (aM b) 3 [vS c d e,vS f g h,vS i j k]/\R (vG [vS c d e,vS f g h,vS i j k]) a)/\new e (oC [vS none 0 0,vS none 0 0] 94) λd e=>c e/\rEs 160 [vS i j k,Value.func (Fn.func 161) (Array.mk []) (Array.mk [])] e λj k l i=>c i/\bC i (aM d) [vS f g h,vS j k l] λc=>nn a λa=>cLs c (a.add 2) λe f g=>rEs 162 [vS e f g,Value.func (Fn.func 163) (Array.mk []) (Array.mk [])] c λe f g c=>∃a h i j k l,rA c (aM d) 2 [vS a h i,vS j k l]/\bC c (aM b) [vS a h i,vS j k l,vS e f g] λa=>∃c d e f g h i j k,rA a (aM b) 3 [vS c d e,vS f g h,vS i j k]/\R (vG [vS c d e,vS f g h,vS i j k]) a)/\new d (oC [vS none 0 0,vS none 0 0] 94) λd e=>c e/\rEs 158 [vS f g h,Value.func (Fn.func 159) (Array.mk []) (Array.mk [])] e λg h l f=>c f/\rEs 160 [vS i j k,Value.func (Fn.func 161) (Array.mk []) (Array.mk [])] f λi j k f=>c f/\bC f (aM d) [vS g h l,vS i j k] λc=>nn a λa=>cLs c (a.add 2) λe f g=>rEs 162 [vS e f g,Value.func (Fn.func 163) (Array.mk []) (Array.mk [])] c λe f g c=>∃a h i j k l,rA c (aM d) 2 [vS a h i,vS j k l]/\bC c (aM b) [vS a h i,vS j k l,vS e f g] λa=>∃c d e f g h i j k,rA a (aM b) 3 [vS c d e,vS f g h,vS i j k]/\R (vG [vS c d e,vS f g h,vS i j k]) a)):ρ 80 [.pointer a] w R:=rv Tryz.func80 ⟨[],[],[],[]⟩ h
theorem J3(h:new w (ψ a i j b k l c m n A d o p) λa b=>new b (oC [vS none 0 0,vS none 0 0,vS none 0 0,iI 0,vS none 0 0] 27) λb c=>∃(d:lP [(3,S1.one Cs.ptr)]),(∀b,drawn c b->∃(c:WP),c b/\∃e f g,(∀b,c b->cL b (aM a) (vS e f g))/\∃h i j,(∀b,c b->cL b (Addr.add (aM a) 1) (vS h i j))/\∃k l m,(∀b,c b->cL b (Addr.add (aM a) 2) (vS k l m))/\∃n,(∀b,c b->cL b (Addr.add (aM a) 3) (iI n))/\(rEs 170 [vS e f g] b λe f g b=>c b/\(rEs 176 [vS e f g] b λe f g b=>c b/\(rEs 178 [vS h i j] b λh i j b=>c b/\(rEs 177 [vS h i j] b λh i j b=>c b/\(rEs 115 [vS k l m] b λk l m b=>c b/\(rEs 132 [vS k l m] b λk l m b=>c b/\new b (oC [vS none 0 0,vS none 0 0,vS none 0 0,iI 0,vS none 0 0] 27) λa b=>c b/\bC b (aM a) [vS e f g,vS h i j,vS k l m,iI n,vS none 0 0] λb=>d (some (aM a)) b)/\new b (oC [vS none 0 0,vS none 0 0,vS none 0 0,iI 0,vS none 0 0] 27) λa b=>c b/\rEs 132 [vS k l m] b λl m o k=>c k/\bC k (aM a) [vS e f g,vS h i j,vS l m o,iI n,vS none 0 0] λb=>d (some (aM a)) b)/\new b (oC [vS none 0 0,vS none 0 0,vS none 0 0,iI 0,vS none 0 0] 27) λa b=>c b/\rEs 115 [vS k l m] b λl m o k=>c k/\rEs 132 [vS l m o] k λl m o k=>c k/\bC k (aM a) [vS e f g,vS h i j,vS l m o,iI n,vS none 0 0] λb=>d (some (aM a)) b)/\new b (oC [vS none 0 0,vS none 0 0,vS none 0 0,iI 0,vS none 0 0] 27) λa b=>c b/\rEs 177 [vS h i j] b λi j o h=>c h/\rEs 115 [vS k l m] h λk l m h=>c h/\rEs 132 [vS k l m] h λk l m h=>c h/\bC h (aM a) [vS e f g,vS i j o,vS k l m,iI n,vS none 0 0] λb=>d (some (aM a)) b)/\new b (oC [vS none 0 0,vS none 0 0,vS none 0 0,iI 0,vS none 0 0] 27) λa b=>c b/\rEs 178 [vS h i j] b λi j o h=>c h/\rEs 177 [vS i j o] h λi j o h=>c h/\rEs 115 [vS k l m] h λk l m h=>c h/\rEs 132 [vS k l m] h λk l m h=>c h/\bC h (aM a) [vS e f g,vS i j o,vS k l m,iI n,vS none 0 0] λb=>d (some (aM a)) b)/\new b (oC [vS none 0 0,vS none 0 0,vS none 0 0,iI 0,vS none 0 0] 27) λa b=>c b/\rEs 176 [vS e f g] b λf g o e=>c e/\rEs 178 [vS h i j] e λh i j e=>c e/\rEs 177 [vS h i j] e λh i j e=>c e/\rEs 115 [vS k l m] e λk l m e=>c e/\rEs 132 [vS k l m] e λk l m e=>c e/\bC e (aM a) [vS f g o,vS h i j,vS k l m,iI n,vS none 0 0] λb=>d (some (aM a)) b)/\new b (oC [vS none 0 0,vS none 0 0,vS none 0 0,iI 0,vS none 0 0] 27) λa b=>c b/\rEs 170 [vS e f g] b λf g o e=>c e/\rEs 176 [vS f g o] e λf g o e=>c e/\rEs 178 [vS h i j] e λh i j e=>c e/\rEs 177 [vS h i j] e λh i j e=>c e/\rEs 115 [vS k l m] e λk l m e=>c e/\rEs 132 [vS k l m] e λk l m e=>c e/\bC e (aM a) [vS f g o,vS h i j,vS k l m,iI n,vS none 0 0] λb=>d (some (aM a)) b)/\∀(_:ν) c e,d c e->cLs e (Addr.add (aM a) 4) λd f g=>τ [(24,aN)] λa g=>a 0 e/\∀(_:ν) e h,a e h->bQ (e<(f:Int)) (idx d f e 3 λb=>∃d f i j k,rA h b 3 [iI d,vS f i j,iI k]/\new h (oC [iI 0,vS none 0 0,iI 0] 134) λb l=>bC l (aM b) [iI d,vS f i j,iI k] λd=>cLs d (Addr.add (aM b) 1) λf i j=>rEs 115 [vS f i j] d λi j k f=>rEs 132 [vS i j k] f λi j k f=>st1 f (Addr.add (aM b) 1) (vS i j k) λd=>nn c λf=>cLs d (f.add 4) λi j k=>∃f l m n o,rA d (aM b) 3 [iI f,vS l m n,iI o]/\new d (oC [iI f,vS l m n,iI o] 134) λb d=>rS (fX 25 (Array.mk [vS i j k,vS (some (aM b)) 1 1])) d λb d=>∃f i j,b=vS f i j/\nn c λb=>st1 d (b.add 4) (vS f i j) λb=>aD (e+1)/\a (e+1) b/\g (e+1) b<g e h) (nn c λa=>∃c d e f g i j k l m n o p,rA h a 5 [vS c d e,vS f g i,vS j k l,iI m,vS n o p]/\bC h (aM b) [vS c d e,vS f g i,vS j k l,iI m,vS n o p] λa=>χ a (aM b) λb=>R (b) a)):ρ 85 [φ a i j b k l c m n A d o p] w R:=rv Tryz.func85 ⟨[(3,[(24,(.one (.int .i64)))])],[(2,[(3,(.one .ptr))])],[],[]⟩ h
theorem nH{d:FuncId}{e:List Value}(h:τ [(5,lY),(10,aN)] λb c=>b none 0 0 0 w/\∀(_:ν) f g h j k,b f g h j k->bQ (j<(i:Int)) (idx a i j 1 λa=>cLs k a λi l m=>oN (Proofs.YtaoaemnefghnbaaGreatDoor.Fn d) (rEs d (vS i l m::e) k λe i l d=>new d (oC [vS e i l] 86) λa d=>rS (fX 92 (Array.mk [vS f g h,vS (some (aM a)) 1 1])) d λa d=>∃e i l,a=vS e i l/\aD (j+1)/\b e i l (j+1) d/\c e i l (j+1) d<c f g h j k)) (rEs 250 [vS f g h] k λc d e b=>R (vS c d e) b)):ρ 158 [vS a i j,(.func (.func d) #[] ⟨e⟩)] w R:=rv Tryz.func158 ⟨[(3,[(5,(.one .slice)),(10,(.one (.int .i64)))])],[],[],[]⟩ h
abbrev eO:FuncId:=159
theorem pH(h:rEs 251 [vS a i j] w λc d e b=>rEs 202 [vS c d e] b λc d e b=>R (vS c d e) b):ρ 159 [vS a i j] w R:=rv Tryz.func159 ⟨[],[],[],[]⟩ h
theorem vZ{d:FuncId}{e:List Value}(h:τ [(5,lY),(10,aN)] λb c=>b none 0 0 0 w/\∀(_:ν) f g h j k,b f g h j k->bQ (j<(i:Int)) (idx a i j 1 λa=>cLs k a λi l m=>oN (Proofs.YtaoaemnefghnbaaGreatDoor.Fn d) (rEs d (vS i l m::e) k λe i l d=>new d (oC [vS e i l] 24) λa d=>rS (fX 71 (Array.mk [vS f g h,vS (some (aM a)) 1 1])) d λa d=>∃e i l,a=vS e i l/\aD (j+1)/\b e i l (j+1) d/\c e i l (j+1) d<c f g h j k)) (rEs 252 [vS f g h] k λc d e b=>R (vS c d e) b)):ρ 160 [vS a i j,(.func (.func d) #[] ⟨e⟩)] w R:=rv Tryz.func160 ⟨[(3,[(5,(.one .slice)),(10,(.one (.int .i64)))])],[],[],[]⟩ h
abbrev lr:FuncId:=161
theorem zD(h:rEs 115 [vS a i j] w λc d e b=>rEs 132 [vS c d e] b λc d e b=>R (vS c d e) b):ρ 161 [vS a i j] w R:=rv Tryz.func161 ⟨[],[],[],[]⟩ h
theorem pJ{d:FuncId}{e:List Value}(h:τ [(5,lY),(10,aN)] λb c=>b none 0 0 0 w/\∀(_:ν) f g h j k,b f g h j k->bQ (j<(i:Int)) (idx a i j 3 λa=>∃i l m n o,rA k a 3 [iI i,iI l,vS m n o]/\new k (oC [iI 0,iI 0,vS none 0 0] 90) λa p=>bC p (aM a) [iI i,iI l,vS m n o] λi=>∃l m n o p,rA i (aM a) 3 [iI l,iI m,vS n o p]/\oN (Proofs.YtaoaemnefghnbaaGreatDoor.Fn d) (rE d (vG [iI l,iI m,vS n o p]::e) i λa d=>∃e i l m n,a=vG [iI e,iI i,vS l m n]/\new d (oC [iI e,iI i,vS l m n] 90) λa d=>rS (fX 83 (Array.mk [vS f g h,vS (some (aM a)) 1 1])) d λa d=>∃e i l,a=vS e i l/\aD (j+1)/\b e i l (j+1) d/\c e i l (j+1) d<c f g h j k)) (rEs 253 [vS f g h] k λc d e b=>R (vS c d e) b)):ρ 162 [vS a i j,(.func (.func d) #[] ⟨e⟩)] w R:=rv Tryz.func162 ⟨[(3,[(5,(.one .slice)),(10,(.one (.int .i64)))])],[],[],[]⟩ h
abbrev eh:FuncId:=163
theorem ox(h:new w (oC [iI A,iI B,vS a i j] 90) λa b=>new b (oC [iI 0,iI 0,vS none 0 0] 90) λb c=>cLs c (Addr.add (aM a) 2) λd e f=>rEs 159 [vS d e f] c λe f g d=>st1 d (Addr.add (aM a) 2) (vS e f g) λc=>∃d e f g h,rA c (aM a) 3 [iI d,iI e,vS f g h]/\bC c (aM b) [iI d,iI e,vS f g h] λa=>∃c d e f g,rA a (aM b) 3 [iI c,iI d,vS e f g]/\R (vG [iI c,iI d,vS e f g]) a):ρ 163 [(.agg #[iI A,iI B,vS a i j])] w R:=rv Tryz.func163 ⟨[],[],[],[]⟩ h
theorem tL(h:new w (oC [vS none 0 0,vS none 0 0,vS none 0 0,vS none 0 0,vS none 0 0,vS none 0 0,vS none 0 0,vS none 0 0] 106) λb c=>rEp 46 [vP a] c λd c=>nn d λa=>rE 302 [vP (some (a.add 9))] c λa c=>∃d e f g h i j k l m n o p q r s t u v w x y z a0,a=vG [vS d e f,vS g h i,vS j k l,vS m n o,vS p q r,vS s t u,vS v w x,vS y z a0]/\bC c (aM b) [vS d e f,vS g h i,vS j k l,vS m n o,vS p q r,vS s t u,vS v w x,vS y z a0] λa=>∃c d e f g h i j k l m n o p q r s t u v w x y z,rA a (aM b) 8 [vS c d e,vS f g h,vS i j k,vS l m n,vS o p q,vS r s t,vS u v w,vS x y z]/\R (vG [vS c d e,vS f g h,vS i j k,vS l m n,vS o p q,vS r s t,vS u v w,vS x y z]) a):ρ 218 [.pointer a] w R:=rv Tryz.func218 ⟨[],[],[],[]⟩ h
theorem tN(h:new w (oC [vS none 0 0,vS none 0 0,vS none 0 0,vS none 0 0,vS none 0 0,vS none 0 0,vS none 0 0,vS none 0 0] 106) λb c=>br (Option.isNone a) (bC c (aM b) [vS none 0 0,vS none 0 0,vS none 0 0,vS none 0 0,vS none 0 0,vS none 0 0,vS none 0 0,vS none 0 0] λa=>∃c d e f g h i j k l m n o p q r s t u v w x y z,rA a (aM b) 8 [vS c d e,vS f g h,vS i j k,vS l m n,vS o p q,vS r s t,vS u v w,vS x y z]/\R (vG [vS c d e,vS f g h,vS i j k,vS l m n,vS o p q,vS r s t,vS u v w,vS x y z]) a) (∀d,drawn c d->∃(c:WP),c d/\nn a λe=>∃f g h,(∀a,c a->cL a (e.add 3) (vS f g h))/\nn a λe=>∃i j k l m n o p q,(∀a,c a->rA a (Addr.add (e.add 3) 1) 3 [vS i j k,vS l m n,vS o p q])/\nn a λe=>∃r s t,(∀a,c a->cL a (Addr.add (e.add 3) 4) (vS r s t))/\nn a λa=>∃e u v w x y z a0 a1,(∀b,c b->rA b (Addr.add (a.add 3) 5) 3 [vS e u v,vS w x y,vS z a0 a1])/\rEs 161 [vS f g h] d λf g h d=>c d/\rE 358 [vG [vS i j k,vS l m n,vS o p q]] d λa d=>∃i j k l m n o p q,a=vG [vS i j k,vS l m n,vS o p q]/\c d/\rEs 161 [vS r s t] d λr s t d=>c d/\rE 358 [vG [vS e u v,vS w x y,vS z a0 a1]] d λa d=>∃e u v w x y z a0 a1,a=vG [vS e u v,vS w x y,vS z a0 a1]/\c d/\bC d (aM b) [vS f g h,vS i j k,vS l m n,vS o p q,vS r s t,vS e u v,vS w x y,vS z a0 a1] λa=>∃c d e f g h i j k l m n o p q r s t u v w x y z,rA a (aM b) 8 [vS c d e,vS f g h,vS i j k,vS l m n,vS o p q,vS r s t,vS u v w,vS x y z]/\R (vG [vS c d e,vS f g h,vS i j k,vS l m n,vS o p q,vS r s t,vS u v w,vS x y z]) a)):ρ 302 [.pointer a] w R:=rv Tryz.func302 ⟨[],[],[],[]⟩ h
theorem IC(h:new w (oC [vS a i j,vS b k l,vS c m n] 104) λa b=>new b (oC [vS none 0 0,vS none 0 0,vS none 0 0] 104) λb c=>∀d,drawn c d->∃(c:WP),c d/\∃e f g,(∀b,c b->cL b (aM a) (vS e f g))/\∃h i j,(∀b,c b->cL b (Addr.add (aM a) 1) (vS h i j))/\∃k l m,(∀b,c b->cL b (Addr.add (aM a) 2) (vS k l m))/\rEs 161 [vS e f g] d λe f g d=>c d/\rEs 161 [vS h i j] d λh i j d=>c d/\rEs 161 [vS k l m] d λk l m d=>c d/\bC d (aM b) [vS e f g,vS h i j,vS k l m] λa=>∃c d e f g h i j k,rA a (aM b) 3 [vS c d e,vS f g h,vS i j k]/\R (vG [vS c d e,vS f g h,vS i j k]) a):ρ 358 [(.agg #[vS a i j,vS b k l,vS c m n])] w R:=rv Tryz.func358 ⟨[],[],[],[]⟩ h
end
abbrev z5:List Value:=[vS none 0 0,vS none 0 0,vS none 0 0,iI 0,vS none 0 0]
abbrev RA(ss:List ByteArray):List Value:=ss.map λs=>Value.string s
section
variable{w:ahs}{L:List aC}{a o:ahr}{l n c:Nat}{I:ahs->Prop}{K:ahr->Nat->Nat->ahs->Prop}
theorem Ye{ss:List ByteArray}(hr:aY (hp w) ss a l)(hb:l*16<=140737488355328):ρ 178 [vS a l c] w λv w'=>∃o c',v=vS o l c'/\St w' (own 1 o l c' (RA ss)::all w):=by
 refine lE ?_;have hl:=hr.1;cases a with
 |none=>
  have h0:ss=[]:=by
   cases ss with
   |nil=>rfl
   |cons t ts=>obtain⟨O,_,e,_⟩:=hr.2 0 t rfl;grind
  subst h0;have:l=0:=by simp_all
  subst this;exact dL rfl ⟨none,0,rfl,aI 1 (St.all w)⟩
 |some O=>
  refine bn rfl (ag (St.all w) λb Y J=>?_);have V:St Y (own 1 (some ⟨b,0,none⟩) 0 0 []::all w):=bj (cs:=[]) J rfl rfl (afR _);have hr:=hr.mono J.aQ
  refine(ja aT (rfl:ai Ty _=.slice _) rfl rfl rfl V (n:=l) (news:=RA ss) (gk aT (rfl:ai Ty _=.slice _) (by grind) (by
    rcases hr.row with h0|⟨X,e,hc⟩
    ·simp_all
    ·cases e;exact .inr ⟨O,rfl,λj u W=>jA (hc j u W)⟩) (by
   intro u U;obtain⟨t,_,rfl⟩:=afW.1 U;rfl)) (by simp_all) ω).mono ?_
  grind
theorem aeV{ts:List mP}(hr:aY (hp w) ts a l)(hb:l*24<=140737488355328)(h:St w L)(hI:∀u,aG L (hp u)->I u)(hK:∀o c' w',St w' (own 2 o l c' (cJ ts)::L)->K o l c' w'):ρ 170 [vS a l c] w λv w'=>∃o k c',v=vS o k c'/\I w'/\K o k c' w':=by
 have hl:=hr.1;refine(tI hr ω ω).mono ?_;rintro _ w'⟨o,c',rfl,h'⟩;rw[hl] at h' ⊢;have h':=St.fb h' h.l;exact⟨o,l,c',rfl,hI _ h'.tail.l,hK _ _ _ h'⟩
theorem aaR{ss:List ByteArray}(hr:aY (hp w) ss a l)(hb:l*16<=140737488355328)(h:St w L)(hI:∀u,aG L (hp u)->I u)(hK:∀o c' w',St w' (own 1 o l c' (RA ss)::L)->K o l c' w'):ρ 178 [vS a l c] w λv w'=>∃o k c',v=vS o k c'/\I w'/\K o k c' w':=by
 refine(Ye hr hb).mono ?_;rintro _ w'⟨o,c',rfl,h'⟩;have h':=St.fb h' h.l;exact⟨o,l,c',rfl,hI _ h'.tail.l,hK _ _ _ h'⟩
theorem RB{xs:List Int}(hr:aY (hp w) xs a l)(hb:l*8<=140737488355328)(h:St w L)(hI:∀u,aG L (hp u)->I u)(hK:∀o c' w',St w' (own 1 o l c' (iv xs)::L)->K o l c' w'):ρ 115 [vS a l c] w λv w'=>∃o k c',v=vS o k c'/\I w'/\K o k c' w':=by
 have hl:=hr.1;refine(dB hr ω ω).mono ?_;rintro _ w'⟨o,c',rfl,h'⟩;rw[hl] at h' ⊢;have h':=St.fb h' h.l;exact⟨o,l,c',rfl,hI _ h'.tail.l,hK _ _ _ h'⟩
theorem Yf{vs:List Value}(h:St w (own 2 o l c vs::L))(hI:∀u,aG L (hp u)->I u)(hK:∀o c' w',St w' (own 2 o l c' vs::L)->K o l c' w'):ρ 176 [vS o l c] w λv w'=>∃o k c',v=vS o k c'/\I w'/\K o k c' w':=
 jH (b9 (bI h) ⟨_,_,_,rfl,hI _ h.tail.l,hK _ _ _ (cj h)⟩)
theorem Pq{vs:List Value}(h:St w (own 1 o l c vs::L))(hI:∀u,aG L (hp u)->I u)(hK:∀o c' w',St w' (own 1 o l c' vs::L)->K o l c' w'):ρ 177 [vS o l c] w λv w'=>∃o k c',v=vS o k c'/\I w'/\K o k c' w':=
 me (b9 (bI h) ⟨_,_,_,rfl,hI _ h.tail.l,hK _ _ _ (cj h)⟩)
theorem E6{vs:List Value}(h:St w (own 1 o l c vs::L))(hI:∀u,aG L (hp u)->I u)(hK:∀o c' w',St w' (own 1 o l c' vs::L)->K o l c' w'):ρ 132 [vS o l c] w λv w'=>∃o k c',v=vS o k c'/\I w'/\K o k c' w':=
 bq (b9 (bI h) ⟨_,_,_,rfl,hI _ h.tail.l,hK _ _ _ (cj h)⟩)
variable{g:ah}{x:GA}
theorem Yg(hg:gR (hp w) g x)(hb:mi g)(hbT:g.terms.length*24<=140737488355328)(hbN:g.cM.length*16<=140737488355328):ρ 85 [.agg ⟨x.cells⟩] w λv w'=>∃(x':GA)(os:List (ahr×Nat)),v=.agg ⟨x'.cells⟩/\BO g x'/\os.length=g.prods.length/\St w' (vm g x' os++all w):=by
 refine J3 (gH hg λk1 w1 gw hg B=>?_);have tl:=hg.t.1;have nl:=hg.n.1;have ll:=hg.l.1;have pl:=hg.p.1;have bb:=hg.s;obtain⟨b1,b2,b3,b4,b5,b6,b7⟩:=hb;have gs:sub (hp w) (hp w1):=gw;have h1:=St.all w1;unfold Proofs.YtaoaemnefghnbaaGreatDoor.all at h1;generalize hH:hp w1=H at*;refine ag h1 λk2 w2 h=>?_;have zT:x.tl*24<=140737488355328:=ω
 have zN:x.nl*16<=140737488355328:=ω
 have Z:x.ll*8<=140737488355328:=ω
 refine⟨λp u=>∃(k:Nat)(ta na la:ahr)(tc nc lc:Nat),p=some (aM k)/\St u [az k [vS ta x.tl tc,vS na x.nl nc,vS la x.ll lc,iI x.s,vS none 0 0],own 1 la x.ll lc (iv g.levels),own 1 na x.nl nc (RA g.cM),own 2 ta x.tl tc (cJ g.terms),az k2 z5,has H],λw3 hd=>?_,?_⟩
 ·have h:=h.drawn hd
  have fin:∀{u:ahs}{k:Nat}{ta na la:ahr}{tc nc lc:Nat},St u [az k z5,own 1 la x.ll lc (iv g.levels),own 1 na x.nl nc (RA g.cM),own 2 ta x.tl tc (cJ g.terms),az k2 z5,has H]->bC u (aM k) [vS ta x.tl tc,vS na x.nl nc,vS la x.ll lc,iI x.s,vS none 0 0] λw'=>∃(k':Nat)(ta na la:ahr)(tc nc lc:Nat),some (aM k)=some (aM k')/\St w' [az k' [vS ta x.tl tc,vS na x.nl nc,vS la x.ll lc,iI x.s,vS none 0 0],own 1 la x.ll lc (iv g.levels),own 1 na x.nl nc (RA g.cM),own 2 ta x.tl tc (cJ g.terms),az k2 z5,has H]:=
   λ{u k ta na la tc nc lc} h=>aL h rfl (by simp[aK]) λw' h=>⟨k,ta,na,la,tc,nc,lc,rfl,h⟩
  refine⟨λu=>sub H (hp u),aA 1 h.l,_,_,_,λu s=>B.c0 s,_,_,_,λu s=>B.c1 s,_,_,_,λu s=>B.c2 s,_,λu s=>B.c3 s,?_,?_⟩
  ·refine aeV (hg.t.mono (aA 1 h.l)) zT h (λu s=>aA 1 s) λ_ _ _ h=>⟨?_,?_⟩
   ·refine Yf h (λu s=>aA 1 s) λ_ _ _ h=>⟨?_,?_⟩
    ·refine aaR (hg.n.mono (aA 2 h.l)) zN h (λu s=>aA 2 s) λ_ _ _ h=>⟨?_,?_⟩
     ·refine Pq h (λu s=>aA 2 s) λ_ _ _ h=>⟨?_,?_⟩
      ·refine RB (hg.l.mono (aA 3 h.l)) Z h (λu s=>aA 3 s) λ_ _ _ h=>⟨?_,?_⟩
       ·exact E6 h (λu s=>aA 3 s) λ_ _ _ h=>ag h λ_ _ h=>⟨aA 5 h.l,fin h⟩
       ·exact ag h λ_ _ h=>⟨aA 5 h.l,E6 h.swap (λu s=>aA 4 s) λ_ _ _ h=>fin h.swap⟩
      ·exact ag h λ_ _ h=>⟨aA 4 h.l,RB (hg.l.mono (aA 4 h.l)) Z h (λu s=>aA 4 s) λ_ _ _ h=>E6 h (λu s=>aA 4 s) λ_ _ _ h=>fin (h.pick 4 [1,0,2,3])⟩
     ·exact ag h λ_ _ h=>⟨aA 4 h.l,Pq h.swap (λu s=>aA 3 s) λ_ _ _ h=>RB (hg.l.mono (aA 4 h.l)) Z h (λu s=>aA 4 s) λ_ _ _ h=>E6 h (λu s=>aA 4 s) λ_ _ _ h=>fin (h.pick 4 [2,0,1,3])⟩
    ·exact ag h λ_ _ h=>⟨aA 3 h.l,aaR (hg.n.mono (aA 3 h.l)) zN h (λu s=>aA 3 s) λ_ _ _ h=>Pq h (λu s=>aA 3 s) λ_ _ _ h=>RB (hg.l.mono (aA 4 h.l)) Z h (λu s=>aA 4 s) λ_ _ _ h=>E6 h (λu s=>aA 4 s) λ_ _ _ h=>fin (h.pick 4 [2,0,1,3])⟩
   ·exact ag h λ_ _ h=>⟨aA 3 h.l,Yf h.swap (λu s=>aA 2 s) λ_ _ _ h=>aaR (hg.n.mono (aA 3 h.l)) zN h (λu s=>aA 3 s) λ_ _ _ h=>Pq h (λu s=>aA 3 s) λ_ _ _ h=>RB (hg.l.mono (aA 4 h.l)) Z h (λu s=>aA 4 s) λ_ _ _ h=>E6 h (λu s=>aA 4 s) λ_ _ _ h=>fin (h.pick 4 [3,0,1,2])⟩
  ·exact ag h λ_ _ h=>⟨aA 2 h.l,aeV (hg.t.mono (aA 2 h.l)) zT h (λu s=>aA 2 s) λ_ _ _ h=>Yf h (λu s=>aA 2 s) λ_ _ _ h=>aaR (hg.n.mono (aA 3 h.l)) zN h (λu s=>aA 3 s) λ_ _ _ h=>Pq h (λu s=>aA 3 s) λ_ _ _ h=>RB (hg.l.mono (aA 4 h.l)) Z h (λu s=>aA 4 s) λ_ _ _ h=>E6 h (λu s=>aA 4 s) λ_ _ _ h=>fin (h.pick 4 [3,0,1,2])⟩
 clear h;rintro _ _ a4⟨k,ta,na,la,tc,nc,lc,rfl,h⟩;obtain⟨K,hK⟩:=Wv (λ(pa:ahr)(j pc:Nat)=>[vS ta x.tl tc,vS na x.nl nc,vS la x.ll lc,iI x.s,vS pa j pc])
 refine⟨_,_,_,B.c4 (aA 5 h.l),λz u=>∃(j:Nat)(pa:ahr)(pc:Nat)(os:List (ahr×Nat)),z=j/\j<=g.prods.length/\os.length=j/\St u [az k (K pa j pc),own 3 pa j pc (dV os (g.prods.take j)),aV (cf os (g.prods.take j)),own 1 la x.ll lc (iv g.levels),own 1 na x.nl nc (RA g.cM),own 2 ta x.tl tc (cJ g.terms),az k2 z5,has H],λz _=>g.prods.length-z.toNat,⟨0,none,0,[],rfl,ω,rfl,?_⟩,?_⟩
 ·have h:St a4 (aV (cf [] (g.prods.take 0))::_):=St.flat.2 (show St a4 ([]++_) from aI 3 h);rw[hK];exact h.pick 3 [2,1,0]
 clear h;rintro _ _ al⟨j,pa,pc,os,rfl,hj,O,h⟩;have a5:(g.prods.take j).length=j:=by simp_all
 refine ae (λh2=>?_) λh2=>?_
 ·have h2:j<g.prods.length:=by simp_all
  obtain⟨p,ad,vs,ba,av,am,ra,J,rc,rfl,bc,a7⟩:=hg.p.get (i:=j) ω;have bP:=b7 p (afI ba);have b8:=a7.1;have et:g.prods.take (j+1)=g.prods.take j++[p]:=by simp_all[afM]
  refine aJ av ω ⟨_,_,_,_,_,am.at (aA 7 h.l) rfl,ag h λV bz h=>aL h rfl (by simp[aK]) λbl h=>⟨_,_,_,h.cell 1,?_⟩⟩;refine(RB (I:=λ_=>True) (K:=λo k' c' u=>J=k'/\St u (own 1 o J c' (iv p.right)::az V [iI p.left,vS ra J rc,iI p.level]::[az k (K pa j pc),own 3 pa j pc (dV os (g.prods.take j)),aV (cf os (g.prods.take j)),own 1 la x.ll lc (iv g.levels),own 1 na x.nl nc (RA g.cM),own 2 ta x.tl tc (cJ g.terms),az k2 z5,has H])) (a7.mono (aA 8 h.l)) ω h (λ_ _=>trivial) λ_ _ _ h=>⟨rfl,h⟩).mono ?_;rintro _ bA⟨o1,_,c1,rfl,_,rfl,h⟩;refine⟨_,_,_,rfl,(E6 (I:=λ_=>True) (K:=λo k' c' u=>J=k'/\St u (own 1 o J c' (iv p.right)::az V [iI p.left,vS ra J rc,iI p.level]::[az k (K pa j pc),own 3 pa j pc (dV os (g.prods.take j)),aV (cf os (g.prods.take j)),own 1 la x.ll lc (iv g.levels),own 1 na x.nl nc (RA g.cM),own 2 ta x.tl tc (cJ g.terms),az k2 z5,has H])) h (λ_ _=>trivial) λ_ _ _ h=>⟨rfl,h⟩).mono ?_⟩;rintro _ bB⟨Y,_,U,rfl,_,rfl,h⟩;refine⟨_,_,_,rfl,?_⟩;rw[ak];refine aR h.swap σ λa0 h=>?_
  have ck:a0.cell? ((aM k).add 4)=some (vS pa j pc):=by
   have r:aj (hp a0) (aM k) (K pa j pc):=af 2 h.l;rw[hK] at r;exact r.cell sZZ (j:=4) rfl
  refine⟨_,_,_,ck,_,_,_,_,_,(af 0 h.l).at sZZ rfl,ag h λa8 a9 h=>?_⟩;have aa:J=p.right.length:=b8.symm;have h:St a9 [az a8 (qy ((Y,U),p)),az V [iI p.left,vS Y J U,iI p.level],own 1 Y J U (iv p.right),az k (K pa j pc),own 3 pa j pc (dV os (g.prods.take j)),aV (cf os (g.prods.take j)),own 1 la x.ll lc (iv g.levels),own 1 na x.nl nc (RA g.cM),own 2 ta x.tl tc (cJ g.terms),az k2 z5,has H]:=by grind[qy]
  refine(aU aT (rfl:ai Ty _=.slice _) (rfl:ai Ty _=.slice _) rfl rfl rfl (h.pick 11 [0,4,2,3,5,6,7,8,9,10]) rfl (by simp[aK,qy]) (by grind) ω).mono ?_;rintro _ be⟨W,X,rfl,h⟩;refine⟨_,_,_,rfl,?_⟩
  show st1 _ ((aM k).add 4) _ _
  rw[ak];refine aR (h.pick 10 [3,0,2,4,5,6,7,8,9]) (by grind) λbi h=>?_;have eK:(K pa j pc).set 4 (vS W (j+1) X)=K W (j+1) X:=by grind
  rw[eK,aa] at h;have h:=St.snoc (A:=own 1 Y p.right.length U (iv p.right)) (M:=cf os (g.prods.take j)) (h.pick 9 [2,3,0,1,4,5,6,7,8]);have e1:=BN (O.trans a5.symm) (Y,U) p;have e2:=EV (O.trans a5.symm) (Y,U) p;dsimp only at e1;rw[<-e1,<-et] at h;refine⟨⟨ω,ω⟩,⟨j+1,W,X,os++[(Y,U)],σ,ω,by grind,?_⟩,bY h2⟩;rw[et] at h ⊢;rw[e2];exact h.pick 8 [1,2,0,3,4,5,6,7]
 ·have h2:g.prods.length=j:=by grind
  subst h2;rw[af7] at h;have r:aj (hp al) (aM k) (K pa g.prods.length pc):=af 0 h.l;rw[hK] at r;refine⟨_,_,_,_,_,_,_,_,_,_,_,_,_,r.at sZZ rfl,aL (h.pick 8 [6,1,2,3,4,5,7]) rfl (by simp[aK]) λa6 h=>?_⟩;have r2:aj (hp a6) (aM k2) [vS ta x.tl tc,vS na x.nl nc,vS la x.ll lc,iI x.s,vS pa g.prods.length pc]:=af 0 h.l;refine⟨_,_,_,_,_,_,_,_,_,_,_,_,_,r2.at sZZ rfl,⟨ta,x.tl,tc,na,x.nl,nc,la,x.ll,lc,x.s,pa,g.prods.length,pc⟩,os,rfl,⟨tl.symm,nl.symm,ll.symm,bb,rfl⟩,O,?_⟩;have h:St a6 ([own 3 pa g.prods.length pc (dV os g.prods),aV (cf os g.prods),own 2 ta x.tl tc (cJ g.terms),own 1 na x.nl nc (RA g.cM),own 1 la x.ll lc (iv g.levels)]++[has H]):=h.pick 7 [1,2,5,4,3,6];rw[<-tl,<-nl,<-ll] at h;exact St.on (N:=[_,_,_,_,_]) h (bH gs)
end
section
variable{α:Type}{f:α->List Value}{sz n c i:Nat}{w:ahs}{L:List aC}{o:ahr}{xs:List α}
theorem fmR(hf:∀x,(f x).length=sz)(h0:0<sz)(h:St w (own sz o n c (xs.flatMap f)::L)){x:α}(hx:xs[i]? =some x):∃ad,o=some ad/\aj (hp w) (ad.add (eV i sz)) (f x):=by
 rcases dE 0 h.l with e|⟨ad,e,hc⟩
 ·have u:=congrArg List.length e;rw[pf hf,agJ] at u;have J:=(afK.1 hx).1;have:0<xs.length*sz:=Nat.mul_pos ω h0;omega
 ·exact⟨ad,e,cG hf xs ad hc i x hx⟩
theorem Yh(hf:∀x,(f x).length=sz){y:α}(hi:i<xs.length):(xs.flatMap f).take (i*sz)++f y++(xs.flatMap f).drop (i*sz+(f y).length)=(xs.set i y).flatMap f:=by
 have e:xs=xs.take i++xs[i]::xs.drop (i+1):=σ
 have J:((xs.take i).flatMap f).length=i*sz:=by grind[pf,List.length_take]
 have u:xs.flatMap f=(xs.take i).flatMap f++(f xs[i]++(xs.drop (i+1)).flatMap f):=by grind
 simp_all[ahc,List.drop_append,List.drop_of_length_le]
theorem fmW(hf:∀x,(f x).length=sz)(h0:0<sz)(h1:∀x,∀v∈f x,aK v=true){ad:Addr}{y:α}{k:ahs->Prop}(h:St w (own sz o n c (xs.flatMap f)::L))(ha:o=some ad)(hi:i<xs.length)(hk:∀w',St w' (own sz o n c ((xs.set i y).flatMap f)::L)->k w'):bC w (ad.add (eV i sz)) (f y) k:=by
 rw[bg]
 refine Ge h ha ?_ (h1 y) (by simp_all) λw' h=>hk w' ?_
 ·rw[pf hf,hf];have:(i+1)*sz<=xs.length*sz:=ag2 _ hi
  grind
 grind[Yh]
end
section
variable{a:ahr}{i j:Nat}{A B C:Int}{w:ahs}{R:Value->WP}
theorem fB{d:FuncId}{e:List Value}(h:rE 357 [vS a i j,iI (i:Int),Value.func (Fn.func d) (Array.mk []) (Array.mk e)] w λa b=>a=vU []/\R (vU []) b):ρ 298 [vS a i j,(.func (.func d) #[] ⟨e⟩)] w R:=rv Tryz.func298 ⟨[],[],[],[]⟩ h
theorem jZ{e:FuncId}{f:List Value}(h:τ [(7,aN),(8,aN)] λb c=>b 0 20 w/\∀(_:ν) d g h,b d g h->bQ (g<=A) (rE 387 [vS a i j,iI d,iI g,Value.func (Fn.func e) (Array.mk []) (Array.mk f)] h λa e=>a=vU []/\aD (g+20)/\b g (g+20) e/\c g (g+20) e<c d g h) (rE 387 [vS a i j,iI d,iI A,Value.func (Fn.func e) (Array.mk []) (Array.mk f)] h λb c=>b=vU []/\τ [(6,aN)] λb d=>b 20 c/\∀(_:ν) c g,b c g->bQ (c<A) (aD (2*c)/\τ [(7,aN),(8,aN)] λh k=>h 0 (2*c) g/\∀(_:ν) l m n,h l m n->bQ (m<=A) (aD (l+c)/\rE 388 [vS a i j,iI l,iI (l+c),iI m,Value.func (Fn.func e) (Array.mk []) (Array.mk f)] n λa b=>a=vU []/\aD (2*c)/\aD (m+2*c)/\h m (m+2*c) b/\k m (m+2*c) b<k l m n) (aD (l+c)/\bQ (l+c<A) (rE 388 [vS a i j,iI l,iI (l+c),iI A,Value.func (Fn.func e) (Array.mk []) (Array.mk f)] n λa e=>a=vU []/\aD (c*2)/\b (c*2) e/\d (c*2) e<d c g) (aD (c*2)/\b (c*2) n/\d (c*2) n<d c g))) (R (vU []) g))):ρ 357 [vS a i j,iI A,(.func (.func e) #[] ⟨f⟩)] w R:=rv Tryz.func357 ⟨[(2,[(7,(.one (.int .i64))),(8,(.one (.int .i64)))]),(7,[(6,(.one (.int .i64)))]),(9,[(7,(.one (.int .i64))),(8,(.one (.int .i64)))])],[],[],[]⟩ h
theorem gi{f:FuncId}{g:List Value}(h:aD (A+1)/\τ [(8,aN)] λb c=>b (A+1) w/\∀(_:ν) d e,b d e->bQ (d<B) (τ [(9,aN)] λh j=>h d e/\∀(_:ν) k l,h k l->∀m,drawn l m->∃(n:WP),n m/\bQ (A<k) (idx a i k 3 λo=>∃p q r s t,(∀a,n a->rowAt a o 0 3=some [iI p,iI q,vS r s t])/\aD (k-1)/\idx a i (k-1) 3 λo=>∃u v w x y,(∀a,n a->rowAt a o 0 3=some [iI u,iI v,vS w x y])/\oN (Proofs.YtaoaemnefghnbaaGreatDoor.Fn f) (rEi f (vG [iI p,iI q,vS r s t]::vG [iI u,iI v,vS w x y]::g) m λm g=>n g/\bQ (m<0) (∀b,drawn g b->∃(c:WP),c b/\aD (k-1)/\aD (k-1)/\idx a i (k-1) 3 λd=>∃e f g m n,(∀a,c a->rowAt a d 0 3=some [iI e,iI f,vS g m n])/\idx a i k 3 λd=>∃o p q r s,(∀a,c a->rowAt a d 0 3=some [iI o,iI p,vS q r s])/\idx a i k 3 λc=>bC b c [iI e,iI f,vS g m n] λb=>idx a i (k-1) 3 λa=>bC b a [iI o,iI p,vS q r s] λa=>aD (k-1)/\h (k-1) a/\j (k-1) a<j k l) (aD (d+1)/\b (d+1) g/\c (d+1) g<c d e))) (aD (d+1)/\b (d+1) m/\c (d+1) m<c d e)) (R (vU []) e)):ρ 387 [vS a i j,iI A,iI B,(.func (.func f) #[] ⟨g⟩)] w R:=rv Tryz.func387 ⟨[(1,[(8,(.one (.int .i64)))]),(4,[(9,(.one (.int .i64)))])],[],[],[]⟩ h
theorem iT{F:FuncId}{G:List Value}(h:aD (B-A)/\br (B-A==1) (τ [(10,aN),(11,aN)] λb c=>b B C w/\∀(_:ν) d e f,b d e f->bQ (d<e) (aD (d+e)/\ns 1/\aD (aZ IntKind.u64 (IntKind.wrap IntKind.u64 (d+e)) 1)/\∀g,drawn f g->∃(h:WP),h g/\idx a i (aZ IntKind.u64 (IntKind.wrap IntKind.u64 (d+e)) 1) 3 λj=>∃k l m n o,(∀a,h a->rowAt a j 0 3=some [iI k,iI l,vS m n o])/\idx a i A 3 λa=>∃i j p q r,(∀b,h b->rowAt b a 0 3=some [iI i,iI j,vS p q r])/\oN (Proofs.YtaoaemnefghnbaaGreatDoor.Fn F) (rEi F (vG [iI k,iI l,vS m n o]::vG [iI i,iI j,vS p q r]::G) g λi g=>h g/\bQ (i<0) (aD (aZ IntKind.u64 (IntKind.wrap IntKind.u64 (d+e)) 1+1)/\b (aZ IntKind.u64 (IntKind.wrap IntKind.u64 (d+e)) 1+1) e g/\c (aZ IntKind.u64 (IntKind.wrap IntKind.u64 (d+e)) 1+1) e g<c d e f) (b d (aZ IntKind.u64 (IntKind.wrap IntKind.u64 (d+e)) 1) g/\c d (aZ IntKind.u64 (IntKind.wrap IntKind.u64 (d+e)) 1) g<c d e f))) (τ [(13,aN)] λb c=>b A f/\∀(_:ν) e f,b e f->aD (d-1)/\bQ (e<d-1) (∀d,drawn f d->∃(g:WP),g d/\aD (e+1)/\aD (e+1)/\idx a i (e+1) 3 λh=>∃j k l m n,(∀a,g a->rowAt a h 0 3=some [iI j,iI k,vS l m n])/\idx a i e 3 λh=>∃o p q r s,(∀a,g a->rowAt a h 0 3=some [iI o,iI p,vS q r s])/\idx a i e 3 λg=>bC d g [iI j,iI k,vS l m n] λd=>idx a i (e+1) 3 λa=>bC d a [iI o,iI p,vS q r s] λa=>aD (e+1)/\b (e+1) a/\c (e+1) a<c e f) (R (vU []) f))) (aD (C-B)/\br (C-B==1) (τ [(14,aN),(15,aN)] λb c=>b A B w/\∀(_:ν) d e f,b d e f->bQ (d<e) (aD (d+e)/\ns 1/\aD (aZ IntKind.u64 (IntKind.wrap IntKind.u64 (d+e)) 1)/\∀g,drawn f g->∃(h:WP),h g/\idx a i B 3 λj=>∃k l m n o,(∀a,h a->rowAt a j 0 3=some [iI k,iI l,vS m n o])/\idx a i (aZ IntKind.u64 (IntKind.wrap IntKind.u64 (d+e)) 1) 3 λa=>∃i j p q r,(∀b,h b->rowAt b a 0 3=some [iI i,iI j,vS p q r])/\oN (Proofs.YtaoaemnefghnbaaGreatDoor.Fn F) (rEi F (vG [iI k,iI l,vS m n o]::vG [iI i,iI j,vS p q r]::G) g λi g=>h g/\br (!decide (i<0)) (aD (aZ IntKind.u64 (IntKind.wrap IntKind.u64 (d+e)) 1+1)/\b (aZ IntKind.u64 (IntKind.wrap IntKind.u64 (d+e)) 1+1) e g/\c (aZ IntKind.u64 (IntKind.wrap IntKind.u64 (d+e)) 1+1) e g<c d e f) (b d (aZ IntKind.u64 (IntKind.wrap IntKind.u64 (d+e)) 1) g/\c d (aZ IntKind.u64 (IntKind.wrap IntKind.u64 (d+e)) 1) g<c d e f))) (τ [(17,aN)] λb c=>b B f/\∀(_:ν) e f,b e f->bQ (d<e) (∀d,drawn f d->∃(g:WP),g d/\aD (e-1)/\aD (e-1)/\idx a i (e-1) 3 λh=>∃j k l m n,(∀a,g a->rowAt a h 0 3=some [iI j,iI k,vS l m n])/\idx a i e 3 λh=>∃o p q r s,(∀a,g a->rowAt a h 0 3=some [iI o,iI p,vS q r s])/\idx a i e 3 λg=>bC d g [iI j,iI k,vS l m n] λd=>idx a i (e-1) 3 λa=>bC d a [iI o,iI p,vS q r s] λa=>aD (e-1)/\b (e-1) a/\c (e-1) a<c e f) (R (vU []) f))) (aD (A+C)/\ns 1/\aD (aZ IntKind.u64 (IntKind.wrap IntKind.u64 (A+C)) 1)/\aD (aZ IntKind.u64 (IntKind.wrap IntKind.u64 (A+C)) 1+B)/\∃(b:lP [(20,aN),(21,aN)]),bQ (aZ IntKind.u64 (IntKind.wrap IntKind.u64 (A+C)) 1<B) (aD (aZ IntKind.u64 (IntKind.wrap IntKind.u64 (A+C)) 1+B-C)/\b (aZ IntKind.u64 (IntKind.wrap IntKind.u64 (A+C)) 1+B-C) (aZ IntKind.u64 (IntKind.wrap IntKind.u64 (A+C)) 1) w) (b A B w)/\∀(_:ν) c d e,b c d e->aD (aZ IntKind.u64 (IntKind.wrap IntKind.u64 (A+C)) 1+B-1)/\τ [(20,aN),(21,aN)] λb f=>b c d e/\∀(_:ν) c d e,b c d e->bQ (c<d) (aD (c+d)/\ns 1/\aD (aZ IntKind.u64 (IntKind.wrap IntKind.u64 (c+d)) 1)/\∀g,drawn e g->∃(h:WP),h g/\aD (aZ IntKind.u64 (IntKind.wrap IntKind.u64 (A+C)) 1+B-1-aZ IntKind.u64 (IntKind.wrap IntKind.u64 (c+d)) 1)/\idx a i (aZ IntKind.u64 (IntKind.wrap IntKind.u64 (A+C)) 1+B-1-aZ IntKind.u64 (IntKind.wrap IntKind.u64 (c+d)) 1) 3 λj=>∃k l m n o,(∀a,h a->rowAt a j 0 3=some [iI k,iI l,vS m n o])/\idx a i (aZ IntKind.u64 (IntKind.wrap IntKind.u64 (c+d)) 1) 3 λa=>∃i j p q r,(∀b,h b->rowAt b a 0 3=some [iI i,iI j,vS p q r])/\oN (Proofs.YtaoaemnefghnbaaGreatDoor.Fn F) (rEi F (vG [iI k,iI l,vS m n o]::vG [iI i,iI j,vS p q r]::G) g λi g=>h g/\br (!decide (i<0)) (aD (aZ IntKind.u64 (IntKind.wrap IntKind.u64 (c+d)) 1+1)/\b (aZ IntKind.u64 (IntKind.wrap IntKind.u64 (c+d)) 1+1) d g/\f (aZ IntKind.u64 (IntKind.wrap IntKind.u64 (c+d)) 1+1) d g<f c d e) (b c (aZ IntKind.u64 (IntKind.wrap IntKind.u64 (c+d)) 1) g/\f c (aZ IntKind.u64 (IntKind.wrap IntKind.u64 (c+d)) 1) g<f c d e))) (aD (aZ IntKind.u64 (IntKind.wrap IntKind.u64 (A+C)) 1+B-c)/\∃(b:lP []),bQ (c<B) (bQ (B<aZ IntKind.u64 (IntKind.wrap IntKind.u64 (A+C)) 1+B-c) (rE 397 [vS a i j,iI c,iI B,iI (aZ IntKind.u64 (IntKind.wrap IntKind.u64 (A+C)) 1+B-c),Value.func (Fn.func F) (Array.mk []) (Array.mk G)] e λa c=>a=vU []/\b c) (b e)) (b e)/\∀(_:ν) d,b d->bQ (A<c) (bQ (c<aZ IntKind.u64 (IntKind.wrap IntKind.u64 (A+C)) 1) (rE 388 [vS a i j,iI A,iI c,iI (aZ IntKind.u64 (IntKind.wrap IntKind.u64 (A+C)) 1),Value.func (Fn.func F) (Array.mk []) (Array.mk G)] d λb d=>b=vU []/\bQ (aZ IntKind.u64 (IntKind.wrap IntKind.u64 (A+C)) 1<aZ IntKind.u64 (IntKind.wrap IntKind.u64 (A+C)) 1+B-c) (bQ (aZ IntKind.u64 (IntKind.wrap IntKind.u64 (A+C)) 1+B-c<C) (rE 388 [vS a i j,iI (aZ IntKind.u64 (IntKind.wrap IntKind.u64 (A+C)) 1),iI (aZ IntKind.u64 (IntKind.wrap IntKind.u64 (A+C)) 1+B-c),iI C,Value.func (Fn.func F) (Array.mk []) (Array.mk G)] d λa b=>a=vU []/\R (vU []) b) (R (vU []) d)) (R (vU []) d)) (bQ (aZ IntKind.u64 (IntKind.wrap IntKind.u64 (A+C)) 1<aZ IntKind.u64 (IntKind.wrap IntKind.u64 (A+C)) 1+B-c) (bQ (aZ IntKind.u64 (IntKind.wrap IntKind.u64 (A+C)) 1+B-c<C) (rE 388 [vS a i j,iI (aZ IntKind.u64 (IntKind.wrap IntKind.u64 (A+C)) 1),iI (aZ IntKind.u64 (IntKind.wrap IntKind.u64 (A+C)) 1+B-c),iI C,Value.func (Fn.func F) (Array.mk []) (Array.mk G)] d λa b=>a=vU []/\R (vU []) b) (R (vU []) d)) (R (vU []) d))) (bQ (aZ IntKind.u64 (IntKind.wrap IntKind.u64 (A+C)) 1<aZ IntKind.u64 (IntKind.wrap IntKind.u64 (A+C)) 1+B-c) (bQ (aZ IntKind.u64 (IntKind.wrap IntKind.u64 (A+C)) 1+B-c<C) (rE 388 [vS a i j,iI (aZ IntKind.u64 (IntKind.wrap IntKind.u64 (A+C)) 1),iI (aZ IntKind.u64 (IntKind.wrap IntKind.u64 (A+C)) 1+B-c),iI C,Value.func (Fn.func F) (Array.mk []) (Array.mk G)] d λa b=>a=vU []/\R (vU []) b) (R (vU []) d)) (R (vU []) d)))))):ρ 388 [vS a i j,iI A,iI B,iI C,(.func (.func F) #[] ⟨G⟩)] w R:=rv Tryz.func388 ⟨[(3,[(10,(.one (.int .i64))),(11,(.one (.int .i64)))]),(9,[(13,(.one (.int .i64)))]),(15,[(14,(.one (.int .i64))),(15,(.one (.int .i64)))]),(21,[(17,(.one (.int .i64)))]),(33,[(20,(.one (.int .i64))),(21,(.one (.int .i64)))])],[(32,[(20,(.one (.int .i64))),(21,(.one (.int .i64)))]),(41,[])],[],[]⟩ h
theorem j4{F:FuncId}{G:List Value}(h:aD (B-A)/\aD (C-B)/\τ [(10,aN),(11,aN)] λb c=>b (B-A) (C-B) w/\∀(_:ν) d e f,b d e f->br (d !=e) (bQ (e<d) (aD (B-d)/\rE 400 [vS a i j,iI (B-d),iI B,iI e,Value.func (Fn.func F) (Array.mk []) (Array.mk G)] f λa g=>a=vU []/\aD (d-e)/\b (d-e) e g/\c (d-e) e g<c d e f) (aD (B-d)/\aD (B+e)/\aD (B+e-d)/\rE 400 [vS a i j,iI (B-d),iI (B+e-d),iI d,Value.func (Fn.func F) (Array.mk []) (Array.mk G)] f λa g=>a=vU []/\aD (e-d)/\b d (e-d) g/\c d (e-d) g<c d e f)) (aD (B-d)/\rE 400 [vS a i j,iI (B-d),iI B,iI d,Value.func (Fn.func F) (Array.mk []) (Array.mk G)] f λa b=>a=vU []/\R (vU []) b)):ρ 397 [vS a i j,iI A,iI B,iI C,(.func (.func F) #[] ⟨G⟩)] w R:=rv Tryz.func397 ⟨[(2,[(10,(.one (.int .i64))),(11,(.one (.int .i64)))])],[],[],[]⟩ h
theorem iA{F:FuncId}{G:List Value}(h:τ [(10,aN)] λb c=>b 0 w/\∀(_:ν) d e,b d e->bQ (d<C) (∀f,drawn e f->∃(g:WP),g f/\aD (A+d)/\aD (B+d)/\aD (B+d)/\idx a i (B+d) 3 λh=>∃j k l m n,(∀a,g a->rowAt a h 0 3=some [iI j,iI k,vS l m n])/\aD (A+d)/\idx a i (A+d) 3 λh=>∃o p q r s,(∀a,g a->rowAt a h 0 3=some [iI o,iI p,vS q r s])/\idx a i (A+d) 3 λg=>bC f g [iI j,iI k,vS l m n] λf=>idx a i (B+d) 3 λa=>bC f a [iI o,iI p,vS q r s] λa=>aD (d+1)/\b (d+1) a/\c (d+1) a<c d e) (R (vU []) e)):ρ 400 [vS a i j,iI A,iI B,iI C,(.func (.func F) #[] ⟨G⟩)] w R:=rv Tryz.func400 ⟨[(1,[(10,(.one (.int .i64)))])],[],[],[]⟩ h
end
abbrev iH(b:pC):Int:=b.1.2
section
variable{w:ahs}{L:List aC}{o:ahr}{n c i:Nat}{ds:List pC}{x:pC}
abbrev rwQ(x:pC):List Value:=[iI x.1.1,iI x.1.2,vS x.2.1.1 x.2.2.length x.2.1.2]
theorem RC(h:St w (own 3 o n c (gp ds)::L))(hx:ds[i]? =some x):∃ad,o=some ad/\aj (hp w) (ad.add (eV i 3)) (rwQ x):=fmR (f:=bkE) (λ_=>rfl) σ h hx
theorem bkW{ad:Addr}{k:ahs->Prop}(h:St w (own 3 o n c (gp ds)::L))(ha:o=some ad)(hi:i<ds.length)(hk:∀w',St w' (own 3 o n c (gp (ds.set i x))::L)->k w'):bC w (ad.add (eV i 3)) (rwQ x) k:=
 fmW (f:=bkE) (λ_=>rfl) σ (λx v u=>by simp[bkE,bS] at u;rcases u with rfl|rfl|rfl<;>rfl) h ha hi hk
theorem MU(h:St w (own 3 o n c (gp ds)::L)):n=ds.length:=by grind[fO,S3]
end
section
variable{w:ahs}{L:List aC}{o:ahr}{n c:Nat}{d:FuncId}{e:List Value}
theorem MV{A X M Y C:List pC}{xs:List pC}{k:Nat}{a b:Int}(h:St w (own 3 o n c (gp xs)::L))(hxs:xs=A++(X++(M++(Y++C))))(ha:a=A.length)(hb:b=((A.length+X.length+M.length:Nat):Int))(hX:X.length=k)(hY:Y.length=k)(hn:xs.length<=1000000):
  ρ 400 [vS o n c,iI a,iI b,iI (k:Int),.func (.func d) #[] ⟨e⟩] w λv w'=>v=.tuple #[]/\St w' (own 3 o n c (gp (A++(Y++(M++(X++C)))))::L):=by
 have a6:=MU h;have hl:xs.length=A.length+X.length+M.length+Y.length+C.length:=by grind
 subst ha hb;refine iA ⟨λz w'=>∃i:Nat,z=i/\i<=k/\St w' (own 3 o n c (gp (A++(Y.take i++(X.drop i++(M++(X.take i++(Y.drop i++C)))))))::L),λz _=>k-z.toNat,⟨0,rfl,afL _,by simp_all⟩,?_⟩;clear h;rintro _ _ w1⟨i,rfl,hi,h⟩;refine ae (λU=>?_) λU=>?_
 rotate_left
 ·grind
 have U:i<k:=by simp_all
 intro w2 hd;have h:=h.eq (aP hd);obtain⟨x,hx⟩:∃x,X[i]? =some x:=⟨_,afJ ω⟩;obtain⟨y,hy⟩:∃y,Y[i]? =some y:=⟨_,afJ ω⟩;obtain⟨D,hD⟩:∃D,D=A++(Y.take i++(X.drop i++(M++(X.take i++(Y.drop i++C))))):=⟨_,rfl⟩;have eX:X.drop i=x::X.drop (i+1):=by grind[List.drop_eq_getElem_cons,List.getElem?_eq_getElem,Option.some.inj]
 have eY:Y.drop i=y::Y.drop (i+1):=by grind[List.drop_eq_getElem_cons,List.getElem?_eq_getElem,Option.some.inj]
 have V:D=(A++Y.take i)++x::((X.drop (i+1)++(M++X.take i))++y::(Y.drop (i+1)++C)):=by simp_all
 have l1:(A++Y.take i).length=A.length+i:=by simp_all
 have l2:(X.drop (i+1)++(M++X.take i)).length=X.length-(i+1)+(M.length+i):=by simp_all
 have e2:(D.set (A.length+i) y).set (A.length+X.length+M.length+i) x=A++(Y.take (i+1)++(X.drop (i+1)++(M++(X.take (i+1)++(Y.drop (i+1)++C))))):=by
  rw[V,CG ω ω,afM,afM,hx,hy];simp
 rw[<-hD] at h;have gx:D[A.length+i]? =some x:=by simp_all
 have gy:D[A.length+X.length+M.length+i]? =some y:=by
  rw[V,show(A++Y.take i)++x::((X.drop (i+1)++(M++X.take i))++y::(Y.drop (i+1)++C))=((A++Y.take i)++x::(X.drop (i+1)++(M++X.take i)))++y::(Y.drop (i+1)++C) by simp]
  grind[uL,List.length_append,List.length_cons]
 have a4:D.length=n:=(MU h).symm;obtain⟨ad,J,rx⟩:=RC h gx;obtain⟨a0,O,ry⟩:=RC h gy;rw[J] at O;cases O;have z1:(A.length:Int)+i=((A.length+i:Nat):Int):=σ
 have z2:((A.length+X.length+M.length:Nat):Int)+i=((A.length+X.length+M.length+i:Nat):Int):=σ
 have a5:n<=1000000:=ω
 have Z:A.length+i<n:=ω
 have W:A.length+X.length+M.length+i<n:=ω
 rw[z1,z2];refine⟨λu=>hp u=hp w2,rfl,⟨ω,ω⟩,⟨ω,ω⟩,⟨ω,ω⟩,aJ J W ⟨_,_,_,_,_,λu e=>ry.at (by simp_all[sub.refl]) rfl,⟨ω,ω⟩,aJ J Z ⟨_,_,_,_,_,λu e=>rx.at (by simp_all[sub.refl]) rfl,aJ J Z (bkW (x:=y) h J ω λw5 h=>aJ J W (bkW (x:=x) h J (by simp_all) λw6 h=>⟨⟨ω,ω⟩,⟨i+1,σ,U,?_⟩,bY U⟩))⟩⟩⟩
 simp_all
theorem Yi{A X Y C:List pC}{xs:List pC}{a m b:Int}(h:St w (own 3 o n c (gp xs)::L))(hxs:xs=A++(X++(Y++C)))(ha:a=A.length)(hm:m=((A.length+X.length:Nat):Int))(hb:b=((A.length+X.length+Y.length:Nat):Int))(hX:X≠[])(hY:Y≠[])(hn:xs.length<=1000000):
  ρ 397 [vS o n c,iI a,iI m,iI b,.func (.func d) #[] ⟨e⟩] w λv w'=>v=.tuple #[]/\St w' (own 3 o n c (gp (A++(Y++(X++C))))::L):=by
 have hl:xs.length=A.length+X.length+Y.length+C.length:=by grind
 have Z:=ag5.2 hX;have W:=ag5.2 hY;subst ha hm hb;obtain⟨T,hT⟩:∃T,T=A++(Y++(X++C)):=⟨_,rfl⟩;have a5:T.length=xs.length:=by grind
 rw[<-hT];obtain⟨E,hE⟩:∃E,E=A.length+X.length:=⟨_,rfl⟩;refine j4 ⟨⟨ω,ω⟩,⟨ω,ω⟩,λy z w'=>∃A X Y C:List pC,y=(X.length:Int)/\z=(Y.length:Int)/\X≠[]/\Y≠[]/\A.length+X.length=E/\A++(Y++(X++C))=T/\St w' (own 3 o n c (gp (A++(X++(Y++C))))::L),λy z _=>y.toNat+z.toNat,⟨A,X,Y,C,ω,ω,hX,hY,hE.symm,hT.symm,by simp_all⟩,?_⟩;rw[<-hE];clear h hxs hX hY Z W;rintro _ _ _ w1⟨V,J,u,O,rfl,rfl,hX,hY,hm,a4,h⟩;have Z:=ag5.2 hX;have W:=ag5.2 hY;have a0:V.length+(u.length+(J.length+O.length))=T.length:=by grind
 refine ae (λU=>?_) λU=>?_
 rotate_left
 ·have U:(J.length:Int)=u.length:=by simp_all
  have U:J.length=u.length:=ω
  refine⟨⟨ω,ω⟩,(MV (A:=V) (X:=J) (M:=[]) (Y:=u) (C:=O) (k:=J.length) h σ ω (by simp_all) rfl U.symm (by simp_all)).mono ?_⟩
  simp_all
 have U:(J.length:Int)≠u.length:=by simp_all
 have U:J.length≠u.length:=ω
 refine ae (λh2=>?_) λh2=>?_
 ·have h2:u.length<J.length:=by simp_all
  refine⟨⟨ω,ω⟩,(MV (A:=V) (X:=J.take u.length) (M:=J.drop u.length) (Y:=u) (C:=O) (k:=u.length) h (by grind[List.append_assoc,List.take_append_drop]) ω (by grind) (by grind) rfl (by grind)).mono ?_⟩;rintro _ w2⟨rfl,h⟩
  refine⟨rfl,⟨ω,ω⟩,⟨V++u,J.drop u.length,J.take u.length,O,by grind,by grind,λhh=>?_,λhh=>?_,by grind,?_,by simp_all⟩,?_⟩
  ·grind
  ·simp_all
  ·grind[List.append_assoc,List.take_append_drop]
  grind
 ·have h2:J.length<u.length:=by grind
  refine⟨⟨ω,ω⟩,⟨ω,ω⟩,⟨ω,ω⟩,(MV (A:=V) (X:=J) (M:=u.take (u.length-J.length)) (Y:=u.drop (u.length-J.length)) (C:=O) (k:=J.length) h (by grind[List.append_assoc,List.take_append_drop]) ω (by grind) rfl (by grind) (by grind)).mono ?_⟩;rintro _ w3⟨rfl,h⟩
  refine⟨rfl,⟨ω,ω⟩,⟨V,u.drop (u.length-J.length),u.take (u.length-J.length),J++O,by grind,by grind,λhh=>?_,λhh=>?_,by grind,?_,ω⟩,?_⟩
  ·grind
  ·grind
  ·grind[List.append_assoc,List.take_append_drop]
  simp_all
def P_(x:pC):Prop:=0<=x.1.2/\x.1.2<=1000000
def aaS(d:FuncId)(e:List Value):Prop:=Fn d=true/\∀(x y:pC)(u:ahs),P_ x->P_ y->ρ d (.agg ⟨rwQ x⟩:: .agg ⟨rwQ y⟩::e) u λv u'=>∃z:Int,v=iI z/\(z<0↔iH x<iH y)/\Gr u u'
theorem Pr{A X C:List pC}{xs:List pC}{a b:Int}(hc:aaS d e)(h:St w (own 3 o n c (gp xs)::L))(hxs:xs=A++(X++C))(ha:a=A.length)(hb:b=((A.length+X.length:Nat):Int))(hs:∀x∈X,P_ x)(hn:xs.length<=1000000):
  ρ 387 [vS o n c,iI a,iI b,.func (.func d) #[] ⟨e⟩] w λv w'=>v=.tuple #[]/\∃S,S.Perm X/\nk iH S/\St w' (own 3 o n c (gp (A++(S++C)))::L):=by
 have hl:xs.length=A.length+X.length+C.length:=by grind
 have b6:=MU h;have b4:n<=1000000:=ω
 subst ha hb
 refine gi ⟨⟨ω,ω⟩,λz w'=>∃S R:List pC,(S++R).Perm X/\nk iH S/\((S≠[]/\z=((A.length+S.length:Nat):Int))\/(X=[]/\z=(A.length:Int)+1))/\St w' (own 3 o n c (gp (A++(S++(R++C))))::L),λz _=>A.length+X.length-z.toNat,?_,?_⟩
 ·cases hX:X with
  |nil=>rw[hX] at hxs;exact⟨[],[],.refl _,.nil,.inr ⟨rfl,rfl⟩,by simp_all⟩
  |cons x X'=>rw[hX] at hxs;exact⟨[x],X',.refl _,List.pairwise_singleton _ _,.inl ⟨σ,σ⟩,by simp_all⟩
 clear h;rintro _ z w1⟨S,R,Y,hS,hz,h⟩;have b5:S.length+R.length=X.length:=by have:=Y.length_eq;simp_all
 refine ae (λW=>?_) λW=>?_
 rotate_left
 ·have W:=afN W
  have hR:R=[]:=by
   rcases hz with⟨_,rfl⟩|⟨hX,_⟩
   ·exact afY ω
   simp_all
  grind
 have W:=afO W;rcases hz with⟨b3,rfl⟩|⟨hX,rfl⟩
 rotate_left
 ·rw[hX] at W;simp at W;omega
 obtain⟨y,U,rfl⟩:∃y U,R=y::U:=by
  cases R with
  |nil=>simp_all
  |cons y U=>simp
 have a6:P_ y:=hs y (Y.mem_iff.1 σ);have a5:∀x∈S,P_ x:=λx hx=>hs x (Y.mem_iff.1 (by grind));refine⟨λz w'=>∃S1 O:List pC,S=S1++O/\z=((A.length+S1.length:Nat):Int)/\(∀u∈O,iH y<=iH u)/\St w' (own 3 o n c (gp (A++(S1++y::(O++(U++C)))))::L),λz _=>z.toNat-A.length,⟨S,[],σ,σ,σ,by simp_all⟩,?_⟩;clear h;rintro _ _ w2⟨S1,O,rfl,rfl,a7,h⟩;have am:=MU h;have a8:S1.length+O.length+(U.length+1)=X.length:=by simp_all
 --it has its place
 have fin:∀{w'},(∀u,S1.getLast? =some u->iH u<=iH y)->St w' (own 3 o n c (gp (A++(S1++y::(O++(U++C)))))::L)->aD (((A.length+(S1++O).length:Nat):Int)+1)/\(∃S R:List pC,(S++R).Perm X/\nk iH S/\((S≠[]/\((A.length+(S1++O).length:Nat):Int)+1=((A.length+S.length:Nat):Int))\/(X=[]/\((A.length+(S1++O).length:Nat):Int)+1=(A.length:Int)+1))/\St w' (own 3 o n c (gp (A++(S++(R++C))))::L))/\A.length+X.length-(((A.length+(S1++O).length:Nat):Int)+1).toNat<A.length+X.length-((A.length+(S1++O).length:Nat):Int).toNat:=λ{w'} Z h=>by
  refine⟨⟨ω,ω⟩,⟨S1++y::O,U,?_,MM hS Z (λu hu=>a7 u (List.mem_of_head? hu)),.inl ⟨σ,by grind⟩,by simp_all⟩,ω⟩
  grind
 intro w3 hd;have h:=h.eq (aP hd);refine⟨λu=>Gr w3 u,Gr.refl _,ae (λh2=>?_) λh2=>?_⟩
 rotate_left
 ·have h2:S1=[]:=afY (by grind);exact fin (λu hu=>by simp_all) h
 have h2:0<S1.length:=by grind
 obtain⟨J,z,rfl⟩:∃J z,S1=J++[z]:=⟨S1.dropLast,S1.getLast (by grind),(List.dropLast_concat_getLast _).symm⟩;obtain⟨D,hD⟩:∃D,D=A++((J++[z])++y::(O++(U++C))):=⟨_,rfl⟩;rw[<-hD] at h;have e1:D=(A++J)++z::([]++y::(O++(U++C))):=by simp_all
 have gz:D[A.length+J.length]? =some z:=by grind[uL]
 have gy:D[A.length+J.length+1]? =some y:=by grind[uL]
 have av:=MU h;have b1:A.length+J.length<n:=by grind
 have b2:A.length+J.length+1<n:=by grind
 obtain⟨ad,V,rz⟩:=RC h gz;obtain⟨al,a4,ry⟩:=RC h gy;rw[V] at a4;cases a4;have z1:((A.length+(J++[z]).length:Nat):Int)=((A.length+J.length+1:Nat):Int):=by grind
 have z2:((A.length+J.length+1:Nat):Int)-1=((A.length+J.length:Nat):Int):=σ
 rw[z1,z2];refine aJ V b2 ⟨_,_,_,_,_,λu g=>ry.at g rfl,⟨ω,ω⟩,aJ V b1 ⟨_,_,_,_,_,λu g=>rz.at g rfl,a_.2 ⟨hc.1,(hc.2 y z w3 a6 (a5 z σ)).mono ?_⟩⟩⟩;rintro _ w6⟨t,rfl,ht,g6⟩;have h:=h.gr g6;refine⟨_,rfl,g6,ae (λh3=>?_) λh3=>?_⟩
 rotate_left
 ·have h3:=afN h3;rw[hD] at h;refine fin (λu hu=>?_) h
  grind
 have h3:=ht.1 (afO h3);intro w7 a0;have h:=h.eq (aP a0);have s7:sub (hp w3) (hp w7):=g6.trans (Gr.drawn a0)
 refine⟨λu=>hp u=hp w7,rfl,⟨ω,ω⟩,⟨ω,ω⟩,aJ V b1 ⟨_,_,_,_,_,λu e=>(rz.mono s7).at (by grind[sub.refl]) rfl,aJ V b2 ⟨_,_,_,_,_,λu e=>(ry.mono s7).at (by grind[sub.refl]) rfl,aJ V b2 (bkW (x:=z) h V ω λa9 h=>aJ V b1 (bkW (x:=y) h V (by grind) λaa h=>⟨⟨ω,ω⟩,⟨J,z::O,σ,rfl,?_,?_⟩,?_⟩))⟩⟩⟩
 ·grind
 ·have e2:(D.set (A.length+J.length+1) z).set (A.length+J.length) y=A++(J++y::(z::O++(U++C))):=by
   rw[List.set_comm _ _ ω,e1,CG σ σ];simp
  grind
 ·show((A.length+J.length:Nat):Int).toNat-A.length<((A.length+J.length+1:Nat):Int).toNat-A.length
  omega
end
section
variable{α:Type}{k:α->Int}
inductive RD (k:α->Int) (bs:Nat):List α->Prop
 |last (l:List α):l.length<=bs->nk k l->RD k bs l
 |more (l m:List α):l.length=bs->nk k l->RD k bs m->RD k bs (l++m)
inductive Ful (k:α->Int) (bs:Nat):List α->Prop
 |nil:Ful k bs []
 |snoc (d l:List α):Ful k bs d->l.length=bs->nk k l->Ful k bs (d++l)
theorem Ful.rns{bs:Nat}{d:List α}(h:Ful k bs d):∀e,RD k bs e->RD k bs (d++e):=by
 induction h with
 |nil=>simp
 |snoc d l _ hl hs ih=>exactλe u=>by rw[af0];exact ih _ (.more l e hl hs u)
theorem RD.srt{bs:Nat}{l:List α}(h:RD k bs l)(hl:l.length<=bs):nk k l:=by
 cases h with
 |last _ _ hs=>omega
 |more a m ha hs hm=>
  have:m=[]:=afY (by grind)
  simp_all
theorem RD.cut{bs:Nat}{l:List α}(h:RD k bs l)(hl:bs<l.length):∃a m,l=a++m/\a.length=bs/\nk k a/\RD k bs m/\m≠[]:=by
 cases h with
 |last _ h1 _=>omega
 |more a m ha hs hm=>grind
def LoQ(X Y:List pC)(H s0 s:Nat):Prop:=s=s0\/∃x y,X[s-1]? =some x/\Y[H-s]? =some y/\iH x<=iH y
def HiQ(X Y:List pC)(H r0 r:Nat):Prop:=r=r0\/∃x y,X[r]? =some x/\Y[H-r-1]? =some y/\iH y<iH x
theorem aaT{n:Nat}(h:n<=4000000):aZ .u64 (IntKind.u64.wrap (n:Int)) 1=((n/2:Nat):Int):=by
 have e:IntKind.u64.wrap (n:Int)=(n:Int):=by grind[IntKind.wrap,IntKind.signed,IntKind.bits,Int.emod_eq_of_lt]
 rw[e];exact G4 (s:=1) σ
end
section
variable{w:ahs}{L:List aC}{o:ahr}{n c:Nat}{d:FuncId}{e:List Value}
theorem E7{i j:Nat}(h:i+j<=4000000):aZ .u64 (IntKind.u64.wrap ((i:Int)+(j:Int))) 1=(((i+j)/2:Nat):Int):=by
 rw[<-aaT h];simp
theorem ID(hc:aaS d e)(N:Nat):∀{w:ahs}{L:List aC}{A X Y C:List pC}{xs:List pC}{a m b:Int}(h:St w (own 3 o n c (gp xs)::L))(hxs:xs=A++(X++(Y++C)))(ha:a=A.length)(hm:m=((A.length+X.length:Nat):Int))(hb:b=((A.length+X.length+Y.length:Nat):Int))(hX:X≠[])(hY:Y≠[])(hN:X.length+Y.length<=N)
  (hsX:nk iH X) (hsY:nk iH Y) (hs:∀x∈X++Y,P_ x) (hn:xs.length<=1000000),
  ρ 388 [vS o n c,iI a,iI m,iI b,.func (.func d) #[] ⟨e⟩] w λv w'=>v=.tuple #[]/\∃S,S.Perm (X++Y)/\nk iH S/\St w' (own 3 o n c (gp (A++(S++C)))::L):=by
 induction N with
 |zero=>simp_all
 |succ N ih=>
 intro w L A X Y C xs a m b h hxs ha hm hb hX hY hN hsX hsY hs hn;have hl:xs.length=A.length+X.length+Y.length+C.length:=by grind
 have dk:=ag5.2 hX;have cC:=ag5.2 hY;have d3:=MU h;have ch:n<=1000000:=ω
 have b4:∀x∈X,P_ x:=λx hx=>hs x (by grind);have al:∀x∈Y,P_ x:=λx hx=>hs x (by grind);have av:ns 1:=by simp[ns]
 subst ha hm hb
 --what stands at a place
 have b5:∀i,i<X.length->∃x,X[i]? =some x/\xs[A.length+i]? =some x:=λi hi=>by
  refine⟨_,afJ hi,?_⟩;rw[hxs,agf ω,agy,af5 hi,afJ hi]
 have b7:∀i,i<Y.length->∃y,Y[i]? =some y/\xs[A.length+X.length+i]? =some y:=λi hi=>by
  refine⟨_,afJ hi,?_⟩;rw[hxs,agf ω,show A.length+X.length+i-A.length=X.length+i by omega,agf ω,agy,af5 hi,afJ hi]
 have eA:(((A.length+X.length:Nat):Int)-A.length==1)=decide (X.length=1):=by grind
 have eB:(((A.length+X.length+Y.length:Nat):Int)-((A.length+X.length:Nat):Int)==1)=decide (Y.length=1):=by grind
 refine iT ⟨⟨ω,ω⟩,?_⟩;rw[eA]
 refine ae (λh1=>?_) λh1=>?_
 ·--one on the left
  have h1:=afO h1;obtain⟨x,bP⟩:∃x,X=[x]:=List.length_eq_one_iff.1 h1;subst bP;obtain⟨_,bB,gx⟩:=b5 0 σ;cases bB;have bz:P_ x:=b4 x σ;refine⟨λi j w'=>∃J U:Nat,i=((A.length+1+J:Nat):Int)/\j=((A.length+1+U:Nat):Int)/\J<=U/\U<=Y.length/\(∀y,0<J->Y[J-1]? =some y->iH y<iH x)/\(∀y,Y[U]? =some y->iH x<=iH y)/\St w' (own 3 o n c (gp xs)::L),λi j _=>j.toNat-i.toNat,⟨0,Y.length,σ,σ,afL _,afR _,λy hy=>absurd hy ω,λy hy=>(by grind),h⟩,?_⟩;clear h;rintro _ _ _ w1⟨J,U,rfl,rfl,c9,hj,a9,a7,h⟩
  refine ae (λh2=>?_) λh2=>?_
  ·have h2:J<U:=by grind
   rw[E7 ω];obtain⟨q,hq⟩:∃q,q=(J+U)/2:=⟨_,rfl⟩;have aa:(A.length+1+J+(A.length+1+U))/2=A.length+1+q:=ω
   rw[aa];have bc:q<U:=ω
   have b6:J<=q:=ω
   obtain⟨y,hy,gy⟩:=b7 q ω;have gy:xs[A.length+1+q]? =some y:=gy;refine⟨⟨ω,ω⟩,av,⟨ω,ω⟩,λw2 hd=>?_⟩;have h:=h.eq (aP hd);obtain⟨ad,V,ry⟩:=RC h gy;obtain⟨am,O,rx⟩:=RC h gx;rw[V] at O;cases O;refine⟨λu=>Gr w2 u,Gr.refl _,aJ V ω ⟨_,_,_,_,_,λu g=>ry.at g rfl,aJ V ω ⟨_,_,_,_,_,λu g=>rx.at g rfl,a_.2 ⟨hc.1,(hc.2 y x w2 (al y (afI hy)) bz).mono ?_⟩⟩⟩⟩;rintro _ w5⟨t,rfl,ht,g5⟩;have h:=h.gr g5
   refine⟨_,rfl,g5,ae (λh3=>?_) λh3=>?_⟩
   ·have h3:=ht.1 (afO h3)
    refine⟨⟨ω,ω⟩,⟨q+1,U,by rfl,rfl,ω,hj,λy' _ cd=>?_,a7,h⟩,?_⟩
    ·grind
    ·show((A.length+1+U:Nat):Int).toNat-(((A.length+1+q:Nat):Int)+1).toNat<((A.length+1+U:Nat):Int).toNat-((A.length+1+J:Nat):Int).toNat
     omega
   ·have h3:¬iH y<iH x:=λhh=>(afN h3) (ht.2 hh)
    refine⟨⟨J,q,rfl,rfl,b6,ω,a9,λy' cd=>?_,h⟩,?_⟩
    ·grind
    ·show((A.length+1+q:Nat):Int).toNat-((A.length+1+J:Nat):Int).toNat<((A.length+1+U:Nat):Int).toNat-((A.length+1+J:Nat):Int).toNat
     omega
  have h2:J=U:=by grind
  subst h2;refine⟨λz w'=>∃k:Nat,z=((A.length+k:Nat):Int)/\k<=J/\St w' (own 3 o n c (gp (A++(Y.take k++x::(Y.drop k++C))))::L),λz _=>A.length+J-z.toNat,⟨0,σ,afL _,by grind⟩,?_⟩;clear h;rintro _ _ w6⟨k,rfl,hk,h⟩;refine⟨⟨ω,ω⟩,ae (λh3=>?_) λh3=>?_⟩
  rotate_left
  ·have h3:k=J:=by grind
   subst h3;have a6:nk iH (Y.take k++Y.drop k):=by grind[List.take_append_drop]
   refine⟨rfl,Y.take k++x::Y.drop k,?_,MM a6 (λy hy=>?_) (λy hy=>?_),by grind⟩
   ·refine agC.trans ?_;simp
   ·have bT:0<k:=agZ λe=>by grind
    rw[ahf,agj,show min k Y.length-1=k-1 by omega,agH,afZ ω] at hy
    grind
   ·rw[List.head?_eq_getElem?,agG,Nat.add_zero] at hy
    grind
  have h3:k<J:=by grind
  intro w7 hd;have h:=h.eq (aP hd);obtain⟨y,hy⟩:∃y,Y[k]? =some y:=⟨_,afJ ω⟩;have eY:Y.drop k=y::Y.drop (k+1):=by grind[List.drop_eq_getElem_cons,List.getElem?_eq_getElem,Option.some.inj]
  obtain⟨D,hD⟩:∃D,D=A++(Y.take k++x::(Y.drop k++C)):=⟨_,rfl⟩;rw[<-hD] at h;have lk:(A++Y.take k).length=A.length+k:=by simp;omega
  have e1:D=(A++Y.take k)++x::([]++y::(Y.drop (k+1)++C)):=by grind
  have g1:D[A.length+k]? =some x:=by grind[uL]
  have g2:D[A.length+k+1]? =some y:=by
   rw[e1,show(A++Y.take k)++x::([]++y::(Y.drop (k+1)++C))=((A++Y.take k)++[x])++y::(Y.drop (k+1)++C) by simp]
   grind[uL,List.length_append]
  have c8:=MU h;have b1:A.length+k<n:=ω
  have b2:A.length+k+1<n:=ω
  obtain⟨ad,V,r1⟩:=RC h g1;obtain⟨am,O,r2⟩:=RC h g2;rw[V] at O;cases O;have z1:((A.length+k:Nat):Int)+1=((A.length+k+1:Nat):Int):=σ
  rw[z1]
  refine⟨λu=>hp u=hp w7,rfl,⟨ω,ω⟩,⟨ω,ω⟩,aJ V b2 ⟨_,_,_,_,_,λu e=>r2.at (by grind[sub.refl]) rfl,aJ V b1 ⟨_,_,_,_,_,λu e=>r1.at (by grind[sub.refl]) rfl,aJ V b1 (bkW (x:=y) h V ω λcI h=>aJ V b2 (bkW (x:=x) h V (by grind) λd0 h=>⟨⟨ω,ω⟩,⟨k+1,rfl,ω,?_⟩,?_⟩))⟩⟩⟩
  ·have e2:(D.set (A.length+k) y).set (A.length+k+1) x=A++(Y.take (k+1)++x::(Y.drop (k+1)++C)):=by
    rw[e1,CG lk.symm (by grind),afM,hy];simp
   grind
  ·show A.length+J-((A.length+k+1:Nat):Int).toNat<A.length+J-((A.length+k:Nat):Int).toNat
   omega
 have h1:X.length≠1:=afN h1;refine⟨⟨ω,ω⟩,?_⟩;rw[eB]
 refine ae (λh4=>?_) λh4=>?_
 ·--one on the right
  have h4:=afO h4;obtain⟨y,c6⟩:∃y,Y=[y]:=List.length_eq_one_iff.1 h4;subst c6;obtain⟨_,bb,gy⟩:=b7 0 σ;cases bb;have be:P_ y:=al y σ;refine⟨λi j w'=>∃J U:Nat,i=((A.length+J:Nat):Int)/\j=((A.length+U:Nat):Int)/\J<=U/\U<=X.length/\(∀x,0<J->X[J-1]? =some x->iH x<=iH y)/\(∀x,X[U]? =some x->iH y<iH x)/\St w' (own 3 o n c (gp xs)::L),λi j _=>j.toNat-i.toNat,⟨0,X.length,σ,rfl,afL _,afR _,λx hx=>absurd hx ω,λx hx=>(by grind),h⟩,?_⟩;clear h;rintro _ _ _ w1⟨J,U,rfl,rfl,c9,hj,a9,a7,h⟩
  refine ae (λh2=>?_) λh2=>?_
  ·have h2:J<U:=by grind
   rw[E7 ω];obtain⟨q,hq⟩:∃q,q=(J+U)/2:=⟨_,rfl⟩;have aa:(A.length+J+(A.length+U))/2=A.length+q:=ω
   rw[aa];have bc:q<U:=ω
   have b6:J<=q:=ω
   obtain⟨x,hx,gx⟩:=b5 q ω;refine⟨⟨ω,ω⟩,av,⟨ω,ω⟩,λw2 hd=>?_⟩;have h:=h.eq (aP hd);obtain⟨ad,V,ry⟩:=RC h gy;obtain⟨am,O,rx⟩:=RC h gx;rw[V] at O;cases O;refine⟨λu=>Gr w2 u,Gr.refl _,aJ V ω ⟨_,_,_,_,_,λu g=>ry.at g rfl,aJ V ω ⟨_,_,_,_,_,λu g=>rx.at g rfl,a_.2 ⟨hc.1,(hc.2 y x w2 be (b4 x (afI hx))).mono ?_⟩⟩⟩⟩;rintro _ w5⟨t,rfl,ht,g5⟩;have h:=h.gr g5
   refine⟨_,rfl,g5,ae (λh3=>?_) λh3=>?_⟩
   ·have h3:¬iH y<iH x:=λhh=>by grind
    refine⟨⟨ω,ω⟩,⟨q+1,U,by rfl,rfl,ω,hj,λx' _ ca=>?_,a7,h⟩,?_⟩
    ·grind
    ·show((A.length+U:Nat):Int).toNat-(((A.length+q:Nat):Int)+1).toNat<((A.length+U:Nat):Int).toNat-((A.length+J:Nat):Int).toNat
     omega
   ·have h3:iH y<iH x:=ht.1 (by grind)
    refine⟨⟨J,q,rfl,rfl,b6,ω,a9,λx' ca=>?_,h⟩,?_⟩
    ·grind
    ·show((A.length+q:Nat):Int).toNat-((A.length+J:Nat):Int).toNat<((A.length+U:Nat):Int).toNat-((A.length+J:Nat):Int).toNat
     omega
  have h2:J=U:=by grind
  subst h2;refine⟨λz w'=>∃k:Nat,z=((A.length+k:Nat):Int)/\J<=k/\k<=X.length/\St w' (own 3 o n c (gp (A++(X.take k++y::(X.drop k++C))))::L),λz _=>z.toNat,⟨X.length,rfl,hj,afR _,by grind⟩,?_⟩;clear h;rintro _ _ cF⟨k,rfl,cx,hk,h⟩;refine ae (λh3=>?_) λh3=>?_
  rotate_left
  ·have h3:k=J:=by grind
   subst h3;have a8:nk iH (X.take k++X.drop k):=by grind[List.take_append_drop]
   refine⟨rfl,X.take k++y::X.drop k,?_,MM a8 (λx hx=>?_) (λx hx=>?_),by grind⟩
   ·refine agC.trans ?_;rw[af9]
    grind[List.perm_append_singleton]
   ·have bT:0<k:=agZ λe=>by grind
    rw[ahf,agj,show min k X.length-1=k-1 by omega,agH,afZ ω] at hx
    grind
   ·rw[List.head?_eq_getElem?,agG,Nat.add_zero] at hx
    grind
  have h3:J<k:=by grind
  obtain⟨k,rfl⟩:∃k',k=k'+1:=⟨k-1,ω⟩;intro bA hd;have h:=h.eq (aP hd);obtain⟨x,hx⟩:∃x,X[k]? =some x:=⟨_,afJ ω⟩;obtain⟨D,hD⟩:∃D,D=A++(X.take (k+1)++y::(X.drop (k+1)++C)):=⟨_,rfl⟩;rw[<-hD] at h;have lk:(A++X.take k).length=A.length+k:=by simp;omega
  have e1:D=(A++X.take k)++x::([]++y::(X.drop (k+1)++C)):=by rw[hD,afM,hx];simp
  have g1:D[A.length+k]? =some x:=by grind[uL]
  have g2:D[A.length+(k+1)]? =some y:=by
   rw[e1,show(A++X.take k)++x::([]++y::(X.drop (k+1)++C))=((A++X.take k)++[x])++y::(X.drop (k+1)++C) by simp];exact uL (by grind)
  have c8:=MU h;have b1:A.length+k<n:=ω
  have b2:A.length+(k+1)<n:=ω
  obtain⟨ad,V,r1⟩:=RC h g1;obtain⟨am,O,r2⟩:=RC h g2;rw[V] at O;cases O;have z1:((A.length+(k+1):Nat):Int)-1=((A.length+k:Nat):Int):=ω
  rw[z1]
  refine⟨λu=>hp u=hp bA,rfl,⟨ω,ω⟩,⟨ω,ω⟩,aJ V b1 ⟨_,_,_,_,_,λu e=>r1.at (by grind[sub.refl]) rfl,aJ V b2 ⟨_,_,_,_,_,λu e=>r2.at (by grind[sub.refl]) rfl,aJ V b2 (bkW (x:=x) h V ω λe0 h=>aJ V b1 (bkW (x:=y) h V (by grind) λe4 h=>⟨⟨ω,ω⟩,⟨k,rfl,ω,ω,?_⟩,?_⟩))⟩⟩⟩
  ·have eX:X.drop k=x::X.drop (k+1):=by grind[List.drop_eq_getElem_cons,List.getElem?_eq_getElem,Option.some.inj]
   have e2:(D.set (A.length+(k+1)) x).set (A.length+k) y=A++(X.take k++y::(X.drop k++C)):=by
    rw[List.set_comm _ _ ω,e1,CG lk.symm (by grind),eX];simp
   grind
  ·show((A.length+k:Nat):Int).toNat<((A.length+(k+1):Nat):Int).toNat
   omega
 have h4:Y.length≠1:=afN h4
 --the halves
 obtain⟨H,hH⟩:∃H,H=(X.length+Y.length)/2:=⟨_,rfl⟩;have hM:(A.length+(A.length+X.length+Y.length))/2=A.length+H:=ω
 have dc:0<H:=ω
 have cu:H<X.length+Y.length:=ω
 have d9:2*H<=X.length+Y.length:=ω
 have dF:X.length+Y.length<=2*H+1:=ω
 rw[E7 ω,hM];clear hH hM
 refine⟨⟨ω,ω⟩,av,⟨ω,ω⟩,⟨ω,ω⟩,λs r w'=>∃s' r':Nat,s=((A.length+s':Nat):Int)/\r=((A.length+r':Nat):Int)/\s'<=r'/\r'<=X.length/\r'<=H/\H-s'<=Y.length/\(s'=0\/H-s'=Y.length)/\(r'=X.length\/r'=H)/\hp w'=hp w,?_,?_⟩
 ·refine ae (λh5=>?_) λh5=>?_
  ·have h5:H<X.length:=by grind
   exact⟨⟨ω,ω⟩,H-Y.length,H,ω,by rfl,ω,ω,ω,ω,ω,ω,rfl⟩
  ·have h5:X.length<=H:=by grind
   exact⟨0,X.length,σ,rfl,afL _,afR _,h5,ω,.inl rfl,.inl rfl,rfl⟩
 rintro _ _ _ d6⟨s0,r0,rfl,rfl,bi,d8,cA,d5,ci,cm,c5⟩;have h:=h.eq c5;obtain⟨P,hP⟩:∃P,P=A.length+H+(A.length+X.length):=⟨_,rfl⟩;refine⟨⟨ω,ω⟩,λs r w'=>∃s' r':Nat,s=((A.length+s':Nat):Int)/\r=((A.length+r':Nat):Int)/\s0<=s'/\s'<=r'/\r'<=r0/\LoQ X Y H s0 s'/\HiQ X Y H r0 r'/\St w' (own 3 o n c (gp xs)::L),λs r _=>r.toNat-s.toNat,⟨s0,r0,rfl,rfl,afR _,bi,afR _,.inl rfl,.inl rfl,h⟩,?_⟩;clear h;rintro _ _ _ dl⟨s,r,rfl,rfl,bl,cg,c7,a9,a7,h⟩
 refine ae (λh5=>?_) λh5=>?_
 ·have h5:s<r:=by grind
  rw[E7 ω];obtain⟨q,hq⟩:∃q,q=(s+r)/2:=⟨_,rfl⟩;have aa:(A.length+s+(A.length+r))/2=A.length+q:=ω
  rw[aa];have d4:q<r:=ω
  have cc:s<=q:=ω
  have z1:((A.length+H:Nat):Int)+((A.length+X.length:Nat):Int)-1-((A.length+q:Nat):Int)=((A.length+X.length+(H-q-1):Nat):Int):=ω
  rw[z1];obtain⟨x,hx,gx⟩:=b5 q ω;obtain⟨y,hy,gy⟩:=b7 (H-q-1) ω;refine⟨⟨ω,ω⟩,av,⟨ω,ω⟩,λb8 hd=>?_⟩;have h:=h.eq (aP hd);obtain⟨ad,V,ry⟩:=RC h gy;obtain⟨am,O,rx⟩:=RC h gx;rw[V] at O;cases O;refine⟨λu=>Gr b8 u,Gr.refl _,⟨ω,ω⟩,aJ V ω ⟨_,_,_,_,_,λu g=>ry.at g rfl,aJ V ω ⟨_,_,_,_,_,λu g=>rx.at g rfl,a_.2 ⟨hc.1,(hc.2 y x b8 (al y (afI hy)) (b4 x (afI hx))).mono ?_⟩⟩⟩⟩;rintro _ ck⟨t,rfl,ht,g5⟩;have h:=h.gr g5
  refine⟨_,rfl,g5,ae (λh3=>?_) λh3=>?_⟩
  ·have h3:¬iH y<iH x:=λhh=>by grind
   refine⟨⟨ω,ω⟩,⟨q+1,r,by rfl,rfl,ω,ω,c7,.inr ⟨x,y,by grind,ω,ω⟩,a7,h⟩,?_⟩
   show((A.length+r:Nat):Int).toNat-(((A.length+q:Nat):Int)+1).toNat<((A.length+r:Nat):Int).toNat-((A.length+s:Nat):Int).toNat
   omega
  ·have h3:iH y<iH x:=ht.1 (by grind);refine⟨⟨s,q,rfl,rfl,bl,cc,ω,a9,.inr ⟨x,y,hx,hy,h3⟩,h⟩,?_⟩
   show((A.length+q:Nat):Int).toNat-((A.length+s:Nat):Int).toNat<((A.length+r:Nat):Int).toNat-((A.length+s:Nat):Int).toNat
   omega
 have h5:s=r:=by grind
 subst h5;obtain⟨t,ht⟩:∃t,t=H-s:=⟨_,rfl⟩;have cz:t<=Y.length:=ω
 have z2:((A.length+H:Nat):Int)+((A.length+X.length:Nat):Int)-((A.length+s:Nat):Int)=((A.length+X.length+t:Nat):Int):=ω
 rw[z2];have a8:nk iH (X.take s++X.drop s):=by grind[List.take_append_drop]
 have a6:nk iH (Y.take t++Y.drop t):=by grind[List.take_append_drop]
 have b3:(X.take s).length=s:=by grind
 have ba:(X.drop s).length=X.length-s:=σ
 have a5:(Y.take t).length=t:=by grind
 have d7:(Y.drop t).length=Y.length-t:=σ
 have c1:∀x y,(X.take s).getLast? =some x->(Y.drop t).head? =some y->iH x<=iH y:=λx y hx hy=>by
  have cT:0<s:=agZ λe=>by grind
  rw[ahf,b3,agH,afZ ω] at hx;rw[List.head?_eq_getElem?,agG,Nat.add_zero] at hy
  rcases a9 with e|⟨x',y',e1,e2,e3⟩
  ·grind
  grind
 have c2:∀x y,(Y.take t).getLast? =some x->(X.drop s).head? =some y->iH x<=iH y:=λx y hx hy=>by
  have ht1:0<t:=agZ λe=>by grind
  rw[ahf,a5,agH,afZ ω] at hx;rw[List.head?_eq_getElem?,agG,Nat.add_zero] at hy
  rcases a7 with e|⟨x',y',e1,e2,e3⟩
  ·grind
  ·rw[hy] at e1;cases e1;rw[<-ht,hx] at e2;grind
 have rest:∀a0,St a0 (own 3 o n c (gp (A++(X.take s++(Y.take t++(X.drop s++(Y.drop t++C))))))::L)->br (decide ((A.length:Int)<((A.length+s:Nat):Int))) (br (decide (((A.length+s:Nat):Int)<((A.length+H:Nat):Int))) (ρ 388 [vS o n c,iI (A.length:Int),iI ((A.length+s:Nat):Int),iI ((A.length+H:Nat):Int),.func (.func d) #[] ⟨e⟩] a0 λv4 a4=>v4=.tuple #[]/\br (decide (((A.length+H:Nat):Int)<((A.length+X.length+t:Nat):Int))) (br (decide (((A.length+X.length+t:Nat):Int)<((A.length+X.length+Y.length:Nat):Int))) (ρ 388 [vS o n c,iI ((A.length+H:Nat):Int),iI ((A.length+X.length+t:Nat):Int),iI ((A.length+X.length+Y.length:Nat):Int),.func (.func d) #[] ⟨e⟩] a4 λv5 W=>v5=.tuple #[]/\((.tuple #[]:Value)=.tuple #[]/\∃S,S.Perm (X++Y)/\nk iH S/\St W (own 3 o n c (gp (A++(S++C)))::L))) ((.tuple #[]:Value)=.tuple #[]/\∃S,S.Perm (X++Y)/\nk iH S/\St a4 (own 3 o n c (gp (A++(S++C)))::L))) ((.tuple #[]:Value)=.tuple #[]/\∃S,S.Perm (X++Y)/\nk iH S/\St a4 (own 3 o n c (gp (A++(S++C)))::L)))
   (br (decide (((A.length+H:Nat):Int)<((A.length+X.length+t:Nat):Int))) (br (decide (((A.length+X.length+t:Nat):Int)<((A.length+X.length+Y.length:Nat):Int))) (ρ 388 [vS o n c,iI ((A.length+H:Nat):Int),iI ((A.length+X.length+t:Nat):Int),iI ((A.length+X.length+Y.length:Nat):Int),.func (.func d) #[] ⟨e⟩] a0 λv5 W=>v5=.tuple #[]/\((.tuple #[]:Value)=.tuple #[]/\∃S,S.Perm (X++Y)/\nk iH S/\St W (own 3 o n c (gp (A++(S++C)))::L))) ((.tuple #[]:Value)=.tuple #[]/\∃S,S.Perm (X++Y)/\nk iH S/\St a0 (own 3 o n c (gp (A++(S++C)))::L))) ((.tuple #[]:Value)=.tuple #[]/\∃S,S.Perm (X++Y)/\nk iH S/\St a0 (own 3 o n c (gp (A++(S++C)))::L))))
   (br (decide (((A.length+H:Nat):Int)<((A.length+X.length+t:Nat):Int))) (br (decide (((A.length+X.length+t:Nat):Int)<((A.length+X.length+Y.length:Nat):Int))) (ρ 388 [vS o n c,iI ((A.length+H:Nat):Int),iI ((A.length+X.length+t:Nat):Int),iI ((A.length+X.length+Y.length:Nat):Int),.func (.func d) #[] ⟨e⟩] a0 λv5 W=>v5=.tuple #[]/\((.tuple #[]:Value)=.tuple #[]/\∃S,S.Perm (X++Y)/\nk iH S/\St W (own 3 o n c (gp (A++(S++C)))::L))) ((.tuple #[]:Value)=.tuple #[]/\∃S,S.Perm (X++Y)/\nk iH S/\St a0 (own 3 o n c (gp (A++(S++C)))::L))) ((.tuple #[]:Value)=.tuple #[]/\∃S,S.Perm (X++Y)/\nk iH S/\St a0 (own 3 o n c (gp (A++(S++C)))::L))):=by
  intro a0 h
  --the Z half
  have Z:∀{a4:ahs}{S1:List pC},S1.Perm (X.take s++Y.take t)->nk iH S1->St a4 (own 3 o n c (gp (A++(S1++(X.drop s++(Y.drop t++C)))))::L)->br (decide (((A.length+H:Nat):Int)<((A.length+X.length+t:Nat):Int))) (br (decide (((A.length+X.length+t:Nat):Int)<((A.length+X.length+Y.length:Nat):Int))) (ρ 388 [vS o n c,iI ((A.length+H:Nat):Int),iI ((A.length+X.length+t:Nat):Int),iI ((A.length+X.length+Y.length:Nat):Int),.func (.func d) #[] ⟨e⟩] a4 λv5 W=>v5=.tuple #[]/\((.tuple #[]:Value)=.tuple #[]/\∃S,S.Perm (X++Y)/\nk iH S/\St W (own 3 o n c (gp (A++(S++C)))::L))) ((.tuple #[]:Value)=.tuple #[]/\∃S,S.Perm (X++Y)/\nk iH S/\St a4 (own 3 o n c (gp (A++(S++C)))::L))) ((.tuple #[]:Value)=.tuple #[]/\∃S,S.Perm (X++Y)/\nk iH S/\St a4 (own 3 o n c (gp (A++(S++C)))::L)):=by
   intro a4 S1 p1 s1 h;have l1:S1.length=s+t:=by rw[p1.length_eq,afS,b3,a5]
   have fin:∀{W:ahs}{S2:List pC},S2.Perm (X.drop s++Y.drop t)->nk iH S2->St W (own 3 o n c (gp (A++(S1++(S2++C))))::L)->∃S,S.Perm (X++Y)/\nk iH S/\St W (own 3 o n c (gp (A++(S++C)))::L):=λ{W S2} p2 s2 h=>by
    obtain⟨q1,q2⟩:=Rt a8 a6 c1 c2 p1 s1 p2 s2
    grind[List.take_append_drop,List.append_assoc]
   refine ae (λh6=>?_) λh6=>?_
   rotate_left
   ·have:X.drop s=[]:=afY (by grind);exact⟨rfl,fin (S2:=X.drop s++Y.drop t) (.refl _) (by grind) (by grind)⟩
   have h6:s<X.length:=by grind
   refine ae (λh7=>?_) λh7=>?_
   rotate_left
   ·have:Y.drop t=[]:=afY (by grind);exact⟨rfl,fin (S2:=X.drop s++Y.drop t) (.refl _) (by grind) (by grind)⟩
   have h7:t<Y.length:=by grind
   refine(ih (A:=A++S1) (X:=X.drop s) (Y:=Y.drop t) (C:=C) h σ (by grind) (by grind) (by grind) (λhh=>by grind) (λhh=>by grind) ω (k_.1 a8).2.1 (k_.1 a6).2.1 (λz hz=>?_) (by simp[l1];omega)).mono ?_
   ·grind
   rintro _ W⟨rfl,S2,p2,s2,h⟩;exact⟨rfl,rfl,fin p2 s2 (by grind)⟩
  refine ae (λh6=>?_) λh6=>?_
  rotate_left
  ·have:X.take s=[]:=afY (by grind);exact Z (S1:=X.take s++Y.take t) (.refl _) (by rw[this,agY];exact(k_.1 a6).1) (by grind)
  have h6:0<s:=by grind
  refine ae (λh7=>?_) λh7=>?_
  rotate_left
  ·have:Y.take t=[]:=afY (by grind);exact Z (S1:=X.take s++Y.take t) (.refl _) (by rw[this,agc];exact(k_.1 a8).1) (by grind)
  have h7:0<t:=by grind
  refine(ih (A:=A) (X:=X.take s) (Y:=Y.take t) (C:=X.drop s++(Y.drop t++C)) h rfl rfl ω ω (λhh=>by rw[hh] at b3;simp at b3;omega) (λhh=>by rw[hh] at a5;simp at a5;omega) ω (k_.1 a8).1 (k_.1 a6).1 (λz hz=>?_) (by simp;omega)).mono ?_
  ·rcases afT.1 hz with hz|hz
   ·exact b4 z (List.mem_of_mem_take hz)
   ·exact al z (List.mem_of_mem_take hz)
  rintro _ a4⟨rfl,S1,p1,s1,h⟩;exact⟨rfl,Z p1 s1 h⟩
 refine⟨⟨ω,ω⟩,λw'=>St w' (own 3 o n c (gp (A++(X.take s++(Y.take t++(X.drop s++(Y.drop t++C))))))::L),?_,λ_ a0 h=>rest a0 h⟩
 have cp:xs=A++(X.take s++(X.drop s++(Y.take t++(Y.drop t++C)))):=by
  rw[hxs,<-af0 (X.take s),af9,<-af0 (Y.take t),af9]
 refine ae (λh6=>?_) λh6=>?_
 rotate_left
 ·have:X.drop s=[]:=afY (by grind)
  grind
 have h6:s<X.length:=by grind
 refine ae (λh7=>?_) λh7=>?_
 rotate_left
 ·have:Y.take t=[]:=afY (by grind)
  grind
 have h7:0<t:=by grind
 refine(Yi (A:=A++X.take s) (X:=X.drop s) (Y:=Y.take t) (C:=Y.drop t++C) h (by grind) (by simp;omega) (by simp;omega) (by simp;omega) (λhh=>by rw[hh] at ba;simp at ba;omega) (λhh=>by rw[hh] at a5;simp at a5;omega) hn).mono ?_;simp
end
section
variable{w:ahs}{L:List aC}{o:ahr}{n c:Nat}{d:FuncId}{e:List Value}
theorem Yj{xs:List pC}(hc:aaS d e)(h:St w (own 3 o n c (gp xs)::L))(hs:∀x∈xs,P_ x)(hn:n<=100000):
  ρ 357 [vS o n c,iI (n:Int),.func (.func d) #[] ⟨e⟩] w λv w'=>v=.tuple #[]/\∃ys,ys.Perm xs/\nk iH ys/\St w' (own 3 o n c (gp ys)::L):=by
 have am:=MU h;refine jZ ⟨λa b w'=>∃D E:List pC,a=(D.length:Int)/\b=(D.length:Int)+20/\(D++E).Perm xs/\Ful iH 20 D/\St w' (own 3 o n c (gp (D++E))::L),λa _ _=>n-a.toNat,⟨[],xs,rfl,rfl,.refl _,.nil,h⟩,?_⟩;clear h;rintro _ _ _ w1⟨D,E,rfl,rfl,hp,hF,h⟩;have a4:D.length+E.length=xs.length:=by have:=hp.length_eq;simp_all
 have u:∀x∈E,P_ x:=λx hx=>hs x (hp.mem_iff.1 (by grind))
 refine ae (λU=>?_) λU=>?_
 ·have U:D.length+20<=n:=by grind
  have l1:(E.take 20).length=20:=by grind
  refine(Pr (A:=D) (X:=E.take 20) (C:=E.drop 20) hc h σ rfl ω (λx hx=>u x (List.mem_of_mem_take hx)) (by grind)).mono ?_;rintro _ w2⟨rfl,S,J,V,h⟩;have Z:S.length=20:=by rw[J.length_eq,l1]
  refine⟨rfl,⟨ω,ω⟩,⟨D++S,E.drop 20,by grind,by grind,?_,.snoc D S hF Z V,by simp_all⟩,?_⟩
  ·grind[List.append_assoc,List.Perm.append_left,trans,List.take_append_drop]
  grind
 have U:n<D.length+20:=by grind
 refine(Pr (A:=D) (X:=E) (C:=[]) hc h σ rfl ω u (by grind)).mono ?_;rintro _ w3⟨rfl,S,J,V,h⟩;have Z:S.length=E.length:=J.length_eq;have a5:RD iH 20 (D++S):=hF.rns S (.last S ω V);have a0:(D++S).Perm xs:=(List.Perm.append_left _ J).trans hp;refine⟨rfl,λz w'=>∃(bs:Nat)(ys:List pC),z=bs/\20<=bs/\bs<=200000/\ys.Perm xs/\RD iH bs ys/\St w' (own 3 o n c (gp ys)::L),λz _=>n-z.toNat,⟨20,D++S,rfl,afR _,ω,a0,a5,by simp_all⟩,?_⟩;clear h hp hF a0 a5 J V Z a4 u U;rintro _ _ w4⟨bs,ys,rfl,a9,al,hp,W,h⟩;have a8:ys.length=n:=by rw[hp.length_eq];omega
 refine ae (λU=>?_) λU=>?_
 rotate_left
 ·have U:n<=bs:=by simp_all
  exact⟨rfl,ys,hp,W.srt ω,h⟩
 have U:bs<n:=by simp_all
 have z0:2*(bs:Int)=((2*bs:Nat):Int):=σ
 rw[z0];refine⟨⟨ω,ω⟩,λa b w'=>∃D E:List pC,a=(D.length:Int)/\b=((D.length+2*bs:Nat):Int)/\(D++E).Perm xs/\Ful iH (2*bs) D/\RD iH bs E/\St w' (own 3 o n c (gp (D++E))::L),λa _ _=>n-a.toNat,⟨[],ys,rfl,σ,hp,.nil,W,h⟩,?_⟩;clear h hp W a8;rintro _ _ _ w5⟨D,E,rfl,rfl,hp,hF,W,h⟩;have a4:D.length+E.length=xs.length:=by have:=hp.length_eq;simp_all
 have u:∀x∈E,P_ x:=λx hx=>hs x (hp.mem_iff.1 (by grind))
 refine ae (λh2=>?_) λh2=>?_
 ·have h2:D.length+2*bs<=n:=by grind
  obtain⟨X,m,rfl,hX,sX,hm,_⟩:=W.cut ω;have ad:bs<=m.length:=by grind
  obtain⟨Y,E',rfl,hY,sY,a7⟩:∃Y E',m=Y++E'/\Y.length=bs/\nk iH Y/\RD iH bs E':=by
   by_cases e:m.length=bs
   ·exact⟨m,[],σ,e,hm.srt ω,.last [] (afL _) .nil⟩
   ·obtain⟨Y,E',q1,q2,q3,q4,_⟩:=hm.cut ω
    grind
  refine⟨⟨ω,ω⟩,(ID hc (X.length+Y.length) (A:=D) (X:=X) (Y:=Y) (C:=E') h σ rfl ω ω (λhh=>by grind) (λhh=>by grind) (afR _) sX sY (λx hx=>u x ?_) (by grind)).mono ?_⟩
  ·grind
  rintro _ w6⟨rfl,S,J,V,h⟩;have Z:S.length=2*bs:=by rw[J.length_eq,afS];omega
  refine⟨rfl,⟨ω,ω⟩,⟨ω,ω⟩,⟨D++S,E',by grind,by grind,?_,.snoc D S hF Z V,a7,by simp_all⟩,?_⟩
  ·grind
  grind
 have h2:n<D.length+2*bs:=by grind
 have z1:(D.length:Int)+(bs:Int)=((D.length+bs:Nat):Int):=σ
 rw[z1]
 have next:∀{w':ahs}{S:List pC},S.Perm E->nk iH S->St w' (own 3 o n c (gp (D++S))::L)->aD ((bs:Int)*2)/\(∃(O:Nat)(ys:List pC),(bs:Int)*2=O/\20<=O/\O<=200000/\ys.Perm xs/\RD iH O ys/\St w' (own 3 o n c (gp ys)::L))/\n-((bs:Int)*2).toNat<n-(bs:Int).toNat:=λ{w' S} J V h=>by
  have Z:=J.length_eq;refine⟨⟨ω,ω⟩,⟨2*bs,D++S,ω,ω,ω,(List.Perm.append_left _ J).trans hp,hF.rns S (.last S ω V),h⟩,ω⟩
 refine⟨⟨ω,ω⟩,ae (λh3=>?_) λh3=>?_⟩
 ·have h3:D.length+bs<n:=by grind
  obtain⟨X,Y,rfl,hX,sX,hY,a6⟩:=W.cut ω;have aa:Y.length<bs:=by grind
  refine(ID hc (X.length+Y.length) (A:=D) (X:=X) (Y:=Y) (C:=[]) h σ rfl ω (by grind) (λhh=>by grind) a6 (afR _) sX (hY.srt ω) u (by grind)).mono ?_
  grind
 ·exact next (.refl E) (W.srt (by grind)) h
theorem Yk:aaS qF []:=by
 refine⟨rfl,λx y u O J=>?_⟩;obtain⟨W,Y⟩:=O;obtain⟨Z,V⟩:=J;refine zz (ag (St.all u) λX w1 h=>ag h λk2 U h=>?_);refine⟨_,(af 1 h.l).cell sZZ (j:=1) rfl,_,(af 0 h.l).cell sZZ (j:=1) rfl,⟨ω,ω⟩,_,rfl,?_,aA 2 h.l⟩
 grind
theorem Yl{xs:List pC}(h:St w (own 3 o xs.length c (gp xs)::aV (Bj xs)::L))(hs:∀x∈xs,P_ x)(hn:xs.length<=100000):
  ρ 298 [vS o xs.length c,.func (.func qF) #[] #[]] w λv w'=>v=.tuple #[]/\∃ys:List pC,ys.Perm xs/\nk iH ys/\St w' (own 3 o xs.length c (gp ys)::aV (Bj ys)::L):=by
 refine fB ((Yj Yk h hs hn).mono ?_);rintro _ w'⟨rfl,ys,p,s,h⟩;refine⟨rfl,rfl,ys,p,s,?_⟩;have J:=St.flat.1 (h.pick 2 [1,0]);have u:=J.perm ((p.map λb=>bG 1 iv b.2).symm.append_right _);exact(St.flat.2 u).pick 2 [1,0]
end
section
variable{g:ah}{nn:List Bool}{ss:List SQ}
theorem K8{q:Nat}{es:List aH}:(qE g q es).length<=es.length:=by simp[qE,agp]
theorem UP{q:Nat}{K:List au}:(xV q K).length<=1:=by grind[xV]
theorem K9(h:∀q∈ss,q.2.2.length<=130):∀n,(pE g ss n).length<=n*131
 |0=>by simp[pE]
 |n+1=>by
  rw[Ii,afS]
  have h1:=K9 h n
  grind[E4,List.mem_of_getElem?,K8,UP,List.length_append]
theorem K_{l:iE}{n:Nat}:(xW l n).length<=n:=by grind[xW]
theorem La{ls:List iE}(h:∀l∈ls,l.tm.length<=65):∀n,(tD ls n).length<=n*65
 |0=>by simp[tD]
 |n+1=>by
  have h1:=La h n
  grind[List.take_add_one,tD,Ik,List.length_append,K_,List.mem_of_getElem?]
def afy(g:ah)(nn:List Bool)(ss:List SQ)(ps:List (iR×Lq aE)):Prop:=(ps.map Prod.fst).Nodup/\∀q t:Nat,q<ss.length->t<g.T->jU ⟨(q:Int),(t:Int)⟩ ps=gf g nn ss q t
end
theorem bkT{w:ahs}{L:List aC}{ds:List pC}{i:Nat}{b:pC}(h:St w (aV (Bj ds)::L))(hb:ds[i]? =some b):aY (hp w) b.2.2 b.2.1.1 b.2.2.length:=by
 have hA:(Bj ds)[i]? =some (bG 1 iv b.2):=by simp_all[Bj]
 have u:=St.out h hA;exact bp rfl (dE 0 u.l)
section
variable{w:ahs}{L:List aC}{g:ah}{x:GA}
theorem Ym{xs:List au}{a:ahr}{l c:Nat}{d e:Int}(hr:aY (hp w) xs a l)(hb:l<=4611686018427387904):ρ 297 [vS a l c,.agg #[iI d,iI e]] w λv w'=>v=vB (decide ((⟨d,e⟩:au)∈xs))/\Gr w w':=by
 have hl:=hr.1;refine gT (ag (St.all w) λk1 W h=>?_);have g1:Gr w W:=h.aQ;refine⟨_,_,(af 0 h.l).at sZZ rfl,?_⟩;clear h;have hr:=hr.mono g1
 have key:ρ 356 [vS a l c,.agg #[iI d,iI e]] W λv w'=>∃z:Int,v=iI z/\(0<=z↔(⟨d,e⟩:au)∈xs)/\Gr W w':=by
  refine ji (ag (St.all W) λk2 O h=>?_);have g2:Gr W O:=h.aQ;have rk:aj (hp O) (aM k2) [iI d,iI e]:=af 0 h.l;clear h;have hr:=hr.mono g2;refine⟨λz w'=>∃j:Nat,z=j/\j<=l/\(⟨d,e⟩:au)∉xs.take j/\hp w'=hp O,λz _=>l-z.toNat,⟨0,rfl,afL _,σ,rfl⟩,?_⟩;rintro _ _ w3⟨j,rfl,hj,U,Y⟩;refine ae (λJ=>?_) λJ=>?_
  rotate_left
  ·have J:j=l:=by grind
   rw[af3 ω] at U;exact⟨-1,rfl,⟨λh=>ω,λh=>absurd h U⟩,g2.trans (Gr.of_eq Y)⟩
  have J:j<l:=by simp_all
  obtain⟨y,ad,hy,rfl,ry⟩:=Uz hr J;intro Z hd;have X:hp Z=hp O:=(aP hd).trans Y;have sb:∀u:ahs,hp u=hp O->sub (hp O) (hp u):=λu e=>by simp_all[sub.refl]
  refine⟨λu=>hp u=hp O,X,_,_,λu e=>rk.at (sb u e) rfl,aJ rfl J ⟨_,_,λu e=>ry.at (sb u e) rfl,_,λu _=>QU u _ _ ⟨d,e⟩ y,_,rfl,ae (λV=>?_) λV=>?_⟩⟩
  ·have V:=afO V;exact⟨j,rfl,⟨λ_=>by grind,λ_=>agu _⟩,g2.trans (Gr.of_eq X)⟩
  ·have V:=afN V;refine⟨⟨ω,ω⟩,⟨j+1,σ,J,λhm=>?_,X⟩,bY J⟩
   simp_all[afM]
 refine key.mono ?_;rintro _ w'⟨z,rfl,hz,g⟩;refine⟨z,rfl,?_,g1.trans g⟩
 simp_all
theorem Yn(hg:gR (hp w) g x)(hb:mi g)(ht:dK (hp w)):ρ 213 [.agg ⟨x.cells⟩] w λv w'=>∃(ss:List SQ)(ask int f:Int)(nn:List Bool)(b:Option Nat)(z:Int),v=.tuple #[.map b,iI z,iI f]/\EZ g ss ask int f/\(f=0->u6 g nn)/\Gr w w'/\(f=0->∃(k:Nat)(ps:List (iR×Lq aE)),b=some k/\z=(ss.length:Int)/\afy g nn ss ps/\St w' (mapA k (mV ps)::aV (mO 2 di ps)::all w)):=by
 refine Es (gH hg λk1 w1 gw aa B=>?_);refine⟨_,_,_,_,_,_,_,_,_,_,_,_,_,B.row sZZ,(xN aa hb).mono ?_⟩;rintro _ w2⟨o,c,ss,ask,int,f,rfl,hR,X⟩;have b8:Gr w1 w2:=aA 3 X.l;have hs:ON (hp w2) ss o:=Gi X.l;clear X;refine⟨_,_,_,_,_,_,rfl,ag (St.all w2) λal w3 h=>aL h rfl (by simp[aK]) λY h=>?_⟩;have a8:Gr w2 Y:=h.aQ;have a6:aj (hp Y) (aM al) [vS o ss.length c,iI ask,iI int]:=af 0 h.l;clear h;have V:=b8.trans a8
 refine ae (λJ=>?_) λJ=>?_
 ·have J:f≠0:=by simp_all
  exact⟨ss,ask,int,f,[],none,0,rfl,hR,λh=>absurd h J,gw.trans V,λh=>absurd h J⟩
 have J:f=0:=by simp_all
 subst J;obtain⟨hc,hA⟩:=hR.P7 rfl;have a9:=hA.JW hc;have c5:=hA.dn.2.1;obtain⟨sT,sN,sP,_,_,_⟩:=hc.cX;have tl:=hg.t.1;refine⟨_,_,_,_,_,_,_,_,_,_,_,_,_,B.row V,(XI (aa.mono V) hb (ec.mono (gw.trans V) ht)).mono ?_⟩;rintro _ w5⟨cd,c8,c7,f2,nn,oS,cS,ds,rfl,b2,hn,a5,h⟩;obtain⟨_,b5,_,_,ef,_⟩:=hR.one b2;subst ef;rw[KW b5.symm] at a5;have b1:=hn rfl;refine⟨_,_,_,_,rfl,ae (λJ=>by simp_all) λ_=>?_⟩;obtain⟨Z,_⟩:=Te hc hA
 have dl:ds.length<=24832:=by
  have:=congrArg List.length a5
  grind[List.length_map,Rq]
 have b6:∀l∈dt g nn ss,l.tm.length<=65:=λl hl=>by
  obtain⟨b,_,rfl⟩:=afW.1 hl;exact agn XQ sT
 have hs:=hs.mono a8;have b4:∀q∈ss,q.2.2.length<=130:=λq hq=>(a9 q hq).2;have pS:∀n,n<=ss.length->(pE g ss n).length<=33536:=λn hn=>by grind[K9]
 have b7:∀b∈ds,P_ b:=λb hb=>by
  have hm:xU b∈dt g nn ss:=by grind
  obtain⟨q,m,_,cx,_,e⟩:=CH hm;have e:b.1.2=(m:Int):=congrArg iE.prod e
  grind[P_]
 refine nI h λU w6 h=>?_;have h:St w6 (mapA U (mV ([]:List (iR×Lq aE)))::own 3 oS ds.length cS (gp ds)::aV (Bj ds)::all Y):=dT h;have h:St w6 (mapA U (mV ([]:List (iR×Lq aE)))::aV (mO 2 di ([]:List (iR×Lq aE)))::own 3 oS ds.length cS (gp ds)::aV (Bj ds)::all Y):=((St.flat (M:=[])).2 h).pick 2 [1,0];refine⟨_,_,_,a6.cell0 (aA 4 h.l),λz w'=>∃(q:Nat)(ps:List (iR×Lq aE)),z=q/\q<=ss.length/\FZ ps (pE g ss q)/\St w' (mapA U (mV ps)::aV (mO 2 di ps)::own 3 oS ds.length cS (gp ds)::aV (Bj ds)::all Y),λz _=>ss.length-z.toNat,⟨0,[],rfl,afL _,FZ.nil,h⟩,?_⟩;clear h;rintro _ _ w7⟨q,ps,rfl,hq,hG,h⟩
 refine ae (λJ=>?_) λJ=>?_
 ·have J:q<ss.length:=by simp_all
  obtain⟨r,hr⟩:∃r,ss[q]? =some r:=⟨_,afJ J⟩;obtain⟨ad,ho,rs,rk,re⟩:=hs q r hr;have a4:=afI hr;have d8:=b4 r a4;have c6:=(a9 r a4).1;have d7:=pS q hq;have eS:pE g ss (q+1)=pE g ss q++(qE g q r.2.2++xV q r.1.2):=by simp_all[Ii,E4]
  refine aJ ho J ⟨_,_,_,_,_,_,rs.at (aA 4 h.l) rfl,ag h λbe w8 h=>aL h rfl (by simp[aK]) λw9 h=>⟨_,_,_,(af 0 h.l).cell sZZ (j:=1) rfl,?_⟩⟩;refine⟨λz w'=>∃(k:Nat)(ps:List (iR×Lq aE)),z=k/\k<=r.2.2.length/\FZ ps (pE g ss q++qE g q (r.2.2.take k))/\St w' (mapA U (mV ps)::aV (mO 2 di ps)::az be (Uv r)::own 3 oS ds.length cS (gp ds)::aV (Bj ds)::all Y),λz _=>r.2.2.length-z.toNat,⟨0,ps,rfl,afL _,by simp_all[qE],h.pick 3 [1,2,0]⟩,?_⟩;clear h hG;rintro _ _ cC⟨k,ps,rfl,hk,hG,h⟩;have bA:=K8 (g:=g) (q:=q) (es:=r.2.2.take k);rw[agj] at bA
  refine ae (λO=>?_) λO=>?_
  ·have O:k<r.2.2.length:=by simp_all
   obtain⟨e,d0,he,av,bP⟩:=ph re O;have dk:r.2.2.take (k+1)=r.2.2.take k++[e]:=by simp_all[afM]
   refine aJ av O ⟨_,_,bP.at (aA 5 h.l) rfl,ag h λcA cI h=>aL h rfl (by simp[aK]) λcT h=>⟨_,(af 0 h.l).cell0 sZZ,_,_,_,B.c0 (sub.trans V (aA 6 h.l)),ae (λX=>?_) λX=>?_⟩⟩
   ·have X:e.sym<(g.T:Int):=by have:=afO X;rw[<-tl] at this;exact this
    refine⟨_,(af 0 h.l).cell0 sZZ,_,(af 0 h.l).cell sZZ (j:=1) rfl,ag h λd4 cF h=>(XY (q:=q) (t:=e.sym) (a:=⟨1,e.to⟩) (h.pick 2 [0]) hG (by grind)).mono ?_⟩;rintro _ cp⟨rfl,W,a0,h⟩;refine⟨rfl,⟨ω,ω⟩,⟨k+1,W,σ,O,?_,h⟩,bY O⟩
    simp_all[Ij]
   ·have X:¬e.sym<(g.T:Int):=by have:=afN X;rw[<-tl] at this;exact this
    refine⟨⟨ω,ω⟩,⟨k+1,ps,σ,O,?_,h.tail⟩,bY O⟩
    simp_all[Ij,afV]
  have O:k=r.2.2.length:=by grind
  rw[O,af7] at hG;refine⟨_,_,_,(af 2 h.l).cell0 sZZ,(Ym (rk.mono (aA 5 h.l)) ω).mono ?_⟩;rintro _ c9⟨rfl,bl⟩;have h:=h.gr bl
  refine⟨_,rfl,ae (λX=>ag h λcu dc h=>(XY (q:=q) (t:=0) (a:=⟨3,0⟩) h hG (by grind)).mono ?_) λX=>?_⟩
  ·rintro _ cz⟨rfl,W,a0,h⟩;refine⟨rfl,⟨ω,ω⟩,⟨q+1,W,σ,J,?_,h.pick 3 [0,1]⟩,bY J⟩;have ea:xV q r.1.2=[(⟨(q:Int),0⟩,⟨3,0⟩)]:=by unfold xV;simp_all
   simp_all
  ·refine⟨⟨ω,ω⟩,⟨q+1,ps,σ,J,?_,h.pick 3 [0,1]⟩,bY J⟩;have ea:xV q r.1.2=[]:=by unfold xV;simp_all
   simp_all
 have J:q=ss.length:=by grind
 subst J;have ca:=pS ss.length (afR _);refine(Yl (h.pick 4 [2,3,0,1]) b7 ω).mono ?_;rintro _ ch⟨rfl,ys,bi,b3,h⟩;have ba:ds.length=ys.length:=bi.length_eq.symm;rw[ba] at h ⊢;have pL:(ys.map xU).Perm (dt g nn ss):=by grind
 have sL:nk (·.prod) (ys.map xU):=by rw[nk,agz];exact b3
 have am:∀l∈ys.map xU,l.tm.length<=65:=λl hl=>b6 l (pL.mem_iff.1 hl);have bz:∀n,n<=ys.length->(tD (ys.map xU) n).length<=24832*65:=λn hn=>by grind[La]
 refine⟨rfl,λz w'=>∃(i:Nat)(ps:List (iR×Lq aE)),z=i/\i<=ys.length/\FZ ps (pE g ss ss.length++tD (ys.map xU) i)/\St w' (mapA U (mV ps)::aV (mO 2 di ps)::own 3 oS ys.length cS (gp ys)::aV (Bj ys)::all Y),λz _=>ys.length-z.toNat,⟨0,ps,rfl,afL _,by simp_all[tD],h.pick 4 [2,3,0,1]⟩,?_⟩;clear h hG;rintro _ _ cc⟨i,ps,rfl,hi,hG,h⟩
 refine ae (λJ=>?_) λJ=>?_
 ·have J:i<ys.length:=by simp_all
  obtain⟨b,a7⟩:∃b,ys[i]? =some b:=⟨_,afJ J⟩;have Z:(ys.map xU)[i]? =some (xU b):=by simp_all
  have d6:b.2.2.length<=65:=am (xU b) (afI Z);have d5:=bz i hi;obtain⟨ad,ho,rb⟩:=RC (h.pick 3 [2,0,1]) a7;refine aJ ho J ⟨_,_,_,_,_,rb.at sZZ rfl,ag h λbT cm h=>aL h rfl (by simp[aK]) λdF h=>⟨_,_,_,(af 0 h.l).cell sZZ (j:=2) rfl,?_⟩⟩;refine⟨λz w'=>∃(k:Nat)(ps:List (iR×Lq aE)),z=k/\k<=b.2.2.length/\FZ ps ((pE g ss ss.length++tD (ys.map xU) i)++xW (xU b) k)/\St w' (mapA U (mV ps)::aV (mO 2 di ps)::az bT (rwQ b)::own 3 oS ys.length cS (gp ys)::aV (Bj ys)::all Y),λz _=>b.2.2.length-z.toNat,⟨0,ps,rfl,afL _,by simp_all[xW],h.pick 3 [1,2,0]⟩,?_⟩;clear h hG rb;rintro _ _ e0⟨k,ps,rfl,hk,hG,h⟩
  refine ae (λO=>?_) λO=>?_
  ·have O:k<b.2.2.length:=by simp_all
   have rt:=bkT (h.pick 5 [4,0,1,2,3]) a7;obtain⟨t,cg,ht1,bB,bb⟩:=rt.dS O;have ck:=K_ (l:=xU b) (n:=k);refine ay bB O ⟨t,bb _ sZZ,_,(af 2 h.l).cell0 sZZ,_,(af 2 h.l).cell sZZ (j:=1) rfl,ag h λci d3 h=>(XY (q:=b.1.1) (t:=t) (a:=⟨2,b.1.2⟩) h hG (by grind)).mono ?_⟩;rintro _ d9⟨rfl,W,a0,h⟩;refine⟨rfl,⟨ω,ω⟩,⟨k+1,W,σ,O,?_,h⟩,bY O⟩;rw[Ru (show(xU b).tm[k]? =some t from ht1),<-af0];exact a0
  ·have O:k=b.2.2.length:=by grind
   refine⟨⟨ω,ω⟩,⟨i+1,ps,σ,J,?_,h.pick 3 [0,1]⟩,bY J⟩;rw[Ik Z,<-af0];rw[O] at hG;exact hG
 have J:i=ys.length:=by grind
 subst J;intro bc hd;have h:=h.eq (aP hd)
 refine⟨λu=>hp u=hp bc,rfl,_,_,_,λu e=>a6.cell0 (by rw[e];exact aA 4 h.l),ss,ask,int,0,nn,some U,_,rfl,hR,λ_=>b1,gw.trans (sub.trans V (aA 4 h.l)),λ_=>⟨U,ps,rfl,rfl,⟨hG.1,λq t hq ht=>?_⟩,?_⟩⟩
 ·rw[hG.2,show ys.length=(ys.map xU).length by simp]
  grind[aeT]
 ·exact St.N0 (h.pick 5 [0,1,4]) (bH (gw.trans V))
end
abbrev E8:=(Int×Int)×Lq aE
def ckE(b:E8):List Value:=[iI b.1.1,iI b.1.2,bS b.2]
def E9(bs:List E8):List Value:=bs.flatMap ckE
def C_(bs:List E8):List aC:=bs.map λb=>bG 2 di b.2
def oy(b:E8):cK:=⟨b.1.1,b.1.2,b.2.2⟩
def plQ(b:E8):iR×Lq aE:=(⟨b.1.1,b.1.2⟩,b.2)
theorem MW(bs:List E8):(E9 bs).length=bs.length*3:=pf (f:=ckE) (n:=3) (λ_=>rfl) bs
theorem MX(xs ys:List E8):E9 (xs++ys)=E9 xs++E9 ys:=agh
theorem Ps{α:Type}:∀{l1 l2:List α},l1.Nodup->(∀x∈l1,x∈l2)->∃l3,l2.Perm (l1++l3)
 |[],l2,_,_=>⟨l2,.refl _⟩
 |a::l1,l2,hn,hs=>by
  obtain⟨h1,h2⟩:=agB.1 hn
  obtain⟨s,t,rfl⟩:=List.append_of_mem (hs a σ)
  obtain⟨l3,h3⟩:=Ps (l2:=s++t) h2 λx hx=>by grind
  exact⟨l3,agC.trans (.cons a h3)⟩
section
variable{g:ah}{nn:List Bool}{ss:List SQ}{least:Nat}{w:ahs}{L:List aC}
theorem RE{ds:List E8}{ps:List (iR×Lq aE)}{n:Nat}(hd:ds.map oy=mZ g nn ss least n)(hm:∀d∈ds,plQ d∈ps)(h:St w (aV (mO 2 di ps)::L)):St w (aV (C_ ds)::L):=by
 have U:(ds.map plQ).Nodup:=by
  have u:(ds.map oy).Pairwise cK.lt:=by simp_all[Em]
  rw[agz] at u;rw[agI,agz];refine u.imp λ{a b} h e=>?_;have X:=congrArg (λz=>z.1.st) e;have W:=congrArg (λz=>z.1.tm) e
  simp_all[cK.lt,oy,plQ]
 obtain⟨O,J⟩:=Ps U (l2:=ps) λx Y=>by grind
 have hp:(mO 2 di ps).Perm (C_ ds++mO 2 di O):=by
  have:=J.map λq=>bG 2 di q.2;rw[af8,List.map_map] at this;exact this
 have u:=(St.flat.1 h).perm (hp.append_right _);rw[af0] at u;have V:St w (aV (C_ ds)::(mO 2 di O++L)):=St.flat.2 u;have J:St w (mO 2 di O++(aV (C_ ds)::L)):=V.perm agC.symm;exact(St.flat.2 J).tail
theorem UQ(ps:List (iR×Lq aE))(p:iR):∃e:Lq aE,(assoc p (mV ps)).getD (vS none 0 0)=bS e/\e.2=jU p ps/\(e.2≠[]->(p,e)∈ps):=by
 rw[js];unfold jU;cases h:fF p ps with
 |none=>exact⟨((none,0),[]),rfl,rfl,λh=>absurd rfl h⟩
 |some e=>exact⟨e,rfl,rfl,λ_=>HB h⟩
end
section
variable{w:ahs}{L:List aC}{g:ah}{x:GA}
theorem Tq{least:Nat}(hl1:1<=least)(hl2:least<=10)(hg:gR (hp w) g x)(hb:mi g)(ht:dK (hp w)):ρ 114 [.agg ⟨x.cells⟩,iI (least:Int)] w λv w'=>∃(ss:List SQ)(ask int f:Int)(nn:List Bool)(o:ahr)(c:Nat)(ds:List E8),v=.tuple #[vS o ds.length c,iI f]/\EZ g ss ask int f/\(f=0->u6 g nn)/\ds.map oy=pD g nn ss least/\St w' (own 3 o ds.length c (E9 ds)::aV (C_ ds)::all w):=by
 refine FY (gH hg λk1 w1 gw a0 B=>?_);refine⟨_,_,_,_,_,_,_,_,_,_,_,_,_,B.row sZZ,(Yn a0 hb (ec.mono gw ht)).mono ?_⟩;rintro _ w2⟨ss,ask,int,f,nn,b,z,rfl,Y,hn,a5,U⟩
 refine⟨_,_,_,rfl,ae (λu=>?_) λu=>?_⟩
 ·have u:f≠0:=by simp_all
  have hz:=Y.nil u;subst hz;exact⟨[],ask,int,f,[],none,0,[],rfl,Y,λh=>absurd h u,rfl,aI 3 ((St.flat (M:=[])).2 (St.here (gw.trans a5)))⟩
 have u:f=0:=by simp_all
 subst u;obtain⟨hc,hA⟩:=Y.P7 rfl;obtain⟨k,W,rfl,rfl,hG,h⟩:=U rfl;have a6:=hA.dn.2.1;obtain⟨sT,sN,sP,_,_,_⟩:=hc.cX;have tl:=hg.t.1
 have a4:∀n,n<=ss.length->(mZ g nn ss least n).length<=16640:=λn hn=>by
  have u:=K5 (g:=g) (nn:=nn) (ss:=ss) (least:=least) (n:=n);have U:n*g.T<=256*65:=Nat.mul_le_mul ω sT;omega
 refine⟨λo n c z w'=>∃(q:Nat)(ds:List E8),z=q/\q<=ss.length/\n=ds.length/\ds.map oy=mZ g nn ss least q/\(∀d∈ds,plQ d∈W)/\St w' (own 3 o n c (E9 ds)::mapA k (mV W)::aV (mO 2 di W)::all w1),λ_ _ _ z _=>ss.length-z.toNat,⟨0,[],rfl,afL _,rfl,rfl,λd X=>by simp_all,aI 3 h⟩,?_⟩;clear h;rintro _ o6 _ c6 _ w3⟨q,ds,rfl,hq,rfl,J,O,h⟩;refine ae (λu=>?_) λu=>?_
 rotate_left
 ·have u:q=ss.length:=by grind
  subst u;have h:=RE J O (h.pick 3 [2,0]);exact⟨ss,ask,int,0,nn,_,_,ds,rfl,Y,hn,J,St.N0 (h.pick 2 [1,0]) (bH gw)⟩
 have u:q<ss.length:=by simp_all
 have aa:=a4 q hq;refine⟨_,_,_,B.c0 (aA 3 h.l),λo n c z w'=>∃(t:Nat)(ds:List E8),z=t/\t<=g.T/\n=ds.length/\ds.map oy=mZ g nn ss least q++qD g nn ss least q t/\(∀d∈ds,plQ d∈W)/\St w' (own 3 o n c (E9 ds)::mapA k (mV W)::aV (mO 2 di W)::all w1),λ_ _ _ z _=>g.T-z.toNat,⟨0,ds,rfl,afL _,rfl,by simp_all[qD],O,h⟩,?_⟩;clear h J O;rintro _ o8 _ c8 _ w4⟨t,V,rfl,al,rfl,J,O,h⟩
 have ad:V.length<=17000:=by
  have e:=congrArg List.length J
  grind[List.length_map,List.length_append,K4]
 refine ae (λU=>?_) λU=>?_
 rotate_left
 ·have U:t=g.T:=by have:=afN U;rw[<-tl] at this;have e:g.T=g.terms.length:=rfl;omega
  refine⟨⟨ω,ω⟩,⟨q+1,V,σ,u,rfl,?_,O,h⟩,bY u⟩
  simp_all[Ba]
 have U:t<g.T:=by have:=afO U;rw[<-tl] at this;have e:g.T=g.terms.length:=rfl;omega
 obtain⟨e,e1,e2,e3⟩:=UQ W ⟨(q:Int),(t:Int)⟩;rw[hG.2 q t u U] at e2;refine(qu (κ:=iR) aT (rfl:ai Ty _=.map _ _) K6 rfl rfl (h.pick 2 [1,0]) ⟨(q:Int),(t:Int)⟩).mono ?_;rintro _ w5⟨rfl,rfl⟩;rw[e1];refine⟨_,_,_,rfl,ae (λZ=>?_) λZ=>?_⟩
 rotate_left
 ·have Z:¬least<=(gf g nn ss q t).length:=by simp_all
  refine⟨⟨ω,ω⟩,⟨t+1,V,σ,U,rfl,?_,O,h⟩,bY U⟩
  simp_all[uM,cellAt,afV]
 have Z:least<=(gf g nn ss q t).length:=by simp_all
 refine ag h λa7 w6 h=>?_;refine(aU (us:=E9 V) aT (rfl:ai Ty _=.slice _) (rfl:ai Ty _=.slice _) rfl rfl rfl h rfl (by simp[aK]) (by grind) ω).mono ?_;rintro _ w7⟨a8,a9,rfl,h⟩
 refine⟨_,_,_,rfl,⟨ω,ω⟩,⟨t+1,V++[(((q:Int),(t:Int)),e)],σ,U,σ,?_,λd X=>?_,?_⟩,bY U⟩
 ·rw[af8,J,uM,af0];congr 2;unfold cellAt;rw[afZ Z,<-e2];rfl
 ·rcases afT.1 X with X|X
  ·simp_all
  ·rw[af_] at X;subst X;exact e3 λhh=>by simp_all
 ·rw[MX];exact h.pick 2 [0]
theorem Yo(hg:gR (hp w) g x)(hb:mi g)(ht:dK (hp w)):ρ 105 [.agg ⟨x.cells⟩] w λv w'=>∃(ss:List SQ)(ask int f:Int)(nn:List Bool)(o:ahr)(c:Nat)(ds:List E8),v=.tuple #[vS o ds.length c,iI f]/\EZ g ss ask int f/\(f=0->u6 g nn)/\ds.map oy=pD g nn ss 1/\St w' (own 3 o ds.length c (E9 ds)::aV (C_ ds)::all w):=by
 refine Ep (gH hg λU V gw u B=>?_);refine⟨_,_,_,_,_,_,_,_,_,_,_,_,_,B.row sZZ,(Tq (least:=1) σ σ u hb (ec.mono gw ht)).mono ?_⟩;rintro _ W⟨ss,ask,int,f,nn,o,c,ds,rfl,O,hn,J,h⟩;exact⟨_,_,_,_,rfl,ss,ask,int,f,nn,o,c,ds,rfl,O,hn,J,St.N0 h (bH gw)⟩
theorem UR(hg:gR (hp w) g x)(hb:mi g)(ht:dK (hp w)):ρ 45 [.agg ⟨x.cells⟩] w λv w'=>∃(ss:List SQ)(ask int f:Int)(nn:List Bool)(o:ahr)(c:Nat)(ds:List E8),v=.tuple #[vS o ds.length c,iI f]/\EZ g ss ask int f/\(f=0->u6 g nn)/\ds.map oy=pD g nn ss 2/\St w' (own 3 o ds.length c (E9 ds)::aV (C_ ds)::all w):=by
 refine CJ (gH hg λU V gw u B=>?_);refine⟨_,_,_,_,_,_,_,_,_,_,_,_,_,B.row sZZ,(Tq (least:=2) (by decide) (by decide) u hb (ec.mono gw ht)).mono ?_⟩;rintro _ W⟨ss,ask,int,f,nn,o,c,ds,rfl,O,hn,J,h⟩;exact⟨_,_,_,_,rfl,ss,ask,int,f,nn,o,c,ds,rfl,O,hn,J,St.N0 h (bH gw)⟩
end
theorem aaU{g:ah}{nn:List Bool}{ss ss':List SQ}(h:cr ss=cr ss')(hk:ss.map (·.1.2)=ss'.map (·.1.2))(q t:Nat):gf g nn ss q t=gf g nn ss' q t:=by
 have O:UL ss q t=UL ss' q t:=by grind[UL,HS]
 have J:Vr ss q t=Vr ss' q t:=by
  have u:=congrArg (λl=>l[q]?) hk
  grind[Vr,Option.some.inj]
 grind[gf,KW]
theorem Yp{g:ah}{nn:List Bool}{ss ss':List SQ}{least:Nat}(h:cr ss=cr ss')(hk:ss.map (·.1.2)=ss'.map (·.1.2)):pD g nn ss least=pD g nn ss' least:=by
 unfold pD mZ qD cellAt
 grind[My,aaU]
instance:tQ cK:={ n:=3,rd:=λh x vs=>∃(a:ahr)(c:Nat),vs=[iI x.st,iI x.tm,vS a x.acts.length c]/\aY h x.acts a x.acts.length,mono:=λs ⟨a,c,e,r⟩=>⟨a,c,e,r.mono s⟩,len:=λ⟨_,_,e,_⟩=>by simp_all }
section
variable{h:Hp}{w:ahs}{L:List aC}{o:ahr}{l i c:Nat}
theorem CO{xs:List aE}{a:ahr}(hl:xs.length=l)(r:ec a (di xs) h):aY h xs a l:=by
 refine⟨hl,λi x J=>?_⟩
 rcases r with e|⟨u,rfl,hc⟩
 ·have O:=congrArg List.length e
  grind[oq,List.length_nil,List.getElem?_eq_some_iff]
 ·exact⟨u,bD x,rfl,cG (n:=2) (λ_=>rfl) xs u hc i x J,rfl⟩
theorem IE{xs:List aE}{a:ahr}(r:aY h xs a l)(hi:i<l):∃x ad,xs[i]? =some x/\a=some ad/\aj h (ad.add (eV i 2)) (bD x):=by
 obtain⟨x,ad,vs,J,ha,u,e⟩:=r.get hi;rw[show vs=bD x from e] at u;exact⟨x,ad,J,ha,u⟩
end
structure iJ(n:Nat)(K:Nat->List aH)(r:fM):Prop where
 lb:r.bs.length=n
 lv:r.vs.length=r.os.length
 own:∀(k:Nat)(o:Int),r.os[k]? =some o->o=-1\/∃i<n,o=(i:Int)/\∃e∈K i,(k:Int)=r.bs.getD i 0+e.sym/\r.vs[k]? =some e.to
 has:∀i<n,∀e∈K i,∃k:Nat,(k:Int)=r.bs.getD i 0+e.sym/\r.os[k]? =some (i:Int)/\r.vs[k]? =some e.to
section
variable{n i b:Nat}{K:Nat->List aH}{r:fM}{e:aH}{l:List aH}
theorem iJ.new(n:Nat):iJ n (λ_=>[]) ⟨List.replicate n 0,[],[]⟩:=⟨σ,rfl,λk o h=>by grind,λi _ e h=>by grind⟩
theorem iJ.base(h:iJ n K r)(hK:K i=[])(b:Int):iJ n K { r with bs:=r.bs.set i b }:=by
 have hb:∀j e,e∈K j->(r.bs.set i b).getD j 0=r.bs.getD j 0:=λj e u=>by grind
 refine⟨by simpa using h.lb,h.lv,λk o V=>?_,λj J e u=>?_⟩
 ·rcases h.own k o V with O|⟨j,J,O,e,u,U,W⟩
  ·omega
  grind
 ·obtain⟨k,O,U,W⟩:=h.has j J e u
  grind
theorem iJ.ext(h:iJ n K r):iJ n K { r with os:=r.os++[-1],vs:=r.vs++[0] }:=by
 refine⟨h.lb,by simp[h.lv],λk o u=>?_,λj U e O=>?_⟩
 ·have u:(r.os++[-1])[k]? =some o:=u
  rcases Nat.lt_trichotomy k r.os.length with J|J|J
  ·rw[af5 J] at u
   rcases h.own k o u with V|⟨j,U,V,e,O,W,X⟩
   ·omega
   grind
  ·simp_all
  grind
 ·obtain⟨k,V,W,X⟩:=h.has j U e O
  grind
theorem iJ.put(h:iJ n K r)(hi:i<n){k:Nat}(hk:(k:Int)=r.bs.getD i 0+e.sym)(h0:r.os[k]? =some (-1)):iJ n (λj=>if j=i then K i++[e] else K j) { r with os:=r.os.set k (i:Int),vs:=r.vs.set k e.to }:=by
 have J:=(afK.1 h0).1;have Z:k<r.vs.length:=by rw[h.lv];omega
 refine⟨h.lb,by simp[h.lv],λm o u=>?_,λj V x O=>?_⟩
 ·have u:(r.os.set k (i:Int))[m]? =some o:=u
  by_cases U:k=m
  ·subst U;rw[List.getElem?_set_self J] at u;cases u
   grind
  ·rw[ahl U] at u
   rcases h.own m o u with W|⟨j,V,W,x,O,h2,Y⟩
   ·omega
   grind
 ·have X:x∈K j->∃m:Nat,(m:Int)=r.bs.getD j 0+x.sym/\(r.os.set k (i:Int))[m]? =some (j:Int)/\(r.vs.set k e.to)[m]? =some x.to:=λO=>by
   obtain⟨m,W,h2,Y⟩:=h.has j V x O;have U:k≠m:=λz=>by simp_all
   grind
  grind
theorem iJ.at(h:iJ n K r)(hi:i<n)(hb:0<=r.bs.getD i 0)(hs:∀e∈K i,0<=e.sym)(hd:∀e∈K i,∀e'∈K i,e.sym=e'.sym->e=e')(t:Int):
  (∃e∈K i,e.sym=t/\atR r i t=some e.to)\/((∀e∈K i,e.sym≠t)/\atR r i t=none):=by
 have hl:Mi r=r.os.length:=by unfold Mi;rw[h.lv];omega
 by_cases U:∃e∈K i,e.sym=t
 ·obtain⟨e,u,rfl⟩:=U;refine .inl ⟨e,u,rfl,?_⟩;obtain⟨k,V,W,h3⟩:=h.has i hi e u;have X:=(afK.1 W).1;have h0:=hs e u;have O:DY r (i:Int)=r.bs.getD i 0:=rfl;have n1:Mh r i e.sym=false:=by simp[Mh,h.lb,hi,h0]
  have n2:JU r i e.sym=false:=by
   unfold JU
   grind
  grind[atR,Int.toNat_natCast]
 ·have U:∀e∈K i,e.sym≠t:=λe u ht=>U ⟨e,u,ht⟩;refine .inr ⟨U,?_⟩;unfold atR;rw[afZ];rw[agA];refine agD λhn=>?_;simp only[not_or,Bool.not_eq_true] at hn;obtain⟨n1,n2⟩:=hn;unfold Mh at n1;unfold JU at n2;simp only[Bool.or_eq_false_iff,aho,Classical.not_not] at n1 n2;have O:DY r (i:Int)=r.bs.getD i 0:=rfl;rw[O,hl] at n2;obtain⟨p1,p2,Z,Y⟩:=n2;obtain⟨k,X⟩:∃k:Nat,r.bs.getD i 0+t=k:=⟨(r.bs.getD i 0+t).toNat,ω⟩;rw[X,afU,afP] at Y;have J:k<r.os.length:=ω
  rw[afJ J,Option.getD_some] at Y
  rcases h.own k _ (afJ J) with V|⟨j,_,V,e,u,W,_⟩
  ·omega
  grind
end
def we(a:aE):Int:=if a.kind=1 then 1+a.to else if a.kind=2 then-1-a.to else if a.kind=3 then-1 else 0
def Ex(n:Nat)(a:aE):Prop:=a.kind=0/\a.to=0\/a.kind=1/\0<=a.to/\a.to<n\/a.kind=2/\1<=a.to/\a.to<=96\/a.kind=3/\a.to=0\/a.kind=4/\a.to=0
theorem aaV{n:Nat}{a:aE}(h:Ex n a)(h0:a.kind≠0):MN (we a)=a:=by
 obtain⟨kd,to⟩:=a
 rcases h with⟨J,u⟩|⟨J,u,O⟩|⟨J,u,O⟩|⟨J,u⟩|⟨J,u⟩<;>dsimp only at J u<;>subst J
 ·simp_all
 ·rw[show we ⟨1,to⟩=1+to by rfl];unfold MN
  grind
 ·dsimp only at O;rw[show we ⟨2,to⟩=-1-to by rfl];unfold MN
  grind
 ·subst u;rfl
 ·subst u;rfl
def RF(by_:Int)(t:Nat)(a:aE):List aH:=if a.kind≠0/\(a.kind≠2\/a.to≠by_) then[⟨(t:Int),we a⟩] else[]
def J4(by_:Int)(l:List aE):List aH:=(List.range l.length).flatMap λt=>RF by_ t (l.getD t ⟨0,0⟩)
def Ts(to:Int)(q:Nat)(x:Int):List aH:=if 0<=x/\x≠to then[⟨(q:Int),x⟩] else[]
def J5(to:Int)(l:List Int):List aH:=(List.range l.length).flatMap λq=>Ts to q (l.getD q 0)
theorem pK{by_:Int}{l:List aE}{e:aH}:e∈J4 by_ l↔∃(t:Nat)(a:aE),l[t]? =some a/\a.kind≠0/\(a.kind≠2\/a.to≠by_)/\e=⟨(t:Int),we a⟩:=by
 unfold J4 RF
 grind
theorem tO{to:Int}{l:List Int}{e:aH}:e∈J5 to l↔∃(q:Nat)(x:Int),l[q]? =some x/\0<=x/\x≠to/\e=⟨(q:Int),x⟩:=by
 unfold J5 Ts
 grind
structure Pt(rows:List (List aH))(r:fM):Prop where
 c:iJ rows.length (λi=>rows.getD i []) r
 b0:∀b∈r.bs,0<=b
structure E_(As:List (List aE))(Gs:List (List Int))(N:Nat)(p:dH):Prop where
 d1:p.df.length=As.length
 d2:∀(q:Nat)(l:List aE),As[q]? =some l->p.df.getD q 0=-1\/∃a∈l,a.kind=2/\a.to=p.df.getD q 0
 ac:Pt ((List.range As.length).map λq=>J4 (p.df.getD q 0) (As.getD q [])) p.ac
 t1:p.tg.length=N
 t2:∀n<N,p.tg.getD n 0=-1\/∃l∈Gs,l.getD n 0=p.tg.getD n 0/\0<=p.tg.getD n 0
 gt:Pt ((List.range N).map λn=>J5 (p.tg.getD n 0) (Gs.map λl=>l.getD n 0)) p.gt
section
variable{As:List (List aE)}{Gs:List (List Int)}{N:Nat}{p:dH}
theorem Pt.at{rows:List (List aH)}{r:fM}(h:Pt rows r){i:Nat}(hi:i<rows.length)(hs:∀e∈rows.getD i [],0<=e.sym)(hd:∀e∈rows.getD i [],∀e'∈rows.getD i [],e.sym=e'.sym->e=e')(t:Int):
  (∃e∈rows.getD i [],e.sym=t/\atR r i t=some e.to)\/((∀e∈rows.getD i [],e.sym≠t)/\atR r i t=none):=by
 refine h.c.at hi ?_ hs hd t;rw[afP,afJ (by rw[h.c.lb];omega),Option.getD_some];exact h.b0 _ (ahd _)
theorem E_.act(h:E_ As Gs N p){q t:Nat}{l:List aE}{a:aE}(hl:As[q]? =some l)(ha:l[t]? =some a)(hm:∀a∈l,Ex As.length a):
  (a.kind≠0/\bX p q t=a)\/(a.kind=0/\(bX p q t=⟨0,0⟩\/∃b∈l,b.kind=2/\bX p q t=b)):=by
 have hq:=(afK.1 hl).1;have er:((List.range As.length).map λq=>J4 (p.df.getD q 0) (As.getD q [])).getD q []=J4 (p.df.getD q 0) l:=by simp_all
 have O:=h.ac.at (i:=q) (by simp_all) (by rw[er];intro e U;obtain⟨t,_,_,_,_,rfl⟩:=pK.1 U;simp)
  (by
   rw[er];intro e U e' Z a0;obtain⟨t,a,ha,_,_,rfl⟩:=pK.1 U;obtain⟨t',a',u,_,_,rfl⟩:=pK.1 Z
   grind) (t:Int)
 rw[er] at O
 have J:atR p.ac q t=none->bX p q t=(if 0<p.df.getD q 0 then⟨2,p.df.getD q 0⟩ else⟨0,0⟩):=λe=>by
  unfold bX;rw[e,afU]
  grind
 by_cases Y:a.kind=0
 ·refine .inr ⟨Y,?_⟩
  rcases O with⟨e,U,X,_⟩|⟨_,W⟩
  ·exfalso;obtain⟨t',a',u,V,_,rfl⟩:=pK.1 U
   grind
  ·rw[J W]
   split
   ·rename_i hp
    rcases h.d2 q l hl with V|⟨b,hb,V,h5⟩
    ·omega
    ·exact .inr ⟨b,hb,V,by rw[<-h5,<-V]⟩
   simp
 ·refine .inl ⟨Y,?_⟩
  rcases O with⟨e,U,X,W⟩|⟨X,W⟩
  ·obtain⟨t',a',u,V,_,rfl⟩:=pK.1 U;have:t'=t:=by grind
   subst this;rw[ha] at u;cases u;unfold bX;rw[W];exact aaV (hm a (afI ha)) Y
  ·have hb:a.kind=2/\a.to=p.df.getD q 0:=agD λhn=>by
    refine X ⟨(t:Int),we a⟩ (pK.2 ⟨t,a,ha,Y,?_,rfl⟩) rfl;omega
   rw[J W,afZ]
   ·cases a;grind
   ·have:=hm a (afI ha);rw[<-hb.2];rcases this with⟨O,_⟩|⟨O,_⟩|⟨_,X,_⟩|⟨O,_⟩|⟨O,_⟩<;>omega
theorem E_.tgt(h:E_ As Gs N p){q n:Nat}{l:List Int}{x:Int}(hl:Gs[q]? =some l)(hn:n<N)(hx:l.getD n 0=x)(h0:0<=x):dI p q n=x:=by
 have hq:=(afK.1 hl).1;have W:((List.range N).map λn=>J5 (p.tg.getD n 0) (Gs.map λl=>l.getD n 0)).getD n []=J5 (p.tg.getD n 0) (Gs.map λl=>l.getD n 0):=by simp_all
 have J:(Gs.map λl=>l.getD n 0)[q]? =some x:=by simp_all
 have X:=h.gt.at (i:=n) (by simp_all) (by rw[W];intro e u;obtain⟨t,_,_,_,_,rfl⟩:=tO.1 u;simp)
  (by
   rw[W];intro e u e' O a0;obtain⟨t,a,ha,_,_,rfl⟩:=tO.1 u;obtain⟨t',a',U,_,_,rfl⟩:=tO.1 O
   grind) (q:Int)
 rw[W] at X;unfold dI
 rcases X with⟨e,u,Y,Z⟩|⟨Y,Z⟩
 ·obtain⟨t',a',U,h4,_,rfl⟩:=tO.1 u
  grind
 ·have hb:x=p.tg.getD n 0:=agD λV=>Y ⟨(q:Int),x⟩ (tO.2 ⟨q,x,J,h0,V,rfl⟩) rfl;rw[Z,afU];dsimp only;rw[afZ ⟨agu _,by rw[h.t1];omega⟩];omega
end
section
variable{a b:ahr}{i j k l:Nat}{A:Int}{w:ahs}{R:Value->WP}
theorem b_(h:lV a i j none (some (i:Int)) (some (i:Int)) 2 λ(a:ahr)(b c:Nat)=>R (vS a b c) w):ρ 202 [vS a i j] w R:=rv Tryz.func202 ⟨[],[],[],[]⟩ h
theorem eR{d:FuncId}{e:List Value}(h:rEi 292 [vS a i j,Value.func (Fn.func d) (Array.mk []) (Array.mk e)] w λc b=>R (vB (decide (0<=c))) b):ρ 203 [vS a i j,(.func (.func d) #[] ⟨e⟩)] w R:=rv Tryz.func203 ⟨[],[],[],[]⟩ h
theorem gv(h:lV a i j none (some (i:Int)) (some (i:Int)) 1 λ(a:ahr)(b c:Nat)=>R (vS a b c) w):ρ 250 [vS a i j] w R:=rv Tryz.func250 ⟨[],[],[],[]⟩ h
theorem gN(h:br (Option.isNone a) (R (vS none 0 0) w) (new w (oC [] 170) λb c=>rS (fX 86 (Array.mk [vS (some (aM b)) 0 0,vS a i j])) c λa b=>∃c d e,a=vS c d e/\R (vS c d e) b)):ρ 251 [vS a i j] w R:=rv Tryz.func251 ⟨[],[],[],[]⟩ h
theorem gC(h:lV a i j (some A) none none 2 λ(_:ahr)(_ _:Nat)=>br ((k:Int)==0) (R (vS a i j) w) (br (A==(i:Int)) (rS (fX 86 (Array.mk [vS a i j,vS b k l])) w λa b=>∃c d e,a=vS c d e/\R (vS c d e) b) (aD ((i:Int)+(k:Int))/\rS (Builtin.cap_ (Array.mk [86]) 3 (Array.mk [vS a i j])) w λc d=>∃e,c=iI e/\bQ (e<(i:Int)+(k:Int)) (lV a i j none (some A) none 2 λ(c:ahr)(e f:Nat)=>aD ((i:Int)+(k:Int))/\aD ((i:Int)+(k:Int)-A)/\rS (Builtin.append_ (Array.mk [86,3]) 86 (Array.mk [vS c e f,iI ((i:Int)+(k:Int)-A)])) d λc d=>∃e f g,c=vS e f g/\lV e f g (some A) none none 2 λ(c:ahr)(h m:Nat)=>rS (Builtin.copy_ (Array.mk [86,86]) 3 (Array.mk [vS c h m,vS b k l])) d λb c=>∃d,b=iI d/\∀b,drawn c b->∃(c:WP),c b/\aD (A+(k:Int))/\lV e f g (some (A+(k:Int))) none none 2 λ(c:ahr)(d h:Nat)=>lV a i j (some A) none none 2 λ(a:ahr)(i j:Nat)=>rS (Builtin.copy_ (Array.mk [86,86]) 3 (Array.mk [vS c d h,vS a i j])) b λa b=>∃c,a=iI c/\R (vS e f g) b) (aD ((i:Int)+(k:Int))/\lV a i j none (some ((i:Int)+(k:Int))) none 2 λ(a:ahr)(c e:Nat)=>aD (A+(k:Int))/\lV a c e (some (A+(k:Int))) none none 2 λ(f:ahr)(g h:Nat)=>ab_ Tryz.prog 350 [vS b k l,vS f g h] d λd f=>∃g,d=vB g/\br (!g) (∀d,drawn f d->∃(f:WP),f d/\aD (A+(k:Int))/\lV a c e (some (A+(k:Int))) none none 2 λ(f:ahr)(g h:Nat)=>lV a c e (some A) none none 2 λ(i:ahr)(j m:Nat)=>rS (Builtin.copy_ (Array.mk [86,86]) 3 (Array.mk [vS f g h,vS i j m])) d λd f=>∃g,d=iI g/\lV a c e (some A) none none 2 λ(d:ahr)(g h:Nat)=>rS (Builtin.copy_ (Array.mk [86,86]) 3 (Array.mk [vS d g h,vS b k l])) f λb d=>∃f,b=iI f/\R (vS a c e) d) (lV a c e (some (i:Int)) none none 2 λ(d:ahr)(g h:Nat)=>rS (Builtin.copy_ (Array.mk [86,86]) 3 (Array.mk [vS d g h,vS b k l])) f λb d=>∃f,b=iI f/\lV a c e (some A) none none 2 λ(b:ahr)(f g:Nat)=>rE 351 [vS b f g,iI (k:Int)] d λb d=>b=vU []/\R (vS a c e) d))))):ρ 291 [vS a i j,iI A,vS b k l] w R:=rv Tryz.func291 ⟨[],[],[],[]⟩ h
theorem fI{d:FuncId}{e:List Value}(h:τ [(8,aN)] λb c=>b 0 w/\∀(_:ν) f g,b f g->bQ (f<(i:Int)) (idx a i f 2 λa=>∃h i,rowAt g a 0 2=some [iI h,iI i]/\oN (Proofs.YtaoaemnefghnbaaGreatDoor.Fn d) (rEb d (vG [iI h,iI i]::e) g λe d=>br e (R (iI f) d) (aD (f+1)/\b (f+1) d/\c (f+1) d<c f g))) (R (iI (-1)) g)):ρ 292 [vS a i j,(.func (.func d) #[] ⟨e⟩)] w R:=rv Tryz.func292 ⟨[(2,[(8,(.one (.int .i64)))])],[],[],[]⟩ h
end
theorem Gt{α:Type}{p:α->Bool}{xs:List α}{j:Nat}{x:α}(h0:(xs.take j).any p=false)(hx:xs[j]? =some x)(h:p x=false):(xs.take (j+1)).any p=false:=by simp_all[afM,List.any_append]
section
variable{w:ahs}{a:ahr}{n c:Nat}{d:FuncId}{e:List Value}
theorem aaW{xs:List aH}{p:aH->Bool}(hr:aY (hp w) xs a n)(hd:Fn d=true)(hP:∀x∈xs,∀u,Gr w u->ρ d (.agg ⟨[iI x.sym,iI x.to]⟩::e) u λv u'=>v=vB (p x)/\Gr u u')(hn:n<=1000000):
  ρ 354 [vS a n c,.func (.func d) #[] ⟨e⟩] w λv w'=>v=vB (xs.any p)/\Gr w w':=by
 have key:ρ 386 [vS a n c,.func (.func d) #[] ⟨e⟩] w λv w'=>∃z:Int,v=iI z/\decide (0<=z)=xs.any p/\Gr w w':=by
  refine gK ⟨λz u=>∃j:Nat,z=j/\j<=n/\(xs.take j).any p=false/\Gr w u,λz _=>n-z.toNat,⟨0,rfl,afL _,σ,Gr.refl w⟩,?_⟩;rintro _ _ Y⟨j,rfl,hj,O,g⟩
  refine ae (λJ=>?_) λJ=>?_
  ·have J:j<n:=by simp_all
   obtain⟨x,ad,vs,X,Z,V,U⟩:=(hr.mono g).get J;have U:vs=[iI x.sym,iI x.to]:=U;subst U;refine aJ Z J ⟨_,_,V.at sZZ rfl,a_.2 ⟨hd,(hP x (afI X) Y g).mono ?_⟩⟩;rintro _ w2⟨rfl,g2⟩;refine⟨_,rfl,ae (λW=>⟨_,rfl,?_,g.trans g2⟩) λW=>⟨⟨ω,ω⟩,⟨j+1,σ,ω,Gt O X W,g.trans g2⟩,bY J⟩⟩
   grind
  ·have J:j=n:=by grind
   subst J;rw[af3 (by rw[hr.1];omega)] at O
   simp_all
 refine fR (key.mono ?_);simp
theorem adm{xs:List aE}{p:aE->Bool}(hr:aY (hp w) xs a n)(hd:Fn d=true)(hP:∀x∈xs,∀u,Gr w u->ρ d (.agg ⟨bD x⟩::e) u λv u'=>v=vB (p x)/\Gr u u')(hn:n<=1000000):
  ρ 203 [vS a n c,.func (.func d) #[] ⟨e⟩] w λv w'=>v=vB (xs.any p)/\Gr w w':=by
 have key:ρ 292 [vS a n c,.func (.func d) #[] ⟨e⟩] w λv w'=>∃z:Int,v=iI z/\decide (0<=z)=xs.any p/\Gr w w':=by
  refine fI ⟨λz u=>∃j:Nat,z=j/\j<=n/\(xs.take j).any p=false/\Gr w u,λz _=>n-z.toNat,⟨0,rfl,afL _,σ,Gr.refl w⟩,?_⟩;rintro _ _ Y⟨j,rfl,hj,O,g⟩
  refine ae (λJ=>?_) λJ=>?_
  ·have J:j<n:=by simp_all
   obtain⟨x,ad,vs,X,Z,V,U⟩:=(hr.mono g).get J;have U:vs=bD x:=U;subst U;refine aJ Z J ⟨_,_,V.at sZZ rfl,a_.2 ⟨hd,(hP x (afI X) Y g).mono ?_⟩⟩;rintro _ w2⟨rfl,g2⟩;refine⟨_,rfl,ae (λW=>⟨_,rfl,?_,g.trans g2⟩) λW=>⟨⟨ω,ω⟩,⟨j+1,σ,ω,Gt O X W,g.trans g2⟩,bY J⟩⟩
   grind
  ·have J:j=n:=by grind
   subst J;rw[af3 (by rw[hr.1];omega)] at O
   simp_all
 refine eR (key.mono ?_);simp
theorem RG{xs:List Int}{p:Int->Bool}(hr:aY (hp w) xs a n)(hd:Fn d=true)(hP:∀x∈xs,∀u,Gr w u->ρ d (iI x::e) u λv u'=>v=vB (p x)/\Gr u u')(hn:n<=1000000):
  ρ 126 [vS a n c,.func (.func d) #[] ⟨e⟩] w λv w'=>v=vB (xs.any p)/\Gr w w':=by
 have key:ρ 90 [vS a n c,.func (.func d) #[] ⟨e⟩] w λv w'=>∃z:Int,v=iI z/\decide (0<=z)=xs.any p/\Gr w w':=by
  refine bJ ⟨λz u=>∃j:Nat,z=j/\j<=n/\(xs.take j).any p=false/\Gr w u,λz _=>n-z.toNat,⟨0,rfl,afL _,σ,Gr.refl w⟩,?_⟩;rintro _ _ W⟨j,rfl,Y,O,g⟩
  refine ae (λJ=>?_) λJ=>?_
  ·have J:j<n:=by simp_all
   obtain⟨x,Z,V,X,hc⟩:=(hr.mono g).dS J;refine ay X J ⟨_,hc _ sZZ,a_.2 ⟨hd,(hP x (afI V) W g).mono ?_⟩⟩;rintro _ w2⟨rfl,g2⟩;refine⟨_,rfl,ae (λU=>⟨_,rfl,?_,g.trans g2⟩) λU=>⟨⟨ω,ω⟩,⟨j+1,σ,ω,Gt O V U,g.trans g2⟩,bY J⟩⟩
   grind
  ·have J:j=n:=by grind
   subst J;rw[af3 (by rw[hr.1];omega)] at O
   simp_all
 refine bV (key.mono ?_);simp
theorem aaX{xs:List (List aH)}{p:(List aH)->Bool}(hr:aY (hp w) xs a n)(hd:Fn d=true)(hP:∀x∈xs,∀u,Gr w u->∀o1 l1 c1,aY (hp u) x o1 l1->ρ d (vS o1 l1 c1::e) u λv u'=>v=vB (p x)/\Gr u u')(hn:n<=1000000):
  ρ 207 [vS a n c,.func (.func d) #[] ⟨e⟩] w λv w'=>v=vB (xs.any p)/\Gr w w':=by
 have key:ρ 293 [vS a n c,.func (.func d) #[] ⟨e⟩] w λv w'=>∃z:Int,v=iI z/\decide (0<=z)=xs.any p/\Gr w w':=by
  refine ga ⟨λz u=>∃j:Nat,z=j/\j<=n/\(xs.take j).any p=false/\Gr w u,λz _=>n-z.toNat,⟨0,rfl,afL _,σ,Gr.refl w⟩,?_⟩;rintro _ _ w1⟨j,rfl,hj,O,g⟩
  refine ae (λJ=>?_) λJ=>?_
  ·have J:j<n:=by simp_all
   obtain⟨x,ad,vs,Y,ho,U,W⟩:=(hr.mono g).get J;obtain⟨o1,l1,c1,rfl,Z,V⟩:=W;refine aJ ho J ⟨o1,l1,c1,U.cell0 sZZ,a_.2 ⟨hd,(hP x (afI Y) w1 g o1 l1 c1 V).mono ?_⟩⟩;rintro _ w2⟨rfl,g2⟩;refine⟨_,rfl,ae (λX=>⟨_,rfl,?_,g.trans g2⟩) λX=>⟨⟨ω,ω⟩,⟨j+1,σ,ω,Gt O Y X,g.trans g2⟩,bY J⟩⟩
   grind
  ·have J:j=n:=by grind
   subst J;rw[af3 (by rw[hr.1];omega)] at O
   simp_all
 refine ft (key.mono ?_);simp
end
section
variable{a:ahr}{i j:Nat}{A B C:Int}{w:ahs}{R:Value->WP}
theorem j6{d:FuncId}{e:List Value}(h:rE 294 [vS a i j,iI (i:Int),Value.func (Fn.func d) (Array.mk []) (Array.mk e)] w λa b=>a=vU []/\R (vU []) b):ρ 210 [vS a i j,(.func (.func d) #[] ⟨e⟩)] w R:=rv Tryz.func210 ⟨[],[],[],[]⟩ h
theorem nf{a:ahr}{b c:Nat}{d:Int}{e:FuncId}{f:List Value}{w:ahs}{R:Value->WP}(h:τ [(7,aN),(8,aN)] λg h=>g 0 20 w/\∀(_:ν) i j k,g i j k->bQ (j<=d) (rE 352 [vS a b c,iI i,iI j,Value.func (Fn.func e) (Array.mk []) (Array.mk f)] k λa b=>a=vU []/\aD (j+20)/\g j (j+20) b/\h j (j+20) b<h i j k) (rE 352 [vS a b c,iI i,iI d,Value.func (Fn.func e) (Array.mk []) (Array.mk f)] k λg h=>g=vU []/\τ [(6,aN)] λg i=>g 20 h/\∀(_:ν) h j,g h j->bQ (h<d) (aD (2*h)/\τ [(7,aN),(8,aN)] λk l=>k 0 (2*h) j/\∀(_:ν) m n o,k m n o->bQ (n<=d) (aD (m+h)/\rE 353 [vS a b c,iI m,iI (m+h),iI n,Value.func (Fn.func e) (Array.mk []) (Array.mk f)] o λa b=>a=vU []/\aD (2*h)/\aD (n+2*h)/\k n (n+2*h) b/\l n (n+2*h) b<l m n o) (aD (m+h)/\bQ (m+h<d) (rE 353 [vS a b c,iI m,iI (m+h),iI d,Value.func (Fn.func e) (Array.mk []) (Array.mk f)] o λa b=>a=vU []/\aD (h*2)/\g (h*2) b/\i (h*2) b<i h j) (aD (h*2)/\g (h*2) o/\i (h*2) o<i h j))) (R (vU []) j))):ρ 294 [vS a b c,iI d,(.func (.func e) #[] ⟨f⟩)] w R:=rv Tryz.func294 ⟨[(2,[(7,(.one (.int .i64))),(8,(.one (.int .i64)))]),(7,[(6,(.one (.int .i64)))]),(9,[(7,(.one (.int .i64))),(8,(.one (.int .i64)))])],[],[],[]⟩ h
theorem iV{f:FuncId}{g:List Value}(h:aD (A+1)/\τ [(8,aN)] λb c=>b (A+1) w/\∀(_:ν) d e,b d e->bQ (d<B) (τ [(9,aN)] λh j=>h d e/\∀(_:ν) k l,h k l->∀m,drawn l m->∃(n:WP),n m/\bQ (A<k) (idx a i k 1 λo=>∃p,(∀a,n a->World.cell? a o=some (iI p))/\aD (k-1)/\idx a i (k-1) 1 λo=>∃q,(∀a,n a->World.cell? a o=some (iI q))/\oN (Proofs.YtaoaemnefghnbaaGreatDoor.Fn f) (rEi f (iI p::iI q::g) m λm g=>n g/\bQ (m<0) (∀b,drawn g b->∃(c:WP),c b/\aD (k-1)/\aD (k-1)/\idx a i (k-1) 1 λd=>∃e,(∀a,c a->World.cell? a d=some (iI e))/\idx a i k 1 λd=>∃f,(∀a,c a->World.cell? a d=some (iI f))/\idx a i k 1 λc=>st1 b c (iI e) λb=>idx a i (k-1) 1 λa=>st1 b a (iI f) λa=>aD (k-1)/\h (k-1) a/\j (k-1) a<j k l) (aD (d+1)/\b (d+1) g/\c (d+1) g<c d e))) (aD (d+1)/\b (d+1) m/\c (d+1) m<c d e)) (R (vU []) e)):ρ 352 [vS a i j,iI A,iI B,(.func (.func f) #[] ⟨g⟩)] w R:=rv Tryz.func352 ⟨[(1,[(8,(.one (.int .i64)))]),(4,[(9,(.one (.int .i64)))])],[],[],[]⟩ h
theorem lK{F:FuncId}{G:List Value}(h:aD (B-A)/\br (B-A==1) (τ [(10,aN),(11,aN)] λb c=>b B C w/\∀(_:ν) d e f,b d e f->bQ (d<e) (aD (d+e)/\ns 1/\aD (aZ IntKind.u64 (IntKind.wrap IntKind.u64 (d+e)) 1)/\∀g,drawn f g->∃(h:WP),h g/\idx a i (aZ IntKind.u64 (IntKind.wrap IntKind.u64 (d+e)) 1) 1 λj=>∃k,(∀a,h a->World.cell? a j=some (iI k))/\idx a i A 1 λa=>∃i,(∀b,h b->World.cell? b a=some (iI i))/\oN (Proofs.YtaoaemnefghnbaaGreatDoor.Fn F) (rEi F (iI k::iI i::G) g λi g=>h g/\bQ (i<0) (aD (aZ IntKind.u64 (IntKind.wrap IntKind.u64 (d+e)) 1+1)/\b (aZ IntKind.u64 (IntKind.wrap IntKind.u64 (d+e)) 1+1) e g/\c (aZ IntKind.u64 (IntKind.wrap IntKind.u64 (d+e)) 1+1) e g<c d e f) (b d (aZ IntKind.u64 (IntKind.wrap IntKind.u64 (d+e)) 1) g/\c d (aZ IntKind.u64 (IntKind.wrap IntKind.u64 (d+e)) 1) g<c d e f))) (τ [(13,aN)] λb c=>b A f/\∀(_:ν) e f,b e f->aD (d-1)/\bQ (e<d-1) (∀d,drawn f d->∃(g:WP),g d/\aD (e+1)/\aD (e+1)/\idx a i (e+1) 1 λh=>∃j,(∀a,g a->World.cell? a h=some (iI j))/\idx a i e 1 λh=>∃k,(∀a,g a->World.cell? a h=some (iI k))/\idx a i e 1 λg=>st1 d g (iI j) λd=>idx a i (e+1) 1 λa=>st1 d a (iI k) λa=>aD (e+1)/\b (e+1) a/\c (e+1) a<c e f) (R (vU []) f))) (aD (C-B)/\br (C-B==1) (τ [(14,aN),(15,aN)] λb c=>b A B w/\∀(_:ν) d e f,b d e f->bQ (d<e) (aD (d+e)/\ns 1/\aD (aZ IntKind.u64 (IntKind.wrap IntKind.u64 (d+e)) 1)/\∀g,drawn f g->∃(h:WP),h g/\idx a i B 1 λj=>∃k,(∀a,h a->World.cell? a j=some (iI k))/\idx a i (aZ IntKind.u64 (IntKind.wrap IntKind.u64 (d+e)) 1) 1 λa=>∃i,(∀b,h b->World.cell? b a=some (iI i))/\oN (Proofs.YtaoaemnefghnbaaGreatDoor.Fn F) (rEi F (iI k::iI i::G) g λi g=>h g/\br (!decide (i<0)) (aD (aZ IntKind.u64 (IntKind.wrap IntKind.u64 (d+e)) 1+1)/\b (aZ IntKind.u64 (IntKind.wrap IntKind.u64 (d+e)) 1+1) e g/\c (aZ IntKind.u64 (IntKind.wrap IntKind.u64 (d+e)) 1+1) e g<c d e f) (b d (aZ IntKind.u64 (IntKind.wrap IntKind.u64 (d+e)) 1) g/\c d (aZ IntKind.u64 (IntKind.wrap IntKind.u64 (d+e)) 1) g<c d e f))) (τ [(17,aN)] λb c=>b B f/\∀(_:ν) e f,b e f->bQ (d<e) (∀d,drawn f d->∃(g:WP),g d/\aD (e-1)/\aD (e-1)/\idx a i (e-1) 1 λh=>∃j,(∀a,g a->World.cell? a h=some (iI j))/\idx a i e 1 λh=>∃k,(∀a,g a->World.cell? a h=some (iI k))/\idx a i e 1 λg=>st1 d g (iI j) λd=>idx a i (e-1) 1 λa=>st1 d a (iI k) λa=>aD (e-1)/\b (e-1) a/\c (e-1) a<c e f) (R (vU []) f))) (aD (A+C)/\ns 1/\aD (aZ IntKind.u64 (IntKind.wrap IntKind.u64 (A+C)) 1)/\aD (aZ IntKind.u64 (IntKind.wrap IntKind.u64 (A+C)) 1+B)/\∃(b:lP [(20,aN),(21,aN)]),bQ (aZ IntKind.u64 (IntKind.wrap IntKind.u64 (A+C)) 1<B) (aD (aZ IntKind.u64 (IntKind.wrap IntKind.u64 (A+C)) 1+B-C)/\b (aZ IntKind.u64 (IntKind.wrap IntKind.u64 (A+C)) 1+B-C) (aZ IntKind.u64 (IntKind.wrap IntKind.u64 (A+C)) 1) w) (b A B w)/\∀(_:ν) c d e,b c d e->aD (aZ IntKind.u64 (IntKind.wrap IntKind.u64 (A+C)) 1+B-1)/\τ [(20,aN),(21,aN)] λb f=>b c d e/\∀(_:ν) c d e,b c d e->bQ (c<d) (aD (c+d)/\ns 1/\aD (aZ IntKind.u64 (IntKind.wrap IntKind.u64 (c+d)) 1)/\∀g,drawn e g->∃(h:WP),h g/\aD (aZ IntKind.u64 (IntKind.wrap IntKind.u64 (A+C)) 1+B-1-aZ IntKind.u64 (IntKind.wrap IntKind.u64 (c+d)) 1)/\idx a i (aZ IntKind.u64 (IntKind.wrap IntKind.u64 (A+C)) 1+B-1-aZ IntKind.u64 (IntKind.wrap IntKind.u64 (c+d)) 1) 1 λj=>∃k,(∀a,h a->World.cell? a j=some (iI k))/\idx a i (aZ IntKind.u64 (IntKind.wrap IntKind.u64 (c+d)) 1) 1 λa=>∃i,(∀b,h b->World.cell? b a=some (iI i))/\oN (Proofs.YtaoaemnefghnbaaGreatDoor.Fn F) (rEi F (iI k::iI i::G) g λi g=>h g/\br (!decide (i<0)) (aD (aZ IntKind.u64 (IntKind.wrap IntKind.u64 (c+d)) 1+1)/\b (aZ IntKind.u64 (IntKind.wrap IntKind.u64 (c+d)) 1+1) d g/\f (aZ IntKind.u64 (IntKind.wrap IntKind.u64 (c+d)) 1+1) d g<f c d e) (b c (aZ IntKind.u64 (IntKind.wrap IntKind.u64 (c+d)) 1) g/\f c (aZ IntKind.u64 (IntKind.wrap IntKind.u64 (c+d)) 1) g<f c d e))) (aD (aZ IntKind.u64 (IntKind.wrap IntKind.u64 (A+C)) 1+B-c)/\∃(b:lP []),bQ (c<B) (bQ (B<aZ IntKind.u64 (IntKind.wrap IntKind.u64 (A+C)) 1+B-c) (rE 385 [vS a i j,iI c,iI B,iI (aZ IntKind.u64 (IntKind.wrap IntKind.u64 (A+C)) 1+B-c),Value.func (Fn.func F) (Array.mk []) (Array.mk G)] e λa c=>a=vU []/\b c) (b e)) (b e)/\∀(_:ν) d,b d->bQ (A<c) (bQ (c<aZ IntKind.u64 (IntKind.wrap IntKind.u64 (A+C)) 1) (rE 353 [vS a i j,iI A,iI c,iI (aZ IntKind.u64 (IntKind.wrap IntKind.u64 (A+C)) 1),Value.func (Fn.func F) (Array.mk []) (Array.mk G)] d λb d=>b=vU []/\bQ (aZ IntKind.u64 (IntKind.wrap IntKind.u64 (A+C)) 1<aZ IntKind.u64 (IntKind.wrap IntKind.u64 (A+C)) 1+B-c) (bQ (aZ IntKind.u64 (IntKind.wrap IntKind.u64 (A+C)) 1+B-c<C) (rE 353 [vS a i j,iI (aZ IntKind.u64 (IntKind.wrap IntKind.u64 (A+C)) 1),iI (aZ IntKind.u64 (IntKind.wrap IntKind.u64 (A+C)) 1+B-c),iI C,Value.func (Fn.func F) (Array.mk []) (Array.mk G)] d λa b=>a=vU []/\R (vU []) b) (R (vU []) d)) (R (vU []) d)) (bQ (aZ IntKind.u64 (IntKind.wrap IntKind.u64 (A+C)) 1<aZ IntKind.u64 (IntKind.wrap IntKind.u64 (A+C)) 1+B-c) (bQ (aZ IntKind.u64 (IntKind.wrap IntKind.u64 (A+C)) 1+B-c<C) (rE 353 [vS a i j,iI (aZ IntKind.u64 (IntKind.wrap IntKind.u64 (A+C)) 1),iI (aZ IntKind.u64 (IntKind.wrap IntKind.u64 (A+C)) 1+B-c),iI C,Value.func (Fn.func F) (Array.mk []) (Array.mk G)] d λa b=>a=vU []/\R (vU []) b) (R (vU []) d)) (R (vU []) d))) (bQ (aZ IntKind.u64 (IntKind.wrap IntKind.u64 (A+C)) 1<aZ IntKind.u64 (IntKind.wrap IntKind.u64 (A+C)) 1+B-c) (bQ (aZ IntKind.u64 (IntKind.wrap IntKind.u64 (A+C)) 1+B-c<C) (rE 353 [vS a i j,iI (aZ IntKind.u64 (IntKind.wrap IntKind.u64 (A+C)) 1),iI (aZ IntKind.u64 (IntKind.wrap IntKind.u64 (A+C)) 1+B-c),iI C,Value.func (Fn.func F) (Array.mk []) (Array.mk G)] d λa b=>a=vU []/\R (vU []) b) (R (vU []) d)) (R (vU []) d)))))):ρ 353 [vS a i j,iI A,iI B,iI C,(.func (.func F) #[] ⟨G⟩)] w R:=rv Tryz.func353 ⟨[(3,[(10,(.one (.int .i64))),(11,(.one (.int .i64)))]),(9,[(13,(.one (.int .i64)))]),(15,[(14,(.one (.int .i64))),(15,(.one (.int .i64)))]),(21,[(17,(.one (.int .i64)))]),(33,[(20,(.one (.int .i64))),(21,(.one (.int .i64)))])],[(32,[(20,(.one (.int .i64))),(21,(.one (.int .i64)))]),(41,[])],[],[]⟩ h
theorem ni{F:FuncId}{G:List Value}(h:aD (B-A)/\aD (C-B)/\τ [(10,aN),(11,aN)] λb c=>b (B-A) (C-B) w/\∀(_:ν) d e f,b d e f->br (d !=e) (bQ (e<d) (aD (B-d)/\rE 396 [vS a i j,iI (B-d),iI B,iI e,Value.func (Fn.func F) (Array.mk []) (Array.mk G)] f λa g=>a=vU []/\aD (d-e)/\b (d-e) e g/\c (d-e) e g<c d e f) (aD (B-d)/\aD (B+e)/\aD (B+e-d)/\rE 396 [vS a i j,iI (B-d),iI (B+e-d),iI d,Value.func (Fn.func F) (Array.mk []) (Array.mk G)] f λa g=>a=vU []/\aD (e-d)/\b d (e-d) g/\c d (e-d) g<c d e f)) (aD (B-d)/\rE 396 [vS a i j,iI (B-d),iI B,iI d,Value.func (Fn.func F) (Array.mk []) (Array.mk G)] f λa b=>a=vU []/\R (vU []) b)):ρ 385 [vS a i j,iI A,iI B,iI C,(.func (.func F) #[] ⟨G⟩)] w R:=rv Tryz.func385 ⟨[(2,[(10,(.one (.int .i64))),(11,(.one (.int .i64)))])],[],[],[]⟩ h
theorem lB{F:FuncId}{G:List Value}(h:τ [(10,aN)] λb c=>b 0 w/\∀(_:ν) d e,b d e->bQ (d<C) (∀f,drawn e f->∃(g:WP),g f/\aD (A+d)/\aD (B+d)/\aD (B+d)/\idx a i (B+d) 1 λh=>∃j,(∀a,g a->World.cell? a h=some (iI j))/\aD (A+d)/\idx a i (A+d) 1 λh=>∃k,(∀a,g a->World.cell? a h=some (iI k))/\idx a i (A+d) 1 λg=>st1 f g (iI j) λf=>idx a i (B+d) 1 λa=>st1 f a (iI k) λa=>aD (d+1)/\b (d+1) a/\c (d+1) a<c d e) (R (vU []) e)):ρ 396 [vS a i j,iI A,iI B,iI C,(.func (.func F) #[] ⟨G⟩)] w R:=rv Tryz.func396 ⟨[(1,[(10,(.one (.int .i64)))])],[],[],[]⟩ h
end
end Go.Proofs.YtaoaemnefghnbaaGreatDoor
