/- Texts of this claim, one behind the other. -/
import Derived.Test.YtaoaemnefghnbaaGreatDoorG5
import Derived.Test.YtaoaemnefghnbaaGreatDoorG2
import Derived.Test.YtaoaemnefghnbaaGreatDoorG4
import Derived.Test.YtaoaemnefghnbaaGreatDoorG3
set_option linter.unusedVariables false
set_option linter.unusedSectionVars false
set_option maxRecDepth 100000
set_option maxHeartbeats 16000000
namespace Go.V
end Go.V
namespace Go.Proofs.YtaoaemnefghnbaaGreatDoor
end Go.Proofs.YtaoaemnefghnbaaGreatDoor
open Go.V Go.Proofs.YtaoaemnefghnbaaGreatDoor
namespace Go.Proofs.YtaoaemnefghnbaaGreatDoor
theorem Ad:∀(N:List aE){M:List aE}{h:Hp},aF (N++M) h->∃h0,aF M h0/\sub h0 h/\aF (N++[has h0]) h
 |[],M,h,hs=>⟨h,hs,sZZ,bF sZZ⟩
 |A::N,M,h,⟨h1,h2,d,s1,s2,ha,hl⟩=>by
  obtain⟨h0,k1,k2,k3⟩:=Ad N hl
  exact⟨h0,k1,sub.trans k2 s2,h1,h2,d,s1,s2,ha,k3⟩
theorem St.mP{w:aiA}(N:List aE){M:List aE}(h:St w (N++M)):∃h0,aF M h0/\St w (N++[Proofs.YtaoaemnefghnbaaGreatDoor.has h0]):=by
 obtain⟨h0,u,_,J⟩:=Ad N h;exact⟨h0,u,J⟩
theorem acU{L:List aE}{h:Hp}{p:aiz}{bs:List Bool}(i:Nat)(hl:aF L h)(e:vv L i=cU p bs:=by rfl)(hi:Nat.blt i (DT L)=true:=by rfl):eV h p bs:=by
 obtain⟨u,s,ha⟩:=eO i (by simp_all[lh]) hl;rw[e] at ha;exact(DR ha).mono s
theorem YN(xs:List Int)(i:Nat)(v:Int):(iv xs).set i (iI v)=iv (xs.set i v):=by simp[iv]
theorem aeg(n:Nat):List.replicate n (iI 0)=iv (List.replicate n 0):=by simp[iv]
theorem YO{α:Type}(xs:List α)(i:Nat)(a b:α):(xs.set i a).set i b=xs.set i b:=σ
theorem abA{w:aiA}{k u:Nat}{xs:List Int}{v:Int}(r:aq (hp w) ⟨k,0,none⟩ (iv xs))(h:xs[u]? =some v):w.cell? ((⟨k,0,none⟩:Addr).add u)=some (iI v):=r.cell sZZ (j:=u) (by simp_all[iv])
section
variable{w:aiA}{g:ah}{x:GA}
theorem aeh{H:Hp}{k1 k2 k27 k44 k54 k53 tc lc:Nat}{ta la qm qi:aiz}{may bs:List Bool}{R:Value->aiA->Prop}(hg:gR H g x)(B:GB H k1 x)(hb:lq g)(he:bM g)(hpd:YH g may)(hus:UsP g bs)(hm:eV H qm may)(hi:eV H qi bs)
  (r27:aq H ⟨k27,0,none⟩ [.pointer qm,iI (g.T:Int)]) (r44:aq H ⟨k44,0,none⟩ [.pointer qi,iI (g.T:Int)]) (ht:dP H)
  (h:St w [az k54 [vS ta g.terms.length tc,vS (some ⟨k53,0,none⟩) 1 1,vS la g.levels.length lc,iI 0,zS],own 2 ta g.terms.length tc (cQ g.terms),own 1 (some ⟨k53,0,none⟩) 1 1 [.string .empty],own 1 la g.levels.length lc (iv g.levels),az k2 [zS,zS,zS,iI 0,zS],has H])
  (hR:∀(x':GA) os w',DU (ir g (may.drop g.T) (bs.drop g.T)) x'->os.length=(ir g (may.drop g.T) (bs.drop g.T)).prods.length->St w' (y7 (ir g (may.drop g.T) (bs.drop g.T)) x' os++[has H])->R (.tuple #[.agg ⟨x'.cells⟩,iI 0]) w'):PJ k1 k2 k27 k44 k54 w R:=by
 unfold PJ Rr;dsimp only[nn];obtain⟨iG,bT,bN,pN,pT,bP⟩:=Gc he;obtain⟨eI,eC⟩:=tY he;have tl:g.T=x.tl:=hg.t.1;have nl:g.N=x.nl:=hg.n.1;have pl:=hg.p.1;have cT:=hg.s;have be:=hus.1;obtain⟨b1,b2,b3,b4,b5,b6,b7⟩:=id hb;obtain⟨n,hn⟩:∃n,n=g.T+g.N:=⟨_,rfl⟩;rw[<-hn] at be;obtain⟨uns,c7⟩:∃uns,uns=bs.drop g.T:=⟨_,rfl⟩;obtain⟨pds,ba⟩:∃pds,pds=may.drop g.T:=⟨_,rfl⟩;rw[<-c7,<-ba] at hR;refine⟨_,r44.cell0 (aC 5 h.l),(L4 (hi.mono (aC 5 h.l))).mono ?_⟩;rintro _ fS⟨rfl,rfl⟩;refine⟨_,rfl,?_⟩;rw[be];refine⟨⟨ω,rfl,ω⟩,?_⟩;rw[agZ,cZ,aeg,<-abu g.T n uns];refine ag h λO f4 h=>ag h λa5 fg h=>aR h σ λfC h=>⟨_,r44.cell0 (aC 7 h.l),?_⟩;refine(KP (hi.mono (aC 7 h.l))).mono ?_;rintro _ f7⟨b,rfl,h9⟩;have h:=h9.eM h;obtain⟨ks,ch⟩:∃ks,ks=mb bs:=⟨_,rfl⟩;have am:∀{w:aiA},sub H (hp w)->w.cell? ((⟨k44,0,none⟩:Addr).add 1)=some (iI (g.T:Int)):=λs=>r44.cell s (j:=1) rfl
 refine⟨_,_,rfl,a_.2 ⟨rfl,sC (mb bs),WV b bs.length (bp bs),dP,λi=>ex λy:aiz×Nat=>aV [az a5 [vS (some ⟨O,0,none⟩) n n],az O (iv (Lk g.T n uns (ks.take i))),az k54 [vS ta g.terms.length tc,.slice y.1 (u_ g (ks.take i)).length y.2,vS la g.levels.length lc,iI 0,zS],own 1 y.1 (u_ g (ks.take i)).length y.2 ((u_ g (ks.take i)).map λs=>Value.string s)],pu False,λ_=>pu False,[own 2 ta g.terms.length tc (cQ g.terms),own 1 la g.levels.length lc (iv g.levels),az k2 [zS,zS,zS,iI 0,zS],has H],?_,λh hh=>eE.mono (aC 3 hh) ht,o_,?_,?_,?_,?_,trivial⟩⟩
 ·refine St.ex.2 ⟨(some ⟨k53,0,none⟩,1),St.flat.2 ?_⟩;exact h.pick 9 [1,2,3,5,0,4,6,7,8]
 ·intro y hy;simp only[sC,agY] at hy
  grind
 ·intro i y hy L' eG _ hs;refine⟨_,hs,λal dF bb U=>?_⟩;obtain⟨⟨na,nc⟩,U⟩:=St.ex.1 U;have U:=St.flat.1 U;have hy:(sC (mb bs))[i]? =some [iI y]:=hy
  obtain⟨s,hk,rfl⟩:∃k,(mb bs)[i]? =some k/\y=(k:Int):=by
   unfold sC at hy
   grind
  obtain⟨eB,a7,e8⟩:=yM hk;rw[be] at a7;rw[<-ch] at hk;have ez:ks.take i=dx s (bp bs):=by rw[ch];exact e8
  have et:ks.take (i+1)=ks.take i++[s]:=by simp_all[agR]
  have U:St dF (az a5 [vS (some ⟨O,0,none⟩) n n]::az O (iv (Lk g.T n uns (ks.take i)))::az k54 [vS ta g.terms.length tc,.slice na (u_ g (ks.take i)).length nc,vS la g.levels.length lc,iI 0,zS]::own 1 na (u_ g (ks.take i)).length nc ((u_ g (ks.take i)).map λs=>Value.string s)::al):=U;have sL:∀{w:aiA}{A1 A2 A3 A4:aE},St w (A1::A2::A3::A4::al)->sub H (hp w):=λh=>aC 3 (bb _ h.tail.tail.tail.tail);have ey:=U.l;refine⟨_,_,_,U.cell 0,ax rfl a7 ?_⟩;rw[ak];refine aR (U.pick 4 [1,0,2,3]) (by simp_all[cf,TM]) λcA h=>?_;have h:St cA (az O ((iv (Lk g.T n uns (ks.take i))).set s (iI (s:Int)))::az a5 [vS (some ⟨O,0,none⟩) n n]::az k54 [vS ta g.terms.length tc,.slice na (u_ g (ks.take i)).length nc,vS la g.levels.length lc,iI 0,zS]::own 1 na (u_ g (ks.take i)).length nc ((u_ g (ks.take i)).map λs=>Value.string s)::al):=h;rw[YN] at h;refine⟨_,am (sL h),ae (λh4=>?_) λh4=>?_⟩
  rotate_left
  ·have h4:s<g.T:=by simp_all
   have e1:(Lk g.T n uns (ks.take i)).set s (s:Int)=Lk g.T n uns (ks.take (i+1)):=by
    rw[et,<-TN a7,YM h4]
   rw[e1] at h;refine St.ex.2 ⟨(na,nc),St.flat.2 ?_⟩;have e2:u_ g (ks.take (i+1))=u_ g (ks.take i):=by grind[aee]
   dsimp only;rw[e2];exact h.pick 4 [1,0,2,3]
  have h4:g.T<=s:=by simp_all
  have eb:(u_ g (ks.take i)).length=1+dp (s-g.T) (bp uns):=by simp_all[abx]
  have g4:dp (s-g.T) (bp uns)<=s-g.T:=DQ _ _;have g7:s-g.T<g.N:=ω
  obtain⟨nm,ad,eN,dc,er⟩:=hg.n.dQ (i:=s-g.T) ω;have Z:aq (hp cA) ⟨k54,0,none⟩ [vS ta g.terms.length tc,.slice na (u_ g (ks.take i)).length nc,vS la g.levels.length lc,iI 0,zS]:=af 2 h.l;refine⟨_,_,_,h.swap.cell 0,_,am (sL h),_,_,_,Z.cell sZZ (j:=1) rfl,ξ,ax rfl a7 ?_⟩;rw[ak];refine aR h (by simp_all[cf,TM]) λf9 h=>?_;rw[YN,YO] at h
  have e1:(Lk g.T n uns (ks.take i)).set s ((g.T:Int)+((u_ g (ks.take i)).length:Int))=Lk g.T n uns (ks.take (i+1)):=by
   have hu:bp uns (s-g.T)=true:=by simp_all[fD]
   rw[et,<-TN a7,abw h4 hu,eb]
   grind
  rw[e1] at h;intro e7 hd;have h:=h.drawn hd;have cu:aq (hp e7) ⟨k54,0,none⟩ [vS ta g.terms.length tc,.slice na (u_ g (ks.take i)).length nc,vS la g.levels.length lc,iI 0,zS]:=af 2 h.l;have em:(s:Int)-(g.T:Int)=((s-g.T:Nat):Int):=ω
  refine⟨λw=>aq (hp w) ⟨k54,0,none⟩ [vS ta g.terms.length tc,.slice na (u_ g (ks.take i)).length nc,vS la g.levels.length lc,iI 0,zS]/\sub H (hp w),⟨cu,sL h⟩,_,_,_,λw s=>s.1.cell sZZ (j:=1) rfl,_,_,_,λw s=>B.c1 s.2,_,λw s=>am s.2,ξ,?_⟩;rw[em];refine ax dc ω ⟨nm,λw s=>er _ s.2,ag h λei eD h=>⟨⟨af 3 h.l,sL h.tail⟩,?_⟩⟩;refine(aS aT (rfl:ai Ty _=.slice _) (rfl:ai Ty _=.slice _) rfl rfl rfl (h.pick 5 [0,4,1,2,3]) rfl (by simp[aK]) (by grind) ω).mono ?_;rintro _ d5⟨o',c',rfl,h⟩;have h:St d5 (own 1 o' ((u_ g (ks.take i)).length+1) c' (((u_ g (ks.take i)).map λs=>Value.string s)++[.string nm])::az ei [.string nm]::az O (iv (Lk g.T n uns (ks.take (i+1))))::az a5 [vS (some ⟨O,0,none⟩) n n]::az k54 [vS ta g.terms.length tc,.slice na (u_ g (ks.take i)).length nc,vS la g.levels.length lc,iI 0,zS]::al):=h;refine⟨_,_,_,rfl,⟨af 4 h.l,aC 3 (bb _ h.tail.tail.tail.tail.tail)⟩,?_⟩;rw[ak];refine aR (h.pick 5 [4,0,2,3]) σ λf6 h=>?_;refine St.ex.2 ⟨(o',c'),St.flat.2 ?_⟩;have e2:u_ g (ks.take (i+1))=u_ g (ks.take i)++[nm]:=by simp_all[aef,Ac]
  have e3:(u_ g (ks.take (i+1))).length=(u_ g (ks.take i)).length+1:=by simp_all
  have e4:((u_ g (ks.take i)).map λs=>Value.string s)++[.string nm]=(u_ g (ks.take (i+1))).map λs=>Value.string s:=by simp_all
  rw[e4,<-e3] at h;exact h.pick 4 [3,2,0,1]
 ·intro cC hs;obtain⟨⟨na,nc⟩,hs⟩:=St.ex.1 hs;have hs:=St.flat.1 hs;have e:(sC (mb bs)).length=ks.length:=by simp_all[sC]
  dsimp only at hs;rw[e,ag9] at hs;have h:St cC [az a5 [vS (some ⟨O,0,none⟩) n n],az O (iv (Lk g.T n uns ks)),az k54 [vS ta g.terms.length tc,.slice na (u_ g ks).length nc,vS la g.levels.length lc,iI 0,zS],own 1 na (u_ g ks).length nc ((u_ g ks).map λs=>Value.string s),WV b bs.length (bp bs),own 2 ta g.terms.length tc (cQ g.terms),own 1 la g.levels.length lc (iv g.levels),az k2 [zS,zS,zS,iI 0,zS],has H]:=hs;clear hs;have ef:u_ g ks=ew g uns:=by simp_all[aby]
  rw[ef] at h;have to:∀{s:Int},0<=s->s<(g.T:Int)+g.N->(Lk g.T n uns ks)[s.toNat]? =some (fO g.T uns s):=λ{s} h1 h2=>by grind[abv,j9]
  obtain⟨st,cp⟩:∃st,st=fO g.T uns g.start:=⟨_,rfl⟩
  --the table of numbers is only read from here on
  obtain⟨V,bi,h⟩:=St.mP [_,_,_,_,_] (M:=[_,_,_]) (h.pick 9 [2,3,5,6,7,0,1,8]);have sH:sub H V:=aC 2 bi;have bl:aq V ⟨a5,0,none⟩ [vS (some ⟨O,0,none⟩) n n]:=af 0 bi;have eo:aq V ⟨O,0,none⟩ (iv (Lk g.T n uns ks)):=af 1 bi;have h:St cC [az k54 [vS ta g.terms.length tc,.slice na (ew g uns).length nc,vS la g.levels.length lc,iI 0,zS],own 1 na (ew g uns).length nc ((ew g uns).map λs=>Value.string s),own 2 ta g.terms.length tc (cQ g.terms),own 1 la g.levels.length lc (iv g.levels),az k2 [zS,zS,zS,iI 0,zS],has V]:=h;have c5:∀{w:aiA}{s:Int},sub V (hp w)->0<=s->s<(g.T:Int)+g.N->w.cell? ((⟨O,0,none⟩:Addr).add s.toNat)=some (iI (fO g.T uns s)):=λs h1 h2=>abA (eo.mono s) (to h1 h2);refine⟨_,_,_,bl.cell0 (aC 5 h.l),_,B.c3 (sub.trans sH (aC 5 h.l)),?_⟩;rw[cT,<-j9 (show(0:Int)<=g.start by omega)];refine ax rfl ω ⟨_,c5 (aC 5 h.l) ω ω,?_⟩;rw[<-cp,ak];refine aR h σ λeu h=>?_;have h:St eu [az k54 [vS ta g.terms.length tc,.slice na (ew g uns).length nc,vS la g.levels.length lc,iI st,zS],own 1 na (ew g uns).length nc ((ew g uns).map λs=>Value.string s),own 2 ta g.terms.length tc (cQ g.terms),own 1 la g.levels.length lc (iv g.levels),az k2 [zS,zS,zS,iI 0,zS],has V]:=h;refine⟨_,am (sub.trans sH (aC 5 h.l)),_,h.cell 3,ag h λJ eX h=>ag h λa0 f3 h=>?_⟩;rw[ak];refine aR (h.pick 8 [2,0,1,3,4,5,6,7]) σ λa4 h=>?_;obtain⟨K,hK⟩:=uU (λ(pa:aiz)(m pc:Nat)=>[vS ta g.terms.length tc,.slice na (ew g uns).length nc,vS la g.levels.length lc,iI st,vS pa m pc]);have h:St a4 [az k54 (K (some ⟨a0,0,none⟩) 1 1),az a0 [iI (g.T:Int),vS (some ⟨J,0,none⟩) 1 1,iI 0],az J (iv [st]),own 1 na (ew g uns).length nc ((ew g uns).map λs=>Value.string s),own 2 ta g.terms.length tc (cQ g.terms),own 1 la g.levels.length lc (iv g.levels),az k2 [zS,zS,zS,iI 0,zS],has V]:=by rw[hK];exact h
  have cz:St a4 (own 1 (some ⟨J,0,none⟩) 1 1 (iv [st])::_):=bg (cs:=[]) (vs:=iv [st]) (h.pick 8 [2,0,1,3,4,5,6,7]) rfl rfl (agT _)
  have cx:St a4 (own 3 (some ⟨a0,0,none⟩) 1 1 (dY [(some ⟨J,0,none⟩,1)] [lK g uns])::_):=bg (cs:=[]) (vs:=dY [(some ⟨J,0,none⟩,1)] [lK g uns]) (b:=a0) (by
   have:=cz.pick 8 [2,0,1,3,4,5,6,7];rw[ahe];have e:dY [(some ⟨J,0,none⟩,1)] [lK g uns]=[iI (g.T:Int),vS (some ⟨J,0,none⟩) 1 1,iI 0]:=rfl;rw[e];exact this) rfl rfl (agT _)
  obtain⟨u,d6⟩:=uU (λ(j:Nat)=>lK g uns::kJ g pds uns (g.prods.take j))
  have h:St a4 [own 1 (some ⟨J,0,none⟩) 1 1 (iv [st]),aV (cj [] []),az k54 (K (some ⟨a0,0,none⟩) 1 1),own 3 (some ⟨a0,0,none⟩) 1 1 (dY [(some ⟨J,0,none⟩,1)] [lK g uns]),own 1 na (ew g uns).length nc ((ew g uns).map λs=>Value.string s),own 2 ta g.terms.length tc (cQ g.terms),own 1 la g.levels.length lc (iv g.levels),az k2 [zS,zS,zS,iI 0,zS],has V]:=by
   have h6:St a4 (aV (cj [] [])::_):=St.flat.2 (show St a4 ([]++_) from cx);exact h6.pick 9 [2,0,3,1,4,5,6,7,8]
  have h:=St.snoc (A:=own 1 (some ⟨J,0,none⟩) 1 1 (iv [st])) (M:=cj [] []) h;have d7:(cj [] []++[own 1 (some ⟨J,0,none⟩) 1 1 (iv [st])])=cj [((some ⟨J,0,none⟩:aiz),1)] [lK g uns]:=by simp_all[cj,lK]
  rw[d7] at h
  have e5:∀j,(u j).length<=1+j:=λj=>by
   rw[d6];have:=ahs (vr g pds uns) (g.prods.take j);simp only[ahr,kJ,ag5]
   grind
  refine⟨_,_,_,B.c4 (sub.trans sH (aC 7 h.l)),λn w'=>∃(j:Nat)(pa:aiz)(pc:Nat)(os:List (aiz×Nat)),n=j/\j<=g.prods.length/\os.length=(u j).length/\St w' [az k54 (K pa (u j).length pc),own 3 pa (u j).length pc (dY os (u j)),aV (cj os (u j)),own 1 na (ew g uns).length nc ((ew g uns).map λs=>Value.string s),own 2 ta g.terms.length tc (cQ g.terms),own 1 la g.levels.length lc (iv g.levels),az k2 [zS,zS,zS,iI 0,zS],has V],λn _=>g.prods.length-n.toNat,⟨0,some ⟨a0,0,none⟩,1,[(some ⟨J,0,none⟩,1)],rfl,ω,by grind,?_⟩,?_⟩
  ·have e0:u 0=[lK g uns]:=by simp_all[kJ]
   rw[e0];exact h.pick 8 [1,2,0,3,4,5,6,7]
  clear h cz cx;rintro _ n2 d8⟨j,pa,pc,os,rfl,hj,a9,h⟩;refine ae (λh2=>?_) λh2=>?_
  rotate_left
  ·have h2:j=g.prods.length:=by grind
   subst h2;have eP:u g.prods.length=(ir g pds uns).prods:=by grind[ir,List.take_length]
   rw[eP] at h a9;have Z:aq (hp d8) ⟨k54,0,none⟩ (K pa (ir g pds uns).prods.length pc):=af 0 h.l;rw[hK] at Z;refine⟨_,_,_,_,_,_,_,_,_,_,_,_,_,Z.at sZZ rfl,aL (h.pick 8 [6,1,2,3,4,5,7]) rfl (by intro v hv;simp at hv;rcases hv with rfl|rfl|rfl|rfl|rfl<;>rfl) λfL h=>?_⟩;refine⟨_,_,_,_,_,_,_,_,_,_,_,_,_,h.row.at sZZ rfl,λeg d3=>?_⟩;have h:=h.eq d3;refine hR ⟨ta,g.terms.length,tc,na,(ew g uns).length,nc,la,g.levels.length,lc,st,pa,(ir g pds uns).prods.length,pc⟩ os eg ⟨rfl,rfl,rfl,cp,rfl⟩ a9 ?_;exact St.on (N:=[_,_,_,_,_]) (h.pick 7 [1,2,4,3,5,6]) (bF sH)
  have h2:j<g.prods.length:=by simp_all
  obtain⟨p,ad,vs,e9,el,dk,ra,rl,rc,rfl,fs,bz⟩:=hg.p.get (i:=j) ω;have bc:=agL e9;obtain⟨eT,e6⟩:=iG p bc;have fz:=b7 p bc;have fc:=bz.1;have et:g.prods.take (j+1)=g.prods.take j++[p]:=by grind[List.take_add_one]
  have g5:u (j+1)=u j++(if vr g pds uns p then[jE g uns p] else[]):=by grind[RR]
  have ep:=abz iG hpd (bs:=bs) bc;rw[<-ba,<-c7] at ep;have gc:=e5 j;have Y:∀{w:aiA},sub V (hp w)->sub H (hp w):=λs=>sub.trans sH s
  have ck:∀{w':aiA},vr g pds uns p=false->St w' [az k54 (K pa (u j).length pc),own 3 pa (u j).length pc (dY os (u j)),aV (cj os (u j)),own 1 na (ew g uns).length nc ((ew g uns).map λs=>Value.string s),own 2 ta g.terms.length tc (cQ g.terms),own 1 la g.levels.length lc (iv g.levels),az k2 [zS,zS,zS,iI 0,zS],has V]->aA ((j:Int)+1)/\(∃(j':Nat)(pa:aiz)(pc:Nat)(os:List (aiz×Nat)),(j:Int)+1=j'/\j'<=g.prods.length/\os.length=(u j').length/\St w' [az k54 (K pa (u j').length pc),own 3 pa (u j').length pc (dY os (u j')),aV (cj os (u j')),own 1 na (ew g uns).length nc ((ew g uns).map λs=>Value.string s),own 2 ta g.terms.length tc (cQ g.terms),own 1 la g.levels.length lc (iv g.levels),az k2 [zS,zS,zS,iI 0,zS],has V])/\g.prods.length-((j:Int)+1).toNat<g.prods.length-(j:Int).toNat:=λ{w'} hk h=>by
   have e:u (j+1)=u j:=by grind
   refine⟨ξ,⟨j+1,pa,pc,os,σ,ω,by grind,?_⟩,bR h2⟩
   grind
  refine aO el ω ⟨_,_,_,_,_,dk.at (Y (aC 7 h.l)) rfl,ag h λc6 g6 h=>aL h rfl (by simp[aK]) λd9 h=>?_⟩;have cg:aq (hp d9) ⟨c6,0,none⟩ [iI p.left,vS ra rl rc,iI p.level]:=af 0 h.l;refine⟨_,r44.cell0 (Y (aC 8 h.l)),_,cg.cell0 sZZ,(KO (hi.mono (Y (aC 8 h.l))) p.left).mono ?_⟩;rintro _ fw⟨rfl,rfl⟩;refine⟨_,rfl,ae (λh5=>ck (by grind) (h.pick 9 [1,2,3,4,5,6,7,8])) λh5=>?_⟩;have h5:hasB bs p.left=true:=by grind
  refine⟨_,_,r27.at (Y (aC 8 h.l)) rfl,_,_,_,cg.cell sZZ (j:=1) rfl,(YF (hm.mono (Y (aC 8 h.l))) (bz.mono (Y (aC 8 h.l))) ω).mono ?_⟩;rintro _ fd⟨rfl,dl⟩;have h:=h.gr dl;refine⟨_,rfl,ae (λh6=>ck (by grind) (h.pick 9 [1,2,3,4,5,6,7,8])) λh6=>?_⟩;have h6:wm may p.right=true:=by grind
  have eA:vr g pds uns p=true:=by grind
  intro g8 hd;have h:=h.drawn hd;have eL:p.left=((p.left.toNat:Nat):Int):=ω
  refine⟨λw=>aq (hp w) ⟨c6,0,none⟩ [iI p.left,vS ra rl rc,iI p.level]/\sub V (hp w),⟨af 0 h.l,aC 8 h.l⟩,_,_,_,λw s=>bl.cell0 s.2,_,λw s=>s.1.cell0 sZZ,?_⟩;rw[eL];refine ax rfl ω ⟨_,λw s=>c5 s.2 ω ω,p.level,λw s=>s.1.cell sZZ (j:=2) rfl,ag h λaa ge h=>⟨⟨by rw[<-eL];exact af 1 h.l,aC 9 h.l⟩,aL h rfl (by simp[aK]) λcI h=>?_⟩⟩;have cc:aq (hp cI) ⟨c6,0,none⟩ [iI p.left,vS ra rl rc,iI p.level]:=af 1 h.l;refine⟨_,_,_,cc.cell sZZ (j:=1) rfl,?_⟩;obtain⟨M,hM⟩:∃M,M=[az k54 (K pa (u j).length pc),own 3 pa (u j).length pc (dY os (u j)),aV (cj os (u j)),own 1 na (ew g uns).length nc ((ew g uns).map λs=>Value.string s),own 2 ta g.terms.length tc (cQ g.terms),own 1 la g.levels.length lc (iv g.levels),az k2 [zS,zS,zS,iI 0,zS],has V]:=⟨_,rfl⟩;have sM:∀{w:aiA}{A1 A2:aE},St w (A1::A2::M)->sub V (hp w):=λ{w A1 A2} h=>by rw[hM] at h;exact aC 9 h.l
  refine⟨λn w'=>∃(i:Nat)(W:aiz)(X:Nat),n=i/\i<=rl/\St w' (az aa [iI (fO g.T uns p.left),vS W i X,iI p.level]::own 1 W i X (iv ((p.right.take i).map (fO g.T uns)))::M),λn _=>rl-n.toNat,⟨0,none,0,rfl,ω,?_⟩,?_⟩
  ·have h:=aI 1 (h.pick 10 [0,2,3,4,5,6,7,8,9]);rw[hM];exact h.swap
  clear h;rintro _ eY c9⟨i,W,X,rfl,f2,h⟩
  refine ae (λh7=>?_) λh7=>?_
  ·have h7:i<rl:=by grind
   obtain⟨s,f5,ca,ej,ea⟩:=bz.dQ h7;have g0:=e6 s (agL ca);have es:s=((s.toNat:Nat):Int):=ω
   have cN:p.right.take (i+1)=p.right.take i++[s]:=by rw[agR,ca];rfl
   refine ax ej h7 ⟨s,ea _ (Y (sM h)),λeS hd=>?_⟩;have h:=h.drawn hd;refine⟨λw=>aq (hp w) ⟨aa,0,none⟩ [iI (fO g.T uns p.left),vS W i X,iI p.level]/\sub V (hp w),⟨af 0 h.l,sM h⟩,_,_,_,λw s=>s.1.cell sZZ (j:=1) rfl,_,_,_,λw s=>bl.cell0 s.2,?_⟩;rw[es];refine ax rfl ω ⟨_,λw q=>c5 q.2 ω ω,ag h λcF eU h=>⟨⟨af 1 h.l,sM h.tail⟩,?_⟩⟩;refine(aS aT (rfl:ai Ty _=.slice _) (rfl:ai Ty _=.slice _) rfl rfl rfl (h.pick 3 [0,2,1]) rfl (by simp[aK]) (by grind) ω).mono ?_;rintro _ ek⟨o',c',rfl,h⟩;have h:St ek (own 1 o' (i+1) c' (iv ((p.right.take i).map (fO g.T uns))++[iI (fO g.T uns s)])::az cF [iI (fO g.T uns s)]::az aa [iI (fO g.T uns p.left),vS W i X,iI p.level]::M):=h;refine⟨_,_,_,rfl,⟨af 2 h.l,sM h.tail⟩,?_⟩;rw[ak];refine aR (h.pick 3 [2,0]) σ λf8 h=>⟨ξ,⟨i+1,o',c',σ,ω,?_⟩,bR h7⟩;have e:iv ((p.right.take i).map (fO g.T uns))++[iI (fO g.T uns s)]=iv ((p.right.take (i+1)).map (fO g.T uns)):=by rw[cN];simp[iv]
   rw[e] at h;exact h
  have h7:i=rl:=by grind
  have av:=h;subst h7;rw[ag4 ω] at av;have h:=av;have cd:(jE g uns p).right.length=i:=by show(p.right.map _).length=i;grind
  have h:St c9 (az aa (qR ((W,X),jE g uns p))::own 1 W i X (iv (jE g uns p).right)::M):=by
   unfold qR;dsimp only;rw[cd];exact h
  rw[hM] at h;have Z:aq (hp c9) ⟨k54,0,none⟩ (K pa (u j).length pc):=af 2 h.l;rw[hK] at Z;refine⟨_,_,_,Z.cell sZZ (j:=4) rfl,_,_,_,_,_,h.row.at sZZ rfl,ag h λcW d0 h=>?_⟩;have h:St d0 [az cW (qR ((W,X),jE g uns p)),az aa (qR ((W,X),jE g uns p)),own 1 W i X (iv (jE g uns p).right),az k54 (K pa (u j).length pc),own 3 pa (u j).length pc (dY os (u j)),aV (cj os (u j)),own 1 na (ew g uns).length nc ((ew g uns).map λs=>Value.string s),own 2 ta g.terms.length tc (cQ g.terms),own 1 la g.levels.length lc (iv g.levels),az k2 [zS,zS,zS,iI 0,zS],has V]:=h;refine(aS aT (rfl:ai Ty _=.slice _) (rfl:ai Ty _=.slice _) rfl rfl rfl (h.pick 11 [0,4,2,3,5,6,7,8,9,10]) rfl (by simp[aK,qR]) (by grind) ω).mono ?_;rintro _ g9⟨a8,a6,rfl,h⟩;refine⟨_,_,_,rfl,?_⟩;refine aR (h.pick 10 [3,0,2,4,5,6,7,8,9]) (by rw[hK];simp) λd4 h=>?_;have eK:(K pa (u j).length pc).set 4 (vS a8 ((u j).length+1) a6)=K a8 ((u j).length+1) a6:=by rw[hK];rfl
  have c8:u (j+1)=u j++[jE g uns p]:=by grind
  have ci:(u (j+1)).length=(u j).length+1:=by rw[c8,agV];rfl
  have h:St d4 [az k54 (K a8 ((u j).length+1) a6),own 3 a8 ((u j).length+1) a6 (dY os (u j)++qR ((W,X),jE g uns p)),own 1 W i X (iv (jE g uns p).right),aV (cj os (u j)),own 1 na (ew g uns).length nc ((ew g uns).map λs=>Value.string s),own 2 ta g.terms.length tc (cQ g.terms),own 1 la g.levels.length lc (iv g.levels),az k2 [zS,zS,zS,iI 0,zS],has V]:=by rw[<-eK];exact h
  have h:=St.snoc (A:=own 1 W i X (iv (jE g uns p).right)) (M:=cj os (u j)) (h.pick 9 [2,3,0,1,4,5,6,7,8]);have e1:=B3 a9 (W,X) (jE g uns p);have e2:=Fe a9 (W,X) (jE g uns p);dsimp only at e1;rw[cd] at e1;rw[<-e1,<-e2,<-c8] at h;refine⟨ξ,⟨j+1,a8,a6,os++[(W,X)],σ,ω,by rw[ci,agV,a9];rfl,?_⟩,bR h2⟩;rw[ci];exact h.pick 8 [1,2,0,3,4,5,6,7]
 simp[St.pu]
end
structure Saf(g:ah)(A:Int->Int->aD)(G:Int->Int->Int)(t:Int)(Q:List Int->Prop):Prop where
 red:∀l,Q l->(A (oO l) t).kind=2->∃p,0<=(A (oO l) t).to/\g.prods[(A (oO l) t).to.toNat]? =some p/\p.right.length<=l.length/\0<=p.left/\p.left<=1000000/\Q (l.take (l.length-p.right.length)++[G (oO (l.take (l.length-p.right.length))) (p.left-g.T)])
structure TrP where
 kept:Nat
 ab:List Int
 ms:List aD
 o:aiz
 c:Nat
abbrev Qt(m:Nat)(x:GA)(T:TypeId)(v:Value)(o:aiz)(n c:Nat):List Value:=[vP (some (aM m)),vS x.ta x.tl x.tc,vS x.na x.nl x.nc,vS x.la x.ll x.lc,iI x.s,vS x.pa x.pl x.pc,.iface T v,vS o n c]
structure TrI(g:ah)(A:Int->Int->aD)(G:Int->Int->Int)(t:Int)(Q:List Int->Prop)(m k b:Nat)(x:GA)(T:TypeId)(v:Value)(st:List Int)(r0:TrR)(L:List aE)(y:TrP)(w:aiA):Prop where
 kl:y.kept<=st.length
 hl:y.kept+y.ab.length<=64
 ml:y.ms.length<=1024
 q:Q (st.take y.kept++y.ab)
 e:V6 g A G t (1024-y.ms.length) (st.take y.kept++y.ab) y.ms=r0
 s:St w (JX m k y.kept y.ab::az b (Qt m x T v y.o y.ms.length y.c)::own 2 y.o y.ms.length y.c (du y.ms)::L)
section
variable{w:aiA}{L:List aE}{g:ah}{A:Int->Int->aD}{G:Int->Int->Int}{t:Int}{Q:List Int->Prop}{m k b:Nat}{x:GA}{T:TypeId}{v:Value}{st:List Int}{r0:TrR}{y0:TrP}{H:Hp}
theorem aei(n:Nat)(l:List Int)(ms:List aD):V6 g A G t n l ms=trB g A G t (match n with|0=>λ_ _=>none|n+1=>V6 g A G t n) l ms:=by cases n<;>rfl
theorem aej(hT:afT T v H A G)(hQ:Saf g A G t Q)(hb:lq g)(hs:∀h,aF L h->Ea h k st/\sub H h/\gR h g x)(h0:TrI g A G t Q m k b x T v st r0 L y0 w):
  ρ 220 [vP (some (aM b)),iI t] w λu w'=>
   (r0=none/\u=.tuple #[vB false,iI 15]/\St w' L)\/
   ∃(y:TrP)(f:Bool),r0=some (f,y.ms,st.take y.kept++y.ab)/\u=.tuple #[vB f,iI 0]/\y.kept<=st.length/\y.kept+y.ab.length<=64/\y.ms.length<=1025/\Q (st.take y.kept++y.ab)/\
    St w' (JX m k y.kept y.ab::az b (Qt m x T v y.o y.ms.length y.c)::own 2 y.o y.ms.length y.c (du y.ms)::L):=by
 refine xH ⟨λu=>∃y,TrI g A G t Q m k b x T v st r0 L y u,V4 (TrI g A G t Q m k b x T v st r0 L) λy=>1024-y.ms.length,⟨y0,h0⟩,?_⟩;intro _ w1 h1;obtain⟨y,⟨kl,hl,ml,q,e,h⟩,cx⟩:=B5 (f:=λy:TrP=>1024-y.ms.length) h1;clear h0 h1;have b6:(st.take y.kept++y.ab).length=y.kept+y.ab.length:=by simp_all
 have hL:∀h,aF (az b (Qt m x T v y.o y.ms.length y.c)::own 2 y.o y.ms.length y.c (du y.ms)::L) h->Ea h k st:=λh hh=>(hs _ (aj (aj hh))).1;obtain⟨a,ha⟩:∃a,a=A (oO (st.take y.kept++y.ab)) t:=⟨_,rfl⟩;have Z:∀v∈bG a,aK v=true:=λv hv=>by simp[bG] at hv;rcases hv with rfl|rfl<;>rfl
 refine⟨λo u=>∃V,o=some (aM V)/\St u (az V (bG a)::JX m k y.kept y.ab::az b (Qt m x T v y.o y.ms.length y.c)::own 2 y.o y.ms.length y.c (du y.ms)::L),λw2 hd=>?_,?_⟩
 ·have h2:=h.drawn hd
  refine⟨λu=>aq (hp u) (aM b) (Qt m x T v y.o y.ms.length y.c),af 1 h2.l,T,v,λu r=>r.cell sZZ (j:=6) rfl,some (aM m),λu r=>r.cell0 sZZ,?_,?_⟩
  ·refine(XC h2 hL kl ω).mono ?_;rintro _ w5⟨rfl,e5⟩;have h5:=h2.eq e5
   refine⟨_,rfl,af 1 h5.l,?_,?_⟩
   ·obtain⟨g',cs,c1,c2⟩:=hT.act w5 (oO (st.take y.kept++y.ab)) t (hs _ h5.tail.tail.tail).2.1;refine⟨g',cs,c1,c2.mono ?_⟩;rintro _ w6⟨rfl,g6⟩;rw[<-ha];exact⟨_,_,rfl,ag (h5.gr g6) λV w7 h7=>⟨af 2 h7.l,aL h7 rfl Z λw8 Z=>⟨V,rfl,Z⟩⟩⟩
   ·refine ag h5 λk2 w9 h9=>⟨af 2 h9.l,?_⟩;obtain⟨g',cs,c1,c2⟩:=hT.act w9 (oO (st.take y.kept++y.ab)) t (hs _ h9.tail.tail.tail.tail).2.1;refine⟨g',cs,c1,c2.mono ?_⟩;rintro _ ch⟨rfl,c5⟩;rw[<-ha];exact⟨_,_,rfl,aL (h9.gr c5) rfl Z λw8 Z=>⟨k2,rfl,Z⟩⟩
  ·refine ag h2 λk3 cC a5=>⟨af 2 a5.l,(XC a5.swap (λh hh=>hL h (aj hh)) kl ω).mono ?_⟩;rintro _ b4⟨rfl,bc⟩;have a6:=a5.eq bc;obtain⟨g',cs,c1,c2⟩:=hT.act b4 (oO (st.take y.kept++y.ab)) t (hs _ a6.tail.tail.tail.tail).2.1;refine⟨_,rfl,af 2 a6.l,g',cs,c1,c2.mono ?_⟩;rintro _ cT⟨rfl,bb⟩;rw[<-ha];exact⟨_,_,rfl,aL (a6.gr bb) rfl Z λw8 Z=>⟨k3,rfl,Z⟩⟩
 ·rintro _ _ cI⟨V,rfl,h⟩
  have app:∀{u:aiA}{K:aiA->Prop},St u (az V (bG a)::JX m k y.kept y.ab::az b (Qt m x T v y.o y.ms.length y.c)::own 2 y.o y.ms.length y.c (du y.ms)::L)->
    (∀u' O J,St u' (JX m k y.kept y.ab::az b (Qt m x T v O (y.ms++[a]).length J)::own 2 O (y.ms++[a]).length J (du (y.ms++[a]))::az V (bG a)::L)->K u')->
    ∀u1,drawn u u1->∃I:aiA->Prop,I u1/\∃o4 k4 k5,(∀b2,I b2->b2.cell? ((aM b).add 7)=some (vS o4 k4 k5))/\∃al av,(∀b1,I b1->rowAt b1 (aM V) 0 2=some [iI al,iI av])/\
     new u1 (oC [iI al,iI av] rq) λk6 a7=>I a7/\rS (fW bw (Array.mk [vS o4 k4 k5,vS (some (aM k6)) 1 1])) a7 λv8 a0=>∃o5 k7 k8,v8=vS o5 k7 k8/\I a0/\st1 a0 ((aM b).add 7) (vS o5 k7 k8) K:=by
   intro u K h hK u1 hd;have h:=h.drawn hd;refine⟨λz=>aq (hp z) (aM b) (Qt m x T v y.o y.ms.length y.c)/\aq (hp z) (aM V) (bG a),⟨af 2 h.l,af 0 h.l⟩,_,_,_,λz r=>r.1.cell sZZ (j:=7) rfl,_,_,λz r=>r.2.at sZZ rfl,ag h λk6 a7 h=>⟨⟨af 3 h.l,af 1 h.l⟩,?_⟩⟩;refine(aS (us:=du y.ms) (vs:=bG a) aT (rfl:ai Ty _=.slice _) (rfl:ai Ty _=.slice _) rfl rfl rfl (h.pick 5 [0,4,1,2,3]) rfl Z (by grind) ω).mono ?_;rintro _ a0⟨O,J,rfl,h⟩;refine⟨_,_,_,rfl,⟨af 4 h.l,af 2 h.l⟩,?_⟩;rw[ak];have h:St a0 (az b (Qt m x T v y.o y.ms.length y.c)::own 2 O (y.ms.length+1) J (du y.ms++bG a)::JX m k y.kept y.ab::az V (bG a)::L):=h.pick 5 [4,0,3,2];refine aR h σ λcN h=>hK _ O J ?_;have e:du (y.ms++[a])=du y.ms++bG a:=by simp[du]
   rw[e,agV,ahY];exact h.pick 4 [2,0,1,3]
  rw[aei] at e;unfold trB at e;rw[<-ha] at e
  refine⟨a.kind,h.cell 0,ae (λh1=>?_) λh1=>ae (λh2=>?_) λh2=>ae (λh3=>?_) λh3=>?_⟩
  ·have hk:a.kind=1:=by grind
   rw[ag0 hk] at e;refine⟨some (aM m),(af 2 h.l).cell0 sZZ,(HS h.swap ω ω).mono ?_⟩;rintro _ d4⟨rfl,cc⟩;have h:=h.eq cc
   refine⟨_,rfl,ae (λY=>?_) λY=>?_⟩
   ·have Y:=agQ Y;rw[ag0 ω] at e;exact .inl ⟨e.symm,rfl,h.tail.tail.tail.tail⟩
   ·have Y:=agO Y;rw[agW ω] at e;exact app h λw' O J h=>.inr ⟨⟨y.kept,y.ab,y.ms++[a],O,J⟩,true,e.symm,rfl,kl,hl,by simp_all,q,h.pick 4 [0,1,2]⟩
  ·have W:¬a.kind=1:=by grind
   have hk:a.kind=3:=by grind
   rw[agW W,ag0 hk] at e;exact app h λw' O J h=>.inr ⟨⟨y.kept,y.ab,y.ms++[a],O,J⟩,true,e.symm,rfl,kl,hl,by simp_all,q,h.pick 4 [0,1,2]⟩
  ·have W:¬a.kind=1:=by grind
   have a4:¬a.kind=3:=by grind
   have hk:a.kind=2:=by grind
   rw[agW W,agW a4,ag0 hk] at e;obtain⟨p,p0,p1,p2,p4,p5,p3⟩:=hQ.red _ q (by simp_all);rw[<-ha] at p0 p1;rw[p1] at e;dsimp only at e
   refine⟨_,_,_,(af 2 h.l).cell sZZ (j:=7) rfl,ae (λY=>?_) λY=>?_⟩
   ·have Y:=agQ Y;have h7:1024-y.ms.length=0:=ω
    rw[h7] at e;dsimp only at e;exact .inl ⟨by grind,rfl,h.tail.tail.tail.tail⟩
   have Y:=agO Y;refine app h λcg O J h=>λck hd=>?_;have h:=h.drawn hd;obtain⟨n1,b5⟩:∃n1,n1=(y.ms++[a]).length:=⟨_,rfl⟩;have d0:n1=y.ms.length+1:=by simp_all
   rw[<-b5] at h;obtain⟨h0,am,h⟩:=St.mP [_,_,_,_] (M:=L) h;obtain⟨sk,sH,hg⟩:=hs h0 am;obtain⟨i,hi⟩:∃i:Nat,a.to=i:=⟨a.to.toNat,ω⟩;rw[hi,agZ] at p1;obtain⟨ad,vs,c7,b3,pa,pl,pc,rfl,_,bz⟩:=hg.p.2 i p p1;have c6:i<x.pl:=by rw[<-hg.p.1];grind
   have b7:p.right.length=pl:=bz.1;have be:(g.T:Int)=x.tl:=by have:=hg.t.1;show(g.terms.length:Int)=_;omega
   have cp:x.tl<=17592186044416:=by rw[<-hg.t.1];exact hb.1
   refine⟨λz=>aq (hp z) (aM b) (Qt m x T v O n1 J)/\aq (hp z) (aM V) (bG a)/\sub h0 (hp z),⟨af 1 h.l,af 3 h.l,aC 4 h.l⟩,x.pa,x.pl,x.pc,λz r=>by rw[add_add];exact r.1.cell sZZ (j:=5) rfl,a.to,λz r=>r.2.1.cell sZZ (j:=1) rfl,?_⟩;rw[hi];refine aO c7 c6 ⟨p.left,pa,pl,pc,p.level,λz r=>(b3.mono r.2.2).at sZZ rfl,ag h λa8 d5 h=>⟨⟨af 2 h.l,af 4 h.l,aC 5 h.l⟩,aL h rfl (by intro v hv;simp at hv;rcases hv with rfl|rfl|rfl<;>rfl) λd3 h=>λci hd=>?_⟩⟩;have h:=h.drawn hd;refine⟨λz=>aq (hp z) (aM b) (Qt m x T v O n1 J)/\aq (hp z) (aM a8) [iI p.left,vS pa pl pc,iI p.level],⟨af 2 h.l,af 0 h.l⟩,some (aM m),λz r=>r.1.cell0 sZZ,pa,pl,pc,λz r=>r.2.cell sZZ (j:=1) rfl,?_⟩;have bi:pl<=y.kept+y.ab.length:=ω
   refine(afC (n:=pl) h.swap ω ω bi).mono ?_;rintro _ cz⟨rfl,h⟩;obtain⟨U,aa⟩:∃U,U=y.kept-(pl-y.ab.length):=⟨_,rfl⟩;obtain⟨ab,a9⟩:∃ab,ab=y.ab.take (y.ab.length-pl):=⟨_,rfl⟩;rw[<-aa,<-a9] at h;have cA:ab.length=y.ab.length-pl:=by grind
   have c9:(st.take y.kept++y.ab).take ((st.take y.kept++y.ab).length-p.right.length)=st.take U++ab:=by
    rw[b6,b7,List.take_append,aa,a9,List.take_take,ahl]
    grind
   have bl:(st.take y.kept++y.ab).length-p.right.length=U+ab.length:=ω
   rw[c9] at e p3;rw[bl] at e;have bT:∀h,aF (az a8 [iI p.left,vS pa pl pc,iI p.level]::az b (Qt m x T v O n1 J)::own 2 O n1 J (du (y.ms++[a]))::az V (bG a)::[has h0]) h->Ea h k st:=λh hh=>sk.mono (aC 4 hh);have back:∀{u:aiA}{X:List aE},St u (X++[has h0])->St u (X++L):=λh=>h.on am
   refine⟨_,rfl,λz u=>(64<=U+ab.length/\z=15/\St u L)\/(U+ab.length<64/\z=0/\St u (JX m k U (ab++[G (oO (st.take U++ab)) (p.left-g.T)])::az b (Qt m x T v O n1 J)::own 2 O n1 J (du (y.ms++[a]))::L)),λcW hd=>?_,?_⟩
   ·have h:=h.drawn hd;refine⟨λz=>aq (hp z) (aM b) (Qt m x T v O n1 J)/\aq (hp z) (aM a8) [iI p.left,vS pa pl pc,iI p.level],⟨af 2 h.l,af 1 h.l⟩,some (aM m),λz r=>r.1.cell0 sZZ,T,v,λz r=>r.1.cell sZZ (j:=6) rfl,some (aM m),λz r=>r.1.cell0 sZZ,p.left,λz r=>r.2.cell0 sZZ,x.ta,x.tl,x.tc,λz r=>r.1.cell sZZ (j:=1) rfl,ξ,?_⟩;refine(XC h bT ω ω).mono ?_;rintro _ bP⟨rfl,c8⟩;have h:=h.eq c8;obtain⟨g',cs,c1,c2⟩:=hT.tgt bP (oO (st.take U++ab)) (p.left-x.tl) (sH.trans (aC 5 h.l));refine⟨_,rfl,⟨af 2 h.l,af 1 h.l⟩,g',cs,c1,c2.mono ?_⟩;rintro _ cu⟨rfl,ba⟩;have h:=h.gr ba;rw[<-be];refine⟨_,rfl,⟨af 2 h.l,af 1 h.l⟩,(adI (z:=G (oO (st.take U++ab)) (p.left-g.T)) h ω ω).mono ?_⟩
    rintro _ cF (⟨f1,rfl,f2⟩|⟨f1,rfl,h⟩)
    ·have h:=h.eq f2;exact⟨_,rfl,⟨af 2 h.l,af 1 h.l⟩,.inl ⟨f1,rfl,back (X:=[]) h.tail.tail.tail.tail.tail⟩⟩
    ·exact⟨_,rfl,⟨af 2 h.l,af 1 h.l⟩,.inr ⟨f1,rfl,back (X:=[_,_,_]) (h.pick 5 [0,2,3])⟩⟩
   ·rintro _ _ cd (⟨f1,rfl,h⟩|⟨f1,rfl,h⟩)
    ·rw[ag0 f1] at e;exact fM rfl (.inl ⟨e.symm,rfl,h⟩)
    ·rw[agW ω] at e;have hf:1024-y.ms.length=(1024-(y.ms++[a]).length)+1:=ω
     rw[hf] at e;dsimp only at e
     have hI:TrI g A G t Q m k b x T v st r0 L ⟨U,ab++[G (oO (st.take U++ab)) (p.left-g.T)],y.ms++[a],O,J⟩ cd:=by
      refine⟨by grind,by grind,by grind,?_,?_,?_⟩
      ·show Q (st.take U++(ab++[_]));rw[<-ag3];exact p3
      ·grind
      grind
     refine bB rfl ⟨⟨_,hI⟩,?_⟩;have h1:=AA (f:=λy:TrP=>1024-y.ms.length) hI
     grind
  ·have W:¬a.kind=1:=by grind
   have a4:¬a.kind=3:=by grind
   have ca:¬a.kind=2:=by grind
   rw[agW W,agW a4,agW ca] at e;exact .inr ⟨⟨y.kept,y.ab,y.ms,y.o,y.c⟩,false,e.symm,rfl,kl,hl,by grind,q,h.tail⟩
end
section
variable{g:ah}{nn:List Bool}{ss:List SQ}
theorem TO(hc:aw g)(hA:bC g ss){q m d:Nat}{r:SQ}{p:aJ}{s:Int}(hq:ss[q]? =some r)(hy:vF g r.1.2 ⟨(m:Int),(d:Int)⟩)(hp:g.prods[m]? =some p)(hs:p.right[d]? =some s)(hT:(g.T:Int)<=s):∃(v j:Nat)(r':SQ),(bV g ss)[v]? =some ⟨(q:Int),s⟩/\dh ss q s=some (j:Int)/\ss[j]? =some r'/\(⟨(m:Int),((d+1:Nat):Int)⟩:au)∈r'.1.2:=by
 obtain⟨j,r',J,O,u⟩:=oM hc hA hq hy (ga hp hs) ω
 grind[Yt]
end
inductive Ll (g:ah) (ss:List SQ):Nat->Nat->Nat->Nat->Prop
 |st:Ll g ss 0 0 0 0
 |sh (q m d j x:Nat) (p:aJ) (s:Int):g.prods[m]? =some p->p.right[d]? =some s->dh ss q s=some (j:Int)->Ll g ss q m d x->Ll g ss j m (d+1) x
 |fs (q m d n x:Nat) (p p':aJ) (s:Int) (r:SQ):ss[q]? =some r->vF g r.1.2 ⟨(m:Int),(d:Int)⟩->g.prods[m]? =some p->p.right[d]? =some s->g.prods[n]? =some p'->p'.left=s->uT g (p.right.drop (d+1)) x->Ll g ss q n 0 x
 |up (q m d n x:Nat) (p p':aJ) (s:Int):g.prods[m]? =some p->p.right[d]? =some s->g.prods[n]? =some p'->p'.left=s->MT g (p.right.drop (d+1))->Ll g ss q m d x->Ll g ss q n 0 x
section
variable{g:ah}{nn:List Bool}{ss:List SQ}
theorem Ll.PK(hc:aw g)(hA:bC g ss){m i x:Nat}{p:aJ}(hp:g.prods[m]? =some p)(h:Ll g ss i m 0 x)(hi:i<ss.length):∀(d q:Nat),d<=p.right.length->dw ss (i:Int) (p.right.take d)=(q:Int)->Ll g ss q m d x/\q<ss.length
 |0,q,_,hw=>by
  rw[List.take_zero] at hw
  have hw:(i:Int)=q:=hw
  grind
 |d+1,q,hd,hw=>by
  have hs:p.right[d]? =some p.right[d]:=agM ω
  rw[b_ hs,CC (λi s j h=>d_ hc hA h) _ _ _ (ahu _) ω] at hw
  obtain⟨k,hk⟩:∃k,k=dw ss (i:Int) (p.right.take d):=⟨_,rfl⟩
  rw[<-hk] at hw
  by_cases h0:k=-1
  ·omega
  ·rw[agW h0] at hw
   have hk0:0<=k:=by
    rcases CB (ss:=ss) (λi s j h=>d_ hc hA h) (p.right.take d) i (ahu _) ω with h|h
    ·omega
    omega
   obtain⟨k',rfl⟩:∃k':Nat,k=k':=⟨k.toNat,ω⟩
   obtain⟨ih,ihl⟩:=Ll.PK hc hA hp h hi d k' ω hk.symm
   rw[mD,agZ] at hw
   cases hn:dh ss k' p.right[d] with
   |none=>simp_all
   |some j=>
    rw[hn] at hw
    have hw:dw ss j []=(q:Int):=hw
    have hj:j=q:=hw
    subst hj
    obtain⟨_,_,_,_,_,_,hto⟩:=lB hn
    exact⟨.sh k' m d q x p _ hp hs hn ih,(d_ hc hA hn).2 |> λh=>ω⟩
theorem aek(hc:aw g){p:aJ}(hp:p∈g.prods){s:Int}(hs:s∈p.right):s≠g.T:=by
 obtain⟨_,V,u,X,J,W,O,_⟩:=hc;obtain⟨n,hn⟩:=ahb hp;cases n with
 |zero=>
  rw[J] at hn;cases hn;rw[O,ag_] at hs;have:=u.2.2.2.2.1;omega
 |succ n=>
  have U:p∈g.prods.drop 1:=by
   refine agL (i:=n) ?_
   simp_all
  have:=(u.2.2.1 p U).2 s hs
  grind[nV]
theorem M8(hc:aw g){n:Nat}{p p':aJ}{s:Int}(hp:p∈g.prods)(hs:s∈p.right)(hn:g.prods[n]? =some p')(hl:p'.left=s):n≠0:=λh=>by
 subst h
 have h:=aek hc hp hs
 obtain⟨_,_,_,O,J,u,_⟩:=hc
 simp_all
theorem abB(hc:aw g)(hA:bC g ss)(hn:lE g nn){v x:Nat}(h:iq (Bh g nn ss) (Tz g nn ss) v x):∀(i:Nat) t,(bV g ss)[v]? =some t->t.st=i->∀(n:Nat) p',g.prods[n]? =some p'->p'.left=t.sym->Ll g ss i n 0 x:=by
 refine iq.least (Q:=λv x=>∀(i:Nat) t,(bV g ss)[v]? =some t->t.st=i->∀(n:Nat) p',g.prods[n]? =some p'->p'.left=t.sym->Ll g ss i n 0 x) (λv x hx i t ht hi n p' U hl=>?_) (λv u x hu ih i t ht hi n p' U hl=>?_) h
 ·rw[RM (agN.1 ht).1] at hx;obtain⟨x',e,_,hh⟩:=mF.1 hx;have:x'=x:=ω
  subst this;obtain⟨X,j,q,r,f1,hq,f3,f4,f5,hr,a5⟩:=Bk hc hA ht;have:X=i:=ω
  subst this
  rcases abk hc hA hn hh X j t ht f1 f4 with⟨rfl,rfl⟩|W
  ·have hi:X=0:=by grind
   subst hi;obtain⟨_,_,_,p0,a0,a6,a7,_⟩:=hc;exact .up 0 0 0 n 0 p0 p' _ a0 (by simp_all) U hl (λs Y=>by simp_all) .st
  ·obtain⟨z,hz,hf⟩:=W.item hc hA r hr;rw[a5] at hz;obtain⟨y,h1,Z,rfl⟩:=dj.1 hz;obtain⟨p,hp,Y,_⟩:=yd (y:=y) (by rw[Z];omega);obtain⟨hT,hN,hP,a8,_,_⟩:=hc.cK;have hK:=(ig hA hq).1;have O:=h1.fit ((gN (g:=g) ω X).fit _ (agL hK));have hd:(y.dot+1).toNat=y.dot.toNat+1:=by have:=O.2.1;omega
   unfold rest at hf;rw[show g.prods[((⟨y.prod,y.dot+1⟩:au).prod).toNat]? =some p from hp] at hf;have hf:uT g (p.right.drop (y.dot+1).toNat) x':=hf;rw[hd] at hf;rw[Z] at Y;refine .fs X y.prod.toNat y.dot.toNat n x' p p' _ q hq ?_ hp Y U hl hf
   have e:(⟨(y.prod.toNat:Int),(y.dot.toNat:Int)⟩:au)=y:=by
    have a1:=O.1;have a2:=O.2.1;cases y;grind
   simp_all
 ·obtain⟨h1,Z,J⟩:=Ys.1 hu;have V:(bV g ss)[u]? =some (bV g ss)[u]:=agM Z;unfold CH at J;rw[V] at J;simp only[List.any_eq_true] at J;obtain⟨m,hm,J⟩:=J;rw[ag1] at J;obtain⟨_,J⟩:=J;cases hp:g.prods[m]? with
  |none=>simp_all
  |some p=>
   rw[hp] at J;simp only[ag1,List.any_eq_true,ahc] at J;obtain⟨h4,k,hk,W,h6⟩:=J;have hk:=ahd.1 hk;rw[ht] at W;have W:=Option.some.inj W;subst W;obtain⟨i0,j0,q0,_,f1,a4,_⟩:=Bk hc hA V;have Y:p.right[k]? =some (p.right.getD k 0):=by simp_all
   have hi:dw ss (bV g ss)[u].st (p.right.take k)=(i:Int):=hi;rw[f1] at hi;have hb:=ih i0 _ V f1 m p hp h4;have:=(hb.PK hc hA hp (agN.1 a4).1 k i ω hi).1;exact .up i m k n x p p' _ hp Y U hl ((Pz hc hn).1 h6) this
structure agB(g:ah)(nn:List Bool)(ss:List SQ)(q m d x:Nat):Prop where
 it:∃r,ss[q]? =some r/\vF g r.1.2 ⟨(m:Int),(d:Int)⟩
 pr:∃p,g.prods[m]? =some p/\d<=p.right.length/\(m=0->x=0/\dw ss 0 (p.right.take d)=(q:Int))/\
  (m≠0->∃(i v:Nat),(bV g ss)[v]? =some ⟨(i:Int),p.left⟩/\dw ss (i:Int) (p.right.take d)=(q:Int)/\iq (Bh g nn ss) (Tz g nn ss) v x)
theorem Ll.inv(hc:aw g)(hA:bC g ss)(hn:lE g nn){q m d x:Nat}(h:Ll g ss q m d x):agB g nn ss q m d x:=by
 have a9:=hc;obtain⟨_,_,aa,p0,a0,al,a5,_⟩:=a9;have ad:=aa.2.2.2.2.1;have a4:=hA.pos
 induction h with
 |st=>
  obtain⟨r,U⟩:∃r,ss[0]? =some r:=⟨_,agM a4⟩;have hK:=(ig hA U).1
  have e:r.1.2=[⟨0,0⟩]:=by
   have:(fJ g 0).1[0]? =some [⟨0,0⟩]:=rfl
   simp_all
  exact⟨⟨r,U,.base (by simp_all)⟩,p0,a0,agP _,λ_=>⟨rfl,rfl⟩,λh=>absurd rfl h⟩
 |sh q m d j x p s hp O hj _ ih=>
  obtain⟨⟨r,U,J⟩,p',a7,hd,h0,h1⟩:=ih;rw[hp] at a7;cases a7;have V:=(agN.1 O).1;have av:=hc.sym (agL hp) (agL O);obtain⟨j',r',e1,e2,e3⟩:=oM hc hA U J (ga hp O) ω;rw[hj] at e1;have:j=j':=by grind
  subst this
  have step:∀i:Nat,i<ss.length->dw ss (i:Int) (p.right.take d)=(q:Int)->dw ss (i:Int) (p.right.take (d+1))=(j:Int):=λi hi hw=>by
   rw[b_ O,CC (λi s j h=>d_ hc hA h) _ _ _ (ahu _) ω,hw,agW ω,mD,agZ,hj];rfl
  refine⟨⟨r',e2,.base (by simp_all)⟩,p,hp,V,λW=>⟨(h0 W).1,?_⟩,λW=>?_⟩
  ·grind
  ·obtain⟨i,v,q1,q2,q3⟩:=h1 W;obtain⟨i',_,q',_,f1,b1,_⟩:=Bk hc hA q1
   grind
 |fs q m d n x p p' s r U J hp O hn' hl hf=>
  have X:(g.T:Int)<=s:=by rw[<-hl];exact hc.left (agL hn')
  obtain⟨v,j,r',Z,f1,f2,f3⟩:=TO hc hA U J hp O X;have Y:=M8 hc (agL hp) (agL O) hn' hl;refine⟨⟨r,U,.step J (by grind[ga]) hn' (by simp_all[ga])⟩,p',hn',agP _,λh=>absurd h Y,λ_=>⟨q,v,by simp_all,rfl,iq.iff.2 (.inl ?_)⟩⟩;have hh:=(Kb.ad9 hc hA hp f2 (.base f3) hf).has hc hA hn v q _ Z rfl f1;have am:=afR hc hA hh;obtain⟨sT,_⟩:=hc.cK;rw[RM (agN.1 Z).1];exact mF.2 ⟨x,rfl,ω,hh⟩
 |up q m d n x p p' s hp O hn' hl hnu _ ih=>
  obtain⟨⟨r,U,J⟩,p2,a6,hd,h0,h1⟩:=ih;rw[hp] at a6;cases a6;have X:(g.T:Int)<=s:=by rw[<-hl];exact hc.left (agL hn')
  obtain⟨v,j,r',Z,f1,f2,f3⟩:=TO hc hA U J hp O X;have Y:=M8 hc (agL hp) (agL O) hn' hl;refine⟨⟨r,U,.step J (by grind[ga]) hn' (by simp_all[ga])⟩,p',hn',agP _,λh=>absurd h Y,λ_=>⟨q,v,by simp_all,rfl,?_⟩⟩
  by_cases W:m=0
  ·subst W;obtain⟨rfl,hw⟩:=h0 rfl;rw[a0] at hp;cases hp;have V:=(agN.1 O).1;rw[a5] at V;have a8:d=0:=by simp_all
   subst a8;have hq:(0:Int)=q:=hw;have hq:q=0:=ω
   subst hq;rw[a5] at O;have O:g.start=s:=Option.some.inj O;subst O;obtain⟨sT,_⟩:=hc.cK;have hd:iq (xY g nn ss) (wj g ss) v 0:=iq.iff.2 (.inl ((M4 hc hA Z rfl f1).2 (.inl ⟨rfl,rfl⟩)));refine iq.iff.2 (.inl ?_);rw[RM (agN.1 Z).1];exact mF.2 ⟨0,rfl,ω,hd⟩
  ·obtain⟨i,u,hu,hw,hh⟩:=h1 W;refine iq.iff.2 (.inr ⟨u,Ys.2 ⟨(agN.1 Z).1,(agN.1 hu).1,?_⟩,hh⟩);unfold CH;rw[hu];simp only[List.any_eq_true,ahd];refine⟨m,(agN.1 hp).1,?_⟩;rw[aht W,aiv,hp];simp only[decide_true,aiv,List.any_eq_true,ahd,ag1,ahc]
   grind[List.getElem?_eq_some_iff,Pz]
theorem PL(hc:aw g)(hA:bC g ss)(hn:lE g nn){q m:Nat}{p:aJ}(hp:g.prods[m]? =some p)(hm:m≠0){z:Int}:z∈(lI g (Pw g nn ss) ⟨(q:Int),(m:Int),dz (bV g ss).length (fe g ss q m)⟩).tm↔∃x:Nat,z=x/\x<g.T/\Ll g ss q m p.right.length x:=by
 rw[PB];refine exists_congr λx=>and_congr_right λ_=>and_congr_right λhx=>?_
 constructor
 ·rintro⟨t,ht,hf⟩;obtain⟨u,rfl,Y,hb⟩:=gl.1 ht;have ht:(bV g ss)[u]? =some (bV g ss)[u]:=agM Y;obtain⟨V,p',J,hw⟩:=(yK ht).1 hb;rw[hp] at J;cases J;obtain⟨_,p2,O,hl⟩:=qU.1 V;rw[hp] at O;cases O;rw[agZ,Yu Y] at hf;obtain⟨x',e,_,hh⟩:=mF.1 hf;have:x'=x:=ω
  subst this;obtain⟨i,_,q0,_,f1,U,_⟩:=Bk hc hA ht;have h0:=abB hc hA hn hh i _ ht f1 m p hp hl;rw[f1] at hw;exact(h0.PK hc hA hp (agN.1 U).1 p.right.length q (agT _) (by simp_all)).1
 ·intro h;obtain⟨_,p',J,_,_,h1⟩:=h.inv hc hA hn;rw[hp] at J;cases J;obtain⟨i,v,W,Z,q3⟩:=h1 hm;rw[ag9] at Z;have X:=(agN.1 W).1;obtain⟨sT,_⟩:=hc.cK;refine⟨(v:Int),gl.2 ⟨v,rfl,X,(yK W).2 ⟨qU.2 ⟨ω,p,hp,rfl⟩,p,hp,Z⟩⟩,?_⟩;rw[agZ,Yu X];exact mF.2 ⟨x,rfl,ω,q3⟩
end
inductive Tr where
 |lf (s:Int) (k:Nat)
 |nd (n:Nat) (l:List Tr)
abbrev Tk:=Int×Nat
inductive Dv (g:ah):List Tr->List Int->List Tk->Prop
 |nil:Dv g [] [] []
 |lf (s:Int) (k:Nat) (l:List Tr) (r:List Int) (y:List Tk):0<=s->s<g.T->Dv g l r y->Dv g (.lf s k::l) (s::r) ((s,k)::y)
 |nd (n:Nat) (p:aJ) (ks l:List Tr) (r:List Int) (z y:List Tk):g.prods[n]? =some p->Dv g ks p.right z->Dv g l r y->Dv g (.nd n ks::l) (p.left::r) (z++y)
abbrev yN:=Int×Nat×Tr
def b8:List yN->Nat
 |[]=>0
 |e::_=>e.2.1
def oP(ss:List SQ):List yN->Prop
 |[]=>True
 |e::l=>dh ss (b8 l) e.1=some (e.2.1:Int)/\oP ss l
abbrev YP:=List yN×List Tk
def IM(g:ah)(A:Nat->Int->aD)(G:Nat->Int->Nat):YP->Option YP
 |(l,[])=>none
 |(l,(s,k)::y)=>
  if(A (b8 l) s).kind=1 then some ((s,(A (b8 l) s).to.toNat,.lf s k)::l,y)
  else if(A (b8 l) s).kind=2 then
   match g.prods[(A (b8 l) s).to.toNat]? with
   |none=>none
   |some p=>some ((p.left,G (b8 (l.drop p.right.length)) p.left,.nd (A (b8 l) s).to.toNat ((l.take p.right.length).map (·.2.2)).reverse)::l.drop p.right.length,(s,k)::y)
  else none
inductive Rn (g:ah) (A:Nat->Int->aD) (G:Nat->Int->Nat):YP->YP->Prop
 |refl (c:YP):Rn g A G c c
 |step (c d e:YP):IM g A G c=some d->Rn g A G d e->Rn g A G c e
section
variable{g:ah}{nn:List Bool}{ss:List SQ}{A:Nat->Int->aD}{G:Nat->Int->Nat}
theorem Rn.trans{c d e:YP}(h:Rn g A G c d)(h':Rn g A G d e):Rn g A G c e:=by
 induction h with
 |refl c=>exact h'
 |step c d e h1 _ ih=>exact .step _ _ _ h1 (ih h')
theorem Rn.det{c d e:YP}(h:Rn g A G c d)(h':Rn g A G c e)(hd:IM g A G d=none)(he:IM g A G e=none):d=e:=by
 induction h with
 |refl c=>
  cases h' with
  |refl=>rfl
  |step _ _ _ h1 _=>rw[hd] at h1;cases h1
 |step c d' d h1 _ ih=>
  cases h' with
  |refl=>rw[he] at h1;cases h1
  |step _ _ _ h2 h3=>rw[h1] at h2;cases h2;exact ih h3 hd
theorem Dv.len{l:List Tr}{r:List Int}{y:List Tk}(h:Dv g l r y):l.length=r.length:=by
 induction h with
 |nil=>rfl
 |lf=>simp_all
 |nd=>simp_all
theorem Dv.nul{l:List Tr}{r:List Int}{y:List Tk}(h:Dv g l r y)(hy:y=[]):MT g r:=by
 induction h with
 |nil=>exactλs u=>by cases u
 |lf=>cases hy
 |nd n p ks l r z y hp _ _ ih1 ih2=>
  obtain⟨rfl,rfl⟩:=List.append_eq_nil_iff.1 hy;intro s u
  rcases ag6.1 u with rfl|u
  ·exact .mk p (agL hp) (ih1 rfl)
  ·exact ih2 rfl s u
theorem Dv.fst{l:List Tr}{r:List Int}{y:List Tk}(h:Dv g l r y):∀{s:Int}{k:Nat}{v:List Tk},y=(s,k)::v->uT g r s.toNat/\0<=s/\s<g.T:=by
 induction h with
 |nil=>intro s k v e;cases e
 |lf s k l r y h0 hT _ _=>
  intro s' u v e;cases e;refine⟨uT.head ?_,h0,hT⟩;have:=U_.tm (g:=g) s.toNat ω;rwa [Int.toNat_of_nonneg h0] at this
 |nd n p ks l r z y hp hz _ ih1 ih2=>
  intro s k v e;cases z with
  |nil=>
   have h:=ih2 e;exact⟨uT.skip (.mk p (agL hp) (hz.nul rfl)) h.1,h.2⟩
  |cons a z=>
   cases e;have h:=ih1 rfl;exact⟨uT.head (uT.left (agL hp) h.1),h.2⟩
structure TP(g:ah)(nn:List Bool)(ss:List SQ)(A:Nat->Int->aD)(G:Nat->Int->Nat):Prop where
 one:∀(q t:Nat)(a:aD),q<ss.length->t<g.T->a∈ee g nn ss q t->A q t=a
 gt:∀(q j:Nat)(s:Int),(g.T:Int)<=s->dh ss q s=some (j:Int)->G q s=j
theorem RS{q:Nat}{s j:Int}(h:dh ss q s=some j):q<ss.length:=by
 obtain⟨r,_,_,u,_⟩:=lB h;exact(agN.1 u).1
theorem TP.shift(hC:TP g nn ss A G){q j s:Nat}(hs:s<g.T)(h:dh ss q (s:Int)=some (j:Int)):A q s=⟨1,j⟩:=by
 refine hC.one q s _ (RS h) hs ?_;unfold ee TF;rw[h];simp
theorem abC(hc:aw g)(hA:bC g ss)(hn:lE g nn){q m x:Nat}{p:aJ}(hp:g.prods[m]? =some p)(hm:m≠0)(hx:x<g.T)(h:Ll g ss q m p.right.length x):(⟨2,(m:Int)⟩:aD)∈NC (dt g nn ss) q x:=by
 have O:=(PL hc hA hn hp hm (z:=(x:Int))).2 ⟨x,rfl,hx,h⟩;obtain⟨r,U,_⟩:=(h.inv hc hA hn).it;have V:=(agN.1 U).1;have J:=(agN.1 hp).1
 have u:dz (bV g ss).length (fe g ss q m)≠[]:=λe=>by
  obtain⟨_,_,_,t,ht,_⟩:=PB.1 O;rw[e] at ht;cases ht
 unfold NC
 refine agY.2 ⟨lI g (Pw g nn ss) ⟨(q:Int),(m:Int),dz (bV g ss).length (fe g ss q m)⟩,ahi.2 ⟨?_,?_⟩,rfl⟩
 ·unfold dt uV gm;refine agY.2 ⟨_,ahI.2 ⟨q,ahd.2 V,ahI.2 ⟨m,ahd.2 J,?_⟩⟩,rfl⟩;unfold xZ;rw[agW u];simp
 ·have:(lI g (Pw g nn ss) ⟨(q:Int),(m:Int),dz (bV g ss).length (fe g ss q m)⟩).st=(q:Int):=rfl;rw[aht this,aht O];rfl
theorem TP.red(hc:aw g)(hA:bC g ss)(hn:lE g nn)(hC:TP g nn ss A G){q m x:Nat}{p:aJ}(hp:g.prods[m]? =some p)(hm:m≠0)(hx:x<g.T)(h:Ll g ss q m p.right.length x):A q x=⟨2,m⟩:=by
 obtain⟨r,u,_⟩:=(h.inv hc hA hn).it;refine hC.one q x _ (agN.1 u).1 hx ?_;unfold ee;exact agX.2 (.inr (abC hc hA hn hp hm hx h))
theorem TP.acc(hc:aw g)(hA:bC g ss)(hC:TP g nn ss A G){q:Nat}{r:SQ}(hr:ss[q]? =some r)(h:(⟨0,1⟩:au)∈r.1.2):A q 0=⟨3,0⟩:=by
 have:=hc.cK;refine hC.one q 0 _ (agN.1 hr).1 ω ?_;unfold ee Vl;rw[hr];simp[h]
theorem YQ{α:Type}{l' l:List α}{n:Nat}(h:l'.length=n):(l'++l).take n=l'/\(l'++l).drop n=l:=by
 subst h;exact⟨List.take_left,List.drop_left⟩
theorem ael(hc:aw g)(hA:bC g ss)(hn:lE g nn)(hC:TP g nn ss A G){ks:List Tr}{r:List Int}{y:List Tk}(h:Dv g ks r y):
  ∀(m d x k:Nat)(p:aJ)(l:List yN)(v:List Tk),g.prods[m]? =some p->p.right.drop d=r->oP ss l->x<g.T->Ll g ss (b8 l) m d x->
   ∃l',Rn g A G (l,y++((x:Int),k)::v) (l'++l,((x:Int),k)::v)/\(l'.map (·.2.2)).reverse=ks/\l'.length=ks.length/\oP ss (l'++l)/\Ll g ss (b8 (l'++l)) m (d+ks.length) x:=by
 induction h with
 |nil=>exactλm d x k p l v hp X Y hx O=>⟨[],.refl _,rfl,rfl,Y,O⟩
 |lf s k0 ks r y h0 hT _ ih=>
  intro m d x k p l v hp X Y hx O;obtain⟨s,rfl⟩:∃n:Nat,s=n:=⟨s.toNat,ω⟩
  have J:p.right[d]? =some (s:Int):=by
   have:=congrArg (·[0]?) X;simpa[ahy] using this
  obtain⟨q,hq,u⟩:=(O.inv hc hA hn).it;obtain⟨j,r',U,h2,_⟩:=oM hc hA hq u (ga hp J) ω;have ha:=hC.shift ω U;obtain⟨l',r1,r2,r3,r4,r5⟩:=ih m (d+1) x k p (((s:Int),j,.lf s k0)::l) v hp (by rw[<-List.drop_drop,X];rfl) ⟨U,Y⟩ hx (.sh _ m d j x p _ hp J U O)
  refine⟨l'++[((s:Int),j,.lf s k0)],?_,?_,?_,?_,?_⟩
  ·refine .step _ _ _ ?_ (by simpa using r1);unfold IM;simp[ha]
  ·simp[r2]
  ·simp[r3]
  ·simpa using r4
  ·have e:d+1+ks.length=d+(Tr.lf (s:Int) k0::ks).length:=by simp;omega
   rw[<-e];simpa using r5
 |nd n p' ks' ks r z y hp' hz hy ih1 ih2=>
  intro m d x k p l v hp X Y hx O
  have J:p.right[d]? =some p'.left:=by
   have:=congrArg (·[0]?) X;simpa[ahy] using this
  have W:p.right.drop (d+1)=r:=by rw[<-List.drop_drop,X];rfl
  obtain⟨q,hq,u⟩:=(O.inv hc hA hn).it;have a7:=hc.left (agL hp');obtain⟨j,r',U,h2,_⟩:=oM hc hA hq u (ga hp J) ω;have a8:n≠0:=M8 hc (agL hp) (agL J) hp' rfl
  --the token behind the tree
  obtain⟨V,k',Z,e,a4,a6⟩:∃(V k':Nat)(Z:List Tk),y++((x:Int),k)::v=((V:Int),k')::Z/\V<g.T/\Ll g ss (b8 l) n 0 V:=by
   cases y with
   |nil=>exact⟨x,k,v,rfl,hx,.up _ m d n x p p' _ hp J hp' rfl (by rw[W];exact hy.nul rfl) O⟩
   |cons a y=>
    obtain⟨s,k1⟩:=a;obtain⟨f1,f2,f3⟩:=hy.fst rfl;refine⟨s.toNat,k1,y++((x:Int),k)::v,by rw[Int.toNat_of_nonneg f2];rfl,ω,.fs _ m d n _ p p' _ q hq u hp J hp' rfl (by rw[W];exact f1)⟩
  obtain⟨l1,r1,r2,r3,r4,r5⟩:=ih1 n 0 V k' p' l Z hp' rfl Y a4 a6;rw[aii] at r5;have a0:ks'.length=p'.right.length:=hz.len;rw[a0] at r5 r3;have ha:=hC.red hc hA hn hp' a8 a4 r5;have hG:=hC.gt _ _ _ a7 U;obtain⟨t1,t2⟩:=YQ (l:=l) r3
  have a5:IM g A G (l1++l,((V:Int),k')::Z)=some ((p'.left,j,.nd n ks')::l,((V:Int),k')::Z):=by
   unfold IM;simp[ha,hp',t1,t2,hG,r2]
  obtain⟨l',q1,q2,q3,q4,q5⟩:=ih2 m (d+1) x k p ((p'.left,j,.nd n ks')::l) v hp W ⟨U,Y⟩ hx (.sh _ m d j x p _ hp J U O)
  refine⟨l'++[(p'.left,j,.nd n ks')],?_,?_,?_,?_,?_⟩
  ·rw[ag3,e];rw[e] at q1;exact r1.trans (.step _ _ _ a5 (by simpa using q1))
  ·simp[q2]
  ·simp[q3]
  ·simpa using q4
  ·have e:d+1+ks.length=d+(Tr.nd n ks'::ks).length:=by simp;omega
   rw[<-e];simpa using q5
theorem IN(hc:aw g)(hA:bC g ss)(hn:lE g nn)(hC:TP g nn ss A G){t:Tr}{y:List Tk}(h:Dv g [t] [g.start] y)(k:Nat):
  ∃q,Rn g A G ([],y++[((0:Int),k)]) ([(g.start,q,t)],[((0:Int),k)])/\A q 0=⟨3,0⟩:=by
 have a0:=hc;obtain⟨_,_,_,p0,U,a7,V,_⟩:=a0;have hs:=hc.cK;obtain⟨l',r1,r2,r3,r4,r5⟩:=ael hc hA hn hC h 0 0 0 k p0 [] [] U (by rw[V];rfl) trivial ω .st;rw[ahe] at r1 r4 r5
 match l',r3 with
 |[(s,q,t')],_=>
  simp only[ahw,List.map_nil,List.reverse_singleton,List.cons.injEq,and_true] at r2;subst r2;obtain⟨j,hj,_,J⟩:=abo hc hA;obtain⟨⟨r,O,a8⟩,p,hp,_,h0,_⟩:=r5.inv hc hA hn;rw[U] at hp;cases hp;have O:ss[q]? =some r:=O;have hw:=(h0 rfl).2
  have hq:q=j:=by
   have:dw ss 0 (p0.right.take 1)=(j:Int):=by
    rw[V]
    show dw ss 0 [g.start]=_
    rw[mD]
    show(match dh ss (0:Int).toNat g.start with|none=>-1|some j=>dw ss j [])=_
    rw[show(0:Int).toNat=0 from rfl,hj];rfl
   have hw:dw ss 0 (p0.right.take 1)=(q:Int):=hw;omega
  subst hq
  have Y:s=g.start:=by
   have h1:dh ss 0 s=some (q:Int):=r4.1;have u:=(J q r O).2 rfl
   have:=ML hc hA (by
    rcases ain q with e|e
    ·subst e;exfalso;have hK:=(ig hA O).1
     have e:r.1.2=[⟨0,0⟩]:=by
      have:(fJ g 0).1[0]? =some [⟨0,0⟩]:=rfl;rw[this] at hK;exact(Option.some.inj hK).symm
     rw[e,ag_] at u;cases u
    ·exact e) O u
   obtain⟨_,_,p',ad,_,h3⟩:=this;obtain⟨q0,k0,e0,a5,a6,a4,aa⟩:=lB h1;obtain⟨f1,_,j',r',a9,_,X,W,Z⟩:=dm hc hA a5 a6;have:j'=q:=ω
   subst this;rw[O] at X;cases X;rw[a4] at W Z f1;rw[W] at u;obtain⟨y0,_,hy,e3⟩:=dj.1 u
   have e4:y0=⟨0,0⟩:=by
    cases y0;simp only[au.mk.injEq] at e3 ⊢;omega
   rw[e4] at hy;have:=ga (g:=g) (n:=0) (m:=0) U (s:=g.start) (by rw[V];rfl);rw[<-hy];exact this
  subst Y;exact⟨q,r1,hC.acc hc hA O ((J q r O).2 rfl)⟩
end
section
variable{g:ah}{nn:List Bool}{ss:List SQ}{A:Nat->Int->aD}{G:Nat->Int->Nat}
theorem IP(hA:bC g ss)(hc:aw g):∀{l:List yN},oP ss l->∃r,ss[b8 l]? =some r
 |[],_=>⟨_,agM hA.pos⟩
 |e::l,h=>by
  obtain⟨h1,h2⟩:=d_ hc hA h.1
  exact⟨_,agM (by show e.2.1<_;omega)⟩
theorem CW:∀{l:List yN}(n:Nat),oP ss l->oP ss (l.drop n)
 |l,0,h=>h
 |[],n+1,h=>h
 |e::l,n+1,h=>CW (l:=l) n h.2
theorem PM(hA:bC g ss){r:SQ}(hr:ss[0]? =some r):r.1.2=[⟨0,0⟩]:=by
 have u:=(ig hA hr).1;have:(fJ g 0).1[0]? =some [⟨0,0⟩]:=rfl;rw[this] at u;exact(Option.some.inj u).symm
theorem IQ(hc:aw g)(hA:bC g ss){m:Nat}{p:aJ}(hp:g.prods[m]? =some p):∀(d:Nat)(l:List yN)(r:SQ),oP ss l->ss[b8 l]? =some r->vF g r.1.2 ⟨(m:Int),(d:Int)⟩->
  d<=l.length/\((l.take d).map (·.1)).reverse=p.right.take d/\∃r',ss[b8 (l.drop d)]? =some r'/\vF g r'.1.2 ⟨(m:Int),0⟩
 |0,l,r,_,hr,hy=>⟨agP _,σ,r,hr,hy⟩
 |d+1,l,r,hw,hr,hy=>by
  have hx:(⟨(m:Int),((d+1:Nat):Int)⟩:au)∈r.1.2:=by
   generalize hz:(⟨(m:Int),((d+1:Nat):Int)⟩:au)=z at hy
   cases hy with
   |base h=>subst hz;exact h
   |step _ _ _ _=>have:=congrArg au.dot hz;simp at this;omega
  cases l with
  |nil=>
   have hr:ss[0]? =some r:=hr
   rw[PM hA hr,ag_] at hx
   have:=congrArg au.dot hx
   simp at this
   omega
  |cons e l=>
   obtain⟨q0,k,ed,hq0,he,he1,he2⟩:=lB hw.1
   obtain⟨_,_,j,r2,hj,_,hr2,hrk,_⟩:=dm hc hA hq0 he
   have hr:ss[e.2.1]? =some r:=hr
   have:j=e.2.1:=ω
   subst this
   rw[hr] at hr2;cases hr2
   rw[hrk,he1] at hx
   obtain⟨y,hy1,hy2,hy3⟩:=dj.1 hx
   have e4:y=⟨(m:Int),(d:Int)⟩:=by
    cases y
    simp only[au.mk.injEq] at hy3 ⊢
    omega
   subst e4
   obtain⟨i1,i2,i3⟩:=IQ hc hA hp d l q0 hw.2 hq0 hy1
   have hf:p.right[d]? =some e.1:=by
    rw[w_ (p:=p) (by show g.prods[(m:Int).toNat]? =_;rw[agZ];exact hp)] at hy2
    have hy2:p.right.getD (d:Int).toNat (-1)=e.1:=hy2
    rw[agZ,agU] at hy2
    cases hg:p.right[d]? with
    |none=>
     rw[hg] at hy2
     have hpos:=(dm hc hA hq0 he).1
     have hy2:(-1:Int)=e.1:=hy2
     omega
    |some s=>rw[hg] at hy2;rw[show s=e.1 from hy2]
   refine⟨by simp;omega,?_,?_⟩
   ·rw[List.take_succ_cons,ahw,List.reverse_cons,i2,agR,hf]
    rfl
   ·simpa using i3
structure Sd(g:ah)(ss:List SQ)(A:Nat->Int->aD)(G:Nat->Int->Nat):Prop where
 sh:∀(q t:Nat),q<ss.length->t<g.T->(A q t).kind=1->dh ss q (t:Int)=some (A q t).to
 rd:∀(q t:Nat)(r:SQ),ss[q]? =some r->t<g.T->(A q t).kind=2->∃(m:Nat)(p:aJ),(A q t).to=m/\m≠0/\g.prods[m]? =some p/\vF g r.1.2 ⟨(m:Int),(p.right.length:Int)⟩
 ac:∀(q t:Nat)(r:SQ),ss[q]? =some r->t<g.T->(A q t).kind=3->t=0/\(⟨0,1⟩:au)∈r.1.2
 gt:∀(q j:Nat)(s:Int),(g.T:Int)<=s->dh ss q s=some (j:Int)->G q s=j
theorem Sd.reduce(hc:aw g)(hA:bC g ss)(hS:Sd g ss A G){l:List yN}{t:Nat}(hw:oP ss l)(ht:t<g.T)(hk:(A (b8 l) t).kind=2):
  ∃(m:Nat)(p:aJ),(A (b8 l) t).to=m/\m≠0/\g.prods[m]? =some p/\p.right.length<=l.length/\((l.take p.right.length).map (·.1)).reverse=p.right/\
   dh ss (b8 (l.drop p.right.length)) p.left=some (G (b8 (l.drop p.right.length)) p.left:Int):=by
 obtain⟨r,U⟩:=IP hA hc hw;obtain⟨m,p,h1,V,u,X⟩:=hS.rd _ t r U ht hk;obtain⟨Z,i2,r',O,Y⟩:=IQ hc hA u _ l r hw U X;have hb:=aa6 hc hA O u Y;rw[aht V] at hb;obtain⟨j,J⟩:=aip.1 hb;have W:=(d_ hc hA J).1;obtain⟨j,rfl⟩:∃n:Nat,j=n:=⟨j.toNat,ω⟩;refine⟨m,p,h1,V,u,Z,by rw[i2,ag9],?_⟩;rw[J,hS.gt _ _ _ (hc.left (agL u)) J]
theorem Dv.app{l l':List Tr}{r r':List Int}{y y':List Tk}(h:Dv g l r y)(h':Dv g l' r' y'):Dv g (l++l') (r++r') (y++y'):=by
 induction h with
 |nil=>exact h'
 |lf s k l r y h0 hT _ ih=>exact .lf s k _ _ _ h0 hT ih
 |nd n p ks l r z y hp hz _ _ ih=>rw[ag3];exact .nd n p ks _ _ z _ hp hz ih
theorem Dv.split{l':List Tr}{r':List Int}:∀{l:List Tr}{r:List Int}{y:List Tk},l.length=r.length->Dv g (l++l') (r++r') y->∃y1 y2,y=y1++y2/\Dv g l r y1/\Dv g l' r' y2
 |[],[],y,_,h=>⟨[],y,rfl,.nil,h⟩
 |t::l,s::r,y,hl,h=>by
  generalize e1:t::l++l'=a at h
  generalize e2:s::r++r'=b at h
  cases h with
  |nil=>cases e1
  |lf s' k l2 r2 y2 h0 hT h2=>
   cases e1;cases e2
   obtain⟨y1,y3,rfl,f1,f2⟩:=Dv.split (by simpa using hl) h2
   exact⟨_,y3,rfl,.lf s k l r y1 h0 hT f1,f2⟩
  |nd n p ks l2 r2 z y2 hp hz h2=>
   cases e1;cases e2
   obtain⟨y1,y3,rfl,f1,f2⟩:=Dv.split (by simpa using hl) h2
   exact⟨z++y1,y3,σ,.nd n p ks l r z y1 hp hz f1,f2⟩
structure V8(g:ah)(ss:List SQ)(all:List Tk)(c:YP):Prop where
 PK:oP ss c.1
 dv:∃y,Dv g (c.1.map (·.2.2)).reverse (c.1.map (·.1)).reverse y/\y++c.2=all
theorem V8.start{all:List Tk}:V8 g ss all ([],all):=⟨trivial,[],.nil,rfl⟩
theorem V8.step(hc:aw g)(hA:bC g ss)(hS:Sd g ss A G){all:List Tk}(ha:∀x∈all,0<=x.1/\x.1<g.T){c d:YP}(h:V8 g ss all c)(hd:IM g A G c=some d):V8 g ss all d:=by
 obtain⟨l,J⟩:=c;obtain⟨O,y,X,rfl⟩:=h;cases J with
 |nil=>cases hd
 |cons a J=>
  obtain⟨s,k⟩:=a;obtain⟨h0,V⟩:=ha (s,k) σ;obtain⟨s,rfl⟩:∃n:Nat,s=n:=⟨s.toNat,by have h0:0<=s:=h0;omega⟩;have V:(s:Int)<g.T:=V;obtain⟨r,U⟩:=IP hA hc O;have U:ss[b8 l]? =some r:=U;unfold IM at hd;dsimp only at hd
  split at hd
  ·rename_i hk;cases hd;have hn:=hS.sh _ s (agN.1 U).1 ω hk;have:=(d_ hc hA hn).1
   refine⟨⟨?_,O⟩,y++[((s:Int),k)],?_,σ⟩
   ·show dh ss (b8 l) (s:Int)=some ((A (b8 l) s).to.toNat:Int)
    rw[hn,Int.toNat_of_nonneg this]
   ·simp only[ahw,List.reverse_cons];exact Dv.app X (.lf _ _ _ _ _ (ahu _) V .nil)
  ·split at hd
   ·rename_i hk;obtain⟨m,p,h1,h2,W,h4,h5,Z⟩:=hS.reduce hc hA (t:=s) O ω hk;rw[h1,agZ,W] at hd;cases hd;refine⟨⟨Z,CW _ O⟩,y,?_,rfl⟩;have e:l=l.take p.right.length++l.drop p.right.length:=(aha _ _).symm;have u:=X;dsimp only at u;rw[e,ag7,ag7,List.reverse_append,List.reverse_append,h5] at u;obtain⟨y1,y2,rfl,f1,Y⟩:=u.split σ;simp only[ahw,List.reverse_cons];refine Dv.app f1 ?_;have:=Dv.nd m p _ [] [] y2 [] W Y .nil;simpa using this
   ·cases hd
theorem V8.run(hc:aw g)(hA:bC g ss)(hS:Sd g ss A G){all:List Tk}(ha:∀x∈all,0<=x.1/\x.1<g.T){c d:YP}(h:V8 g ss all c)(hd:Rn g A G c d):V8 g ss all d:=by
 induction hd with
 |refl=>exact h
 |step c d e h1 _ ih=>exact ih (h.step hc hA hS ha h1)
theorem V8.acc(hc:aw g)(hA:bC g ss)(hS:Sd g ss A G){all v:List Tk}{l:List yN}{t k:Nat}(h:V8 g ss all (l,((t:Int),k)::v))(ht:t<g.T)(hk:(A (b8 l) t).kind=3):
  t=0/\∃(q:Nat)(x:Tr)(y:List Tk),l=[(g.start,q,x)]/\Dv g [x] [g.start] y/\all=y++((0:Int),k)::v:=by
 have V:=hc;obtain⟨_,_,a7,p0,O,W,X,_⟩:=V;obtain⟨Z,y,hy,rfl⟩:=h;obtain⟨r,U⟩:=IP hA hc Z;obtain⟨rfl,h1⟩:=hS.ac _ t r U ht hk;have U:ss[b8 l]? =some r:=U;obtain⟨i1,i2,r',u,i3⟩:=IQ hc hA O 1 l r Z U (.base h1)
 have hd:l.drop 1=[]:=by
  cases hl:l.drop 1 with
  |nil=>rfl
  |cons e l2=>
   exfalso;rw[hl] at u;have u:ss[e.2.1]? =some r':=u;have J:=CW 1 Z;have J:oP ss (l.drop 1):=J;rw[hl] at J;obtain⟨q0,k0,ed,Y,he,a5,a6⟩:=lB J.1;obtain⟨_,_,j,r2,hj,a4,_⟩:=dm hc hA Y he
   have hb:(⟨((0:Nat):Int),0⟩:au)∈r'.1.2:=by
    generalize hz:(⟨((0:Nat):Int),0⟩:au)=z at i3;cases i3 with
    |base h=>subst hz;exact h
    | @step y i p hy0 hge hp hl=>
     exfalso;have:i=0:=by have:=congrArg au.prod hz;simp at this;omega
     subst this;rw[O] at hp;cases hp;have hK:=(ig hA u).1;have hf:=(gN (g:=g) (by have:=hc.cK;omega) e.2.1).fit _ (agL hK);obtain⟨p',a0,_,h3⟩:=HL (hy0.fit hf) rfl hge;rw[<-hl,W] at h3;exact TJ hc (agL a0) (agL h3) rfl
   have:=(ML hc hA ω u hb).2.1;simp at this
 match l,i1,hd with
 |[(s,q,x)],_,_=>
  have:s=g.start:=by
   rw[X] at i2;simpa using i2
  subst this;exact⟨rfl,q,x,y,rfl,by simpa using hy,rfl⟩
end
def yg(l:List yN):List Int:=(l.map λe=>(e.2.1:Int)).reverse
theorem gb(l:List yN):(yg l).length=l.length:=by simp[yg]
theorem yh(e:yN)(l:List yN):yg (e::l)=yg l++[(e.2.1:Int)]:=by simp[yg]
theorem yO(l:List yN):oO (yg l)=(b8 l:Int):=by
 cases l with
 |nil=>rfl
 |cons e l=>
  rw[yh];unfold oO;rw[List.getLast_cons σ,List.getLast_append_of_ne_nil _ σ];rfl
theorem IS(l:List yN)(n:Nat)(h:n<=l.length):(yg l).take ((yg l).length-n)=yg (l.drop n):=by grind[gb,yg,List.take_reverse,List.length_map,List.map_drop]
def Gi(G:Nat->Int->Nat)(m:Nat)(p:aJ)(l:List yN):List yN:=(p.left,G (b8 (l.drop p.right.length)) p.left,.nd m ((l.take p.right.length).map (·.2.2)).reverse)::l.drop p.right.length
inductive PN (g:ah) (A:Nat->Int->aD) (G:Nat->Int->Nat) (t:Int):List yN->List aD->List yN->Prop
 |nil (l:List yN):PN g A G t l [] l
 |cons (l:List yN) (m:Nat) (p:aJ) (ms:List aD) (l':List yN):A (b8 l) t=⟨2,(m:Int)⟩->g.prods[m]? =some p->p.right.length<=l.length->(l.drop p.right.length).length<64->PN g A G t (Gi G m p l) ms l'->PN g A G t l (⟨2,(m:Int)⟩::ms) l'
section
variable{g:ah}{ss:List SQ}{A:Nat->Int->aD}{G:Nat->Int->Nat}{A':Int->Int->aD}{G':Int->Int->Int}{t:Nat}
theorem PN.IM{l l':List yN}{ms:List aD}{t:Int}(h:PN g A G t l ms l')(k:Nat)(v:List Tk):Rn g A G (l,(t,k)::v) (l',(t,k)::v):=by
 induction h with
 |nil=>exact .refl _
 |cons l m p ms l' h1 h2 _ _ _ ih=>
  refine .step _ _ _ ?_ ih
  show Proofs.YtaoaemnefghnbaaGreatDoor.IM g A G (l,(t,k)::v)=_
  unfold Proofs.YtaoaemnefghnbaaGreatDoor.IM;simp[h1,h2,Gi]
structure aem(g:ah)(ss:List SQ)(A:Nat->Int->aD)(G:Nat->Int->Nat)(A':Int->Int->aD)(G':Int->Int->Int):Prop where
 a:∀(q:Nat)(t:Int),A' q t=A q t
 g:∀(q:Nat)(s:Int),(∃j,dh ss q s=some j)->(g.T:Int)<=s->G' q (s-g.T)=(G q s:Int)
theorem Sd.PK(hc:aw g)(hA:bC g ss)(hS:Sd g ss A G){l:List yN}(hw:oP ss l)(ht:t<g.T)(hk:(A (b8 l) t).kind=2):
  ∃(m:Nat)(p:aJ),A (b8 l) t=⟨2,(m:Int)⟩/\g.prods[m]? =some p/\p.right.length<=l.length/\oP ss (Gi G m p l)/\(g.T:Int)<=p.left/\dh ss (b8 (l.drop p.right.length)) p.left=some (G (b8 (l.drop p.right.length)) p.left:Int):=by
 obtain⟨m,p,V,W,u,O,U,J⟩:=hS.reduce hc hA hw ht hk;refine⟨m,p,?_,u,O,⟨J,CW _ hw⟩,hc.left (agL u),J⟩;cases ha:A (b8 l) t
 simp_all
theorem YR(hc:aw g)(hA:bC g ss)(hb:lq g)(hS:Sd g ss A G)(hN:aem g ss A G A' G')(ht:t<g.T)(hl:∀p∈g.prods,p.left<=1000000):Saf g A' G' t λl=>∃es,oP ss es/\l=yg es where
 red:=by
  rintro _⟨es,U,rfl⟩ u;rw[yO,hN.a] at u ⊢;obtain⟨m,p,X,Y,J,O,V,W⟩:=hS.PK hc hA U ht u;rw[X];refine⟨p,ahu _,by simp_all,by simp_all[gb],ω,hl p (agL Y),Gi G m p es,O,?_⟩;rw[IS _ _ J,yO,hN.g _ _ ⟨_,W⟩ V];exact(yh (p.left,G (b8 (es.drop p.right.length)) p.left,Tr.nd m ((es.take p.right.length).map (·.2.2)).reverse) (es.drop p.right.length)).symm
theorem RT(hc:aw g)(hA:bC g ss)(hS:Sd g ss A G)(hN:aem g ss A G A' G')(ht:t<g.T):∀(n:Nat){l:List yN}{ms ms2:List aD}{st:List Int}{f:Bool},oP ss l->V6 g A' G' t n (yg l) ms=some (f,ms2,st)->
  ∃rs l',PN g A G t l rs l'/\oP ss l'/\st=yg l'/\
   ((f=true/\(A (b8 l') t).kind=1/\l'.length<64/\ms2=ms++rs++[A (b8 l') t])\/(f=true/\(A (b8 l') t).kind=3/\ms2=ms++rs++[A (b8 l') t])\/
    (f=false/\(A (b8 l') t).kind≠1/\(A (b8 l') t).kind≠2/\(A (b8 l') t).kind≠3/\ms2=ms++rs)):=by
 intro n
 induction n with
 |zero=>
  intro l ms ms2 st f u h;unfold V6 trB at h;rw[yO,hN.a,gb] at h
  split at h
  ·rename_i h1
   split at h
   ·grind
   ·cases h;exact⟨[],l,.nil l,u,rfl,.inl ⟨rfl,h1,ω,σ⟩⟩
  ·rename_i h1
   split at h
   ·rename_i h3;cases h;exact⟨[],l,.nil l,u,rfl,.inr (.inl ⟨rfl,h3,σ⟩)⟩
   ·rename_i h3
    split at h
    ·grind
    ·rename_i h2;cases h;exact⟨[],l,.nil l,u,rfl,.inr (.inr ⟨rfl,h1,h2,h3,σ⟩)⟩
 |succ n ih=>
  intro l ms ms2 st f u h;unfold V6 trB at h;rw[yO,hN.a,gb] at h
  split at h
  ·rename_i h1
   split at h
   ·grind
   ·cases h;exact⟨[],l,.nil l,u,rfl,.inl ⟨rfl,h1,ω,σ⟩⟩
  ·rename_i h1
   split at h
   ·rename_i h3;cases h;exact⟨[],l,.nil l,u,rfl,.inr (.inl ⟨rfl,h3,σ⟩)⟩
   ·rename_i h3
    split at h
    ·rename_i h2;obtain⟨m,p,g1,g2,g3,X,O,W⟩:=hS.PK hc hA u ht h2;rw[g1,agZ,g2] at h;dsimp only at h
     split at h
     ·grind
     ·rename_i h4;rw[<-gb l,IS _ _ g3,yO,hN.g _ _ ⟨_,W⟩ O] at h;have e:yg (l.drop p.right.length)++[(G (b8 (l.drop p.right.length)) p.left:Int)]=yg (Gi G m p l):=(yh (p.left,G (b8 (l.drop p.right.length)) p.left,Tr.nd m ((l.take p.right.length).map (·.2.2)).reverse) (l.drop p.right.length)).symm;rw[e] at h;obtain⟨rs,l',V,U,J,Y⟩:=ih X h;refine⟨_::rs,l',.cons l m p rs l' g1 g2 g3 (by simp_all) V,U,J,?_⟩
      simp_all
    ·rename_i h2;cases h;exact⟨[],l,.nil l,u,rfl,.inr (.inr ⟨rfl,h1,h2,h3,σ⟩)⟩
end
structure NdT where
 sym:Int
 prod:Int
 tok:Int
 kids:List Int
deriving DecidableEq
instance:Inhabited NdT:=⟨⟨0,0,0,[]⟩⟩
inductive Gj (g:ah) (nd:List NdT):List Tr->List Nat->List Nat->Prop
 |nil:Gj g nd [] [] []
 |lf (s:Int) (k i:Nat) (l:List Tr) (r z:List Nat):nd[i]? =some ⟨s,-1,k,[]⟩->Gj g nd l r z->Gj g nd (.lf s k::l) (i::r) (i::z)
 |nd (n:Nat) (p:aJ) (ks l:List Tr) (kids r y z:List Nat) (i:Nat):nd[i]? =some ⟨p.left,n,0,kids.map λ(j:Nat)=>(j:Int)⟩->g.prods[n]? =some p->(∀k∈kids,k<i)->Gj g nd ks kids y->Gj g nd l r z->Gj g nd (.nd n ks::l) (i::r) (i::(y++z))
section
variable{g:ah}{nd nd':List NdT}{l l':List Tr}{r r' z z':List Nat}
theorem Gj.lt(h:Gj g nd l r z):∀i∈z,i<nd.length:=by
 induction h with
 |nil=>simp
 |lf s k i l r z h1 _ ih=>
  grind
 |nd n p ks l kids r y z i h1 _ _ _ _ ih1 ih2=>
  grind
theorem Gj.sub(h:Gj g nd l r z):r.Sublist z:=by
 induction h with
 |nil=>simp
 |lf s k i l r z _ _ ih=>simp_all
 |nd n p ks l kids r y z i _ _ _ _ _ ih1 ih2=>simp_all
theorem Gj.app(h:Gj g nd l r z)(h':Gj g nd l' r' z'):Gj g nd (l++l') (r++r') (z++z'):=by
 induction h with
 |nil=>grind
 |lf s k i l r z h1 _ ih=>exact .lf s k i _ _ _ h1 ih
 |nd n p ks l kids r y z i h1 h2 h3 h4 _ _ ih=>
  have:=Gj.nd n p ks _ kids _ y _ i h1 h2 h3 h4 ih
  simp_all
theorem Gj.mono(h:Gj g nd l r z)(hn:∀(i:Nat)(x:NdT),nd[i]? =some x->nd'[i]? =some x):Gj g nd' l r z:=by
 induction h with
 |nil=>exact .nil
 |lf s k i l r z h1 _ ih=>exact .lf s k i _ _ _ (hn _ _ h1) ih
 |nd n p ks l kids r y z i h1 h2 h3 _ _ ih1 ih2=>exact .nd n p ks _ kids _ y _ i (hn _ _ h1) h2 h3 ih1 ih2
theorem Gj.split:∀{l:List Tr}{z:List Nat}{r:List Nat},l.length=r.length->Gj g nd (l++l') (r++r') z->∃z1 z2,z=z1++z2/\Gj g nd l r z1/\Gj g nd l' r' z2
 |[],z,[],_,h=>⟨[],z,rfl,.nil,h⟩
 |t::l,z,i::r,hl,h=>by
  generalize e1:t::l++l'=a at h
  generalize e2:i::r++r'=b at h
  cases h with
  |nil=>grind
  |lf s k i2 l2 r2 z2 h1 h2=>
   cases e1;cases e2
   obtain⟨z1,z3,rfl,f1,f2⟩:=Gj.split (by simp_all) h2
   exact⟨_,z3,rfl,.lf s k _ _ _ _ h1 f1,f2⟩
  |nd n p ks l2 kids r2 y z2 i2 h1 h2 h3 h4 h5=>
   cases e1;cases e2
   obtain⟨z1,z3,rfl,f1,f2⟩:=Gj.split (by simp_all) h5
   exact⟨_,z3,σ,.nd n p ks _ kids _ y _ _ h1 h2 h3 h4 f1,f2⟩
end
structure cE where
 es:List yN
 ids:List Nat
 nd:List NdT
 tk:List Bool
 mv:List (aD×Nat)
 dp:Nat
 ov:Bool
def cE.new:cE:=⟨[],[],[],[],[],0,false⟩
def yi(tk:List Bool)(ks:List Nat):List Bool:=ks.foldl (λl k=>l.set k true) tk
def Bn(t:Nat)(q:Nat)(y:cE):cE:={ y with es:=((t:Int),q,.lf t y.dp)::y.es,ids:=y.nd.length::y.ids,nd:=y.nd++[⟨t,-1,y.dp,[]⟩],tk:=y.tk++[false],mv:=y.mv++[(⟨1,q⟩,y.dp)] }
def CX(G:Nat->Int->Nat)(m:Nat)(p:aJ)(y:cE):cE:={ y with es:=Gi G m p y.es,ids:=y.nd.length::y.ids.drop p.right.length,nd:=y.nd++[⟨p.left,m,0,(y.ids.take p.right.length).reverse.map λ(j:Nat)=>(j:Int)⟩],tk:=yi y.tk (y.ids.take p.right.length).reverse++[false],mv:=y.mv++[(⟨2,m⟩,y.dp)] }
def PO(a:aD)(y:cE):cE:={ y with mv:=y.mv++[(a,y.dp)],ov:=true }
def zK(g:ah)(G:Nat->Int->Nat)(t:Nat)(y:cE)(a:aD):cE:=
 if a.kind=1 then Bn t a.to.toNat y else if a.kind=2 then(match g.prods[a.to.toNat]? with|some p=>CX G a.to.toNat p y|none=>y) else PO a y
def EO(t:Nat)(y:cE):cE:=if 0<t then{ y with dp:=y.dp+1 } else y
structure mH(g:ah)(ss:List SQ)(y:cE):Prop where
 PK:oP ss y.es
 il:y.ids.length=y.es.length
 hl:y.es.length<=64
 tl:y.tk.length=y.nd.length
 fr:∃z,Gj g y.nd (y.es.map (·.2.2)).reverse y.ids.reverse z/\z.Nodup
 tk:∀i∈y.ids,y.tk[i]? =some false
 nl:y.nd.length<=y.mv.length
 kl:∀x∈y.nd,x.kids.length<=64
section
variable{g:ah}{ss:List SQ}{y:cE}{A:Nat->Int->aD}{G:Nat->Int->Nat}
theorem mH.new:mH g ss cE.new:=⟨trivial,rfl,agP _,rfl,⟨[],.nil,.nil⟩,λi hi=>(by cases hi),agT _,λx u=>(by cases u)⟩
theorem mH.nd(h:mH g ss y):y.ids.Nodup/\∀i∈y.ids,i<y.nd.length:=by
 obtain⟨z,u,O⟩:=h.fr;have J:=u.sub.nodup O;refine⟨(List.reverse_perm _).nodup_iff.1 J,λi hi=>u.lt i (u.sub.subset (List.mem_reverse.2 hi))⟩
theorem CY(ks:List Nat):∀tk:List Bool,(yi tk ks).length=tk.length:=by
 induction ks with
 |nil=>exactλ_=>rfl
 |cons k ks ih=>simp_all[yi]
theorem TQ{i:Nat}(ks:List Nat):∀{tk:List Bool},i∉ks->(yi tk ks)[i]? =tk[i]?:=by
 induction ks with
 |nil=>exactλ_=>rfl
 |cons k ks ih=>
  intro tk h
  show(yi (tk.set k true) ks)[i]? =_
  grind
theorem GP{α:Type}{l m:List α}{i:Nat}{x:α}(h:l[i]? =some x):(l++m)[i]? =some x:=by grind
theorem mH.sh(h:mH g ss y){t q:Nat}(hn:dh ss (b8 y.es) (t:Int)=some (q:Int))(hl:y.es.length<64):mH g ss (Bn t q y):=by
 obtain⟨z,J,O⟩:=h.fr;have U:=h.nd
 refine⟨⟨hn,h.PK⟩,by simp[Bn,h.il],by grind[Bn],by simp[Bn,h.tl],⟨z++[y.nd.length],?_,?_⟩,λi hi=>?_,by have:=h.nl;simp_all[Bn],λx u=>?_⟩
 ·have e:=(J.mono (nd':=y.nd++[⟨(t:Int),-1,y.dp,[]⟩]) λi x=>GP).app (.lf (t:Int) y.dp y.nd.length [] [] [] σ .nil)
  simp_all[Bn]
 ·rw[ahx];refine⟨O,σ,λa ha b hb=>?_⟩;have:=J.lt a ha
  grind
 ·have hi:i∈y.nd.length::y.ids:=hi
  show(y.tk++[false])[i]? =some false
  rcases ag6.1 hi with rfl|hi
  ·rw[<-h.tl];simp
  ·exact GP (h.tk i hi)
 ·rcases agX.1 u with u|u
  ·exact h.kl x u
  simp_all
theorem mH.rd(h:mH g ss y){m:Nat}{p:aJ}(hp:g.prods[m]? =some p)(hk:p.right.length<=y.es.length)(hw:oP ss (Gi G m p y.es))(hl:(y.es.drop p.right.length).length<64):mH g ss (CX G m p y):=by
 obtain⟨z,W,V⟩:=h.fr;have J:=h.nd;have a0:=h.il;simp only[ahZ] at hl;have Z:(y.es.map (·.2.2)).reverse=((y.es.drop p.right.length).map (·.2.2)).reverse++((y.es.take p.right.length).map (·.2.2)).reverse:=σ
 have Y:y.ids.reverse=(y.ids.drop p.right.length).reverse++(y.ids.take p.right.length).reverse:=σ
 rw[Z,Y] at W;obtain⟨z1,X,rfl,f1,O⟩:=W.split (by simp_all);rw[ahx] at V;obtain⟨n1,n2,n3⟩:=V;have U:∀i x,y.nd[i]? =some x->(y.nd++[⟨p.left,m,0,(y.ids.take p.right.length).reverse.map λ(j:Nat)=>(j:Int)⟩])[i]? =some x:=λi x=>GP
 refine⟨hw,by grind[CX,Gi],by grind[CX,Gi],by simp[CX,CY,h.tl],⟨z1++y.nd.length::(X++[]),?_,?_⟩,λi hi=>?_,by have:=h.nl;simp_all[CX],λx u=>?_⟩
 ·have e:=(f1.mono U).app (.nd m p _ [] _ [] X [] y.nd.length σ hp (λk hk=>J.2 k (List.mem_of_mem_take (List.mem_reverse.1 hk))) (O.mono U) .nil)
  simp_all[CX,Gi]
 ·rw[ahe,ahx];refine⟨n1,ahE.2 ⟨λu=>by have:=O.lt _ u;omega,n2⟩,λa ha b hb=>?_⟩
  rcases ag6.1 hb with rfl|hb
  ·have:=f1.lt a ha;omega
  simp_all
 ·have hi:i∈y.nd.length::y.ids.drop p.right.length:=hi
  show(yi y.tk (y.ids.take p.right.length).reverse++[false])[i]? =some false
  rcases ag6.1 hi with rfl|hi
  ·rw[<-h.tl,<-CY (y.ids.take p.right.length).reverse y.tk];simp
  ·refine GP ?_;rw[TQ,h.tk i (List.mem_of_mem_drop hi)];intro u;have u:=List.mem_reverse.1 u;have:=J.1;rw[<-aha p.right.length y.ids,ahx] at this
   grind
 ·rcases agX.1 u with u|u
  ·exact h.kl x u
  ·rw[ag_.1 u];have:=h.hl
   grind
theorem mH.ac(h:mH g ss y)(a:aD):mH g ss (PO a y):=⟨h.PK,h.il,h.hl,h.tl,h.fr,h.tk,by have:=h.nl;grind[PO],h.kl⟩
theorem mH.fin(h:mH g ss y)(t:Nat):mH g ss (EO t y):=by
 unfold EO
 split
 ·exact⟨h.PK,h.il,h.hl,h.tl,h.fr,h.tk,h.nl,h.kl⟩
 omega
end
def noG:GA:=⟨none,0,0,none,0,0,none,0,0,0,none,0,0⟩
theorem TR{w:aiA}{M:List aE}(h:St w M):St w (y7 EN noG []++M):=by
 have J:St w (own 1 none 0 0 []::M):=aI 1 h;have U:St w (own 1 none 0 0 []::_):=aI 1 J;have O:St w (own 2 none 0 0 []::_):=aI 2 U;have u:St w (aV (cj [] [])::_):=St.flat.2 (show St w ([]++_) from O);exact aI 3 u
section
variable{w:aiA}{g:ah}{x:GA}{a:aiz}{l c:Nat}
theorem ua{ts:List nf}(hr:aX (hp w) ts a l)(hb:ts.length*24<=140737488355328)(hb2:ts.length<=9223372036854775807):ρ 170 [vS a l c] w λv w'=>∃o c',v=vS o ts.length c'/\St w' (own 2 o ts.length c' (cQ ts)::all w):=by
 refine jm ?_;have hl:=hr.1;cases a with
 |none=>
  have h0:ts=[]:=by
   cases ts with
   |nil=>rfl
   |cons t ts=>obtain⟨O,_,e,_⟩:=hr.2 0 t rfl;cases e
  subst h0;exact⟨none,0,rfl,aI 2 (St.all w)⟩
 |some O=>
  refine ag (St.all w) λb V U=>?_;have X:St V (own 2 (some ⟨b,0,none⟩) 0 0 []::all w):=bg (cs:=[]) U rfl rfl (agT _);have hr:=hr.mono U.aP
  refine(ji aT (rfl:ai Ty _=.slice _) rfl rfl rfl X (n:=l) (news:=cQ ts) (gA aT (rfl:ai Ty _=.slice _) (by rw[HG,hl]) (.inr ⟨O,rfl,λj u Y=>(aaH hr).cell sZZ Y⟩) (by
   intro u W;obtain⟨t,_,ht⟩:=ahI.1 W;simp[HE] at ht;rcases ht with rfl|rfl<;>rfl)) (by show(0+l)*24<=_;omega) ω).mono ?_
  rintro _ w2⟨Z,c',rfl,J⟩;rw[aii,<-hl] at J ⊢;rw[ahU] at J;exact⟨_,_,_,rfl,Z,c',rfl,J⟩
theorem dL{xs:List Int}(hr:aX (hp w) xs a l)(hb:xs.length*8<=140737488355328)(hb2:xs.length<=9223372036854775807):ρ 115 [vS a l c] w λv w'=>∃o c',v=vS o xs.length c'/\St w' (own 1 o xs.length c' (iv xs)::all w):=by
 refine iQ ?_;have hl:=hr.1;cases a with
 |none=>
  have h0:xs=[]:=by
   cases xs with
   |nil=>rfl
   |cons t ts=>obtain⟨O,_,e,_⟩:=hr.2 0 t rfl;cases e
  subst h0;exact⟨none,0,rfl,aI 1 (St.all w)⟩
 |some O=>
  refine ag (St.all w) λb V U=>?_;have X:St V (own 1 (some ⟨b,0,none⟩) 0 0 []::all w):=bg (cs:=[]) U rfl rfl (agT _);have hr:=hr.mono U.aP
  refine(ji aT (rfl:ai Ty _=.slice _) rfl rfl rfl X (n:=l) (news:=iv xs) (gA aT (rfl:ai Ty _=.slice _) (by rw[cf,hl,ahH]) (by
    rcases hr.iv with h0|⟨Y,e,hc⟩
    ·exact .inl (by have:=congrArg List.length h0;rw[cf,hl] at this;exact this)
    ·cases e;exact .inr ⟨O,rfl,λj u Z=>jI (hc j u Z)⟩) (by
   intro u W;obtain⟨t,_,rfl⟩:=agY.1 W;rfl)) (by show(0+l)*8<=_;omega) ω).mono ?_
  rintro _ w2⟨a',c',rfl,J⟩;rw[aii,<-hl] at J ⊢;rw[ahU] at J;exact⟨_,_,_,rfl,a',c',rfl,J⟩
theorem YS(hg:gR (hp w) g x)(hb:lq g)(ht:dP (hp w)):ρ 82 [.agg ⟨x.cells⟩] w λv w'=>∃(x':GA)(G:ah)(os:List (aiz×Nat))(e:Int),v=.tuple #[.agg ⟨x'.cells⟩,iI e]/\DU G x'/\os.length=G.prods.length/\M7 g e G/\St w' (y7 G x' os++all w):=by
 refine Ej ?_;refine gi hg λk1 w1 gw hg B=>?_;have gs:sub (hp w) (hp w1):=gw;have h1:=St.all w1;unfold Proofs.YtaoaemnefghnbaaGreatDoor.all at h1;have c7:=hg.s;have cu:=hg.t.1;have ch:=hg.l.1;have ht1:dP (hp w1):=eE.mono gw ht;generalize hH:hp w1=H at*;refine ag h1 λk2 w2 h=>?_;refine⟨_,_,_,_,_,_,_,_,_,_,_,_,_,B.row (aC 1 h.l),(Mb (x:=x) (hg.mono (aC 1 h.l)) hb).mono ?_⟩;rintro _ w3⟨⟨r1,rfl,e1⟩,g3⟩;have h:=h.gr g3
 have ba:∀{w4:aiA}{e:Int}{M:List aE},M7 g e EN->St w4 (az k2 [zS,zS,zS,iI 0,zS]::M)->(∀h,aF M h->sub H h)->∀w5,hp w5=hp w4->∃(x':GA)(G:ah)(os:List (aiz×Nat))(e':Int),Value.tuple #[.agg #[zS,zS,zS,iI 0,zS],iI e]=.tuple #[.agg ⟨x'.cells⟩,iI e']/\DU G x'/\os.length=G.prods.length/\M7 g e' G/\St w5 (y7 G x' os++all w):=λ{w4 e M} hr h hM w5 h5=>by
  refine⟨noG,EN,[],e,rfl,⟨rfl,rfl,rfl,rfl,rfl⟩,rfl,hr,TR ?_⟩;exact bF (sub.trans gs (by rw[h5];exact hM _ h.tail))
 refine⟨_,rfl,ae (λa4=>?_) λa4=>?_⟩
 ·have hn:¬mB g:=λJ=>by rw[e1.2 J] at a4;cases a4
  exact aL h rfl (by intro v J;simp at J;rcases J with rfl|rfl|rfl|rfl|rfl<;>rfl) λw4 h=>⟨_,_,_,_,_,_,_,_,_,_,_,_,_,h.row.at sZZ rfl,ba (.inl ⟨hn,rfl,rfl⟩) h λ_ hh=>aC 0 hh⟩
 have J:mB g:=e1.1 (by simpa using a4);have he:bM g:=.inl J;obtain⟨iG,bT,bN,pN,pT,bP⟩:=Gc he;obtain⟨cg,ca⟩:=tY he;refine⟨_,_,_,_,_,_,_,_,_,_,_,_,_,B.row (aC 1 h.l),(u9 (x:=x) (hg.mono (aC 1 h.l)) hb he).mono ?_⟩;rintro _ w6⟨pm,W,rfl,a0,h6⟩;have h:=h6.eM h;refine⟨_,_,rfl,ag h λa9 w7 h=>aL h rfl (by simp[aK]) λw8 h=>?_⟩;have a6:aq (hp w8) ⟨a9,0,none⟩ [.pointer (some ⟨pm,0,none⟩),iI (g.T:Int)]:=af 0 h.l;have av:eV (hp w8) (some ⟨pm,0,none⟩) W:=h.swap.eV;refine⟨_,a6.cell0 sZZ,_,B.c3 (aC 3 h.l),?_⟩;rw[c7];refine(KO av g.start).mono ?_;rintro _ w9⟨rfl,rfl⟩;have ad:hasB W g.start=true↔Pd g g.start:=by rw[tZ ω,a0.2,j9 ω]
 refine⟨_,rfl,ae (λa5=>?_) λa5=>?_⟩
 ·have hn:¬Pd g g.start:=λc9=>by rw[ad.2 c9] at a5;cases a5
  exact aL (h.pick 4 [2,0,1,3]) rfl (by intro v J;simp at J;rcases J with rfl|rfl|rfl|rfl|rfl<;>rfl) λcd h=>⟨_,_,_,_,_,_,_,_,_,_,_,_,_,h.row.at sZZ rfl,ba (.inr (.inl ⟨J,hn,rfl,rfl⟩)) h λ_ hh=>aC 2 hh⟩
 have c6:Pd g g.start:=ad.1 (by simpa using a5);refine⟨_,_,_,_,_,_,_,_,_,_,_,_,_,B.row (aC 3 h.l),_,_,a6.at sZZ rfl,(IK (x:=x) (hg.mono (aC 3 h.l)) hb he av a0).mono ?_⟩;rintro _ ck⟨pi,bs,rfl,al,c8⟩;have h:=c8.eM h;refine⟨_,_,rfl,ag h λbb cc h=>aL h rfl (by simp[aK]) λc5 h=>?_⟩;obtain⟨X,Z,h⟩:=St.mP [_] (M:=[_,_,_,_,_]) (h.pick 6 [4,0,1,2,3,5]);have sH:sub H X:=aC 4 Z;have bi:aq X ⟨bb,0,none⟩ [.pointer (some ⟨pi,0,none⟩),iI (g.T:Int)]:=af 0 Z;have bc:aq X ⟨a9,0,none⟩ [.pointer (some ⟨pm,0,none⟩),iI (g.T:Int)]:=af 2 Z;have bl:eV X (some ⟨pi,0,none⟩) bs:=acU 1 Z;have be:eV X (some ⟨pm,0,none⟩) W:=acU 3 Z;have O:gR X g x:=hg.mono sH;have BH:GB X k1 x:=⟨λs=>B.c0 (sub.trans sH s),λs=>B.c1 (sub.trans sH s),λs=>B.c2 (sub.trans sH s),λs=>B.c3 (sub.trans sH s),λs=>B.c4 (sub.trans sH s),λs=>B.row (sub.trans sH s)⟩;have bz:dP X:=eE.mono sH ht1;have h:St c5 [az k2 [zS,zS,zS,iI 0,zS],has X]:=h;obtain⟨b1,b2,b3,b4,b5,b6,b7⟩:=id hb;have cx:g.T=g.terms.length:=rfl
 have aa:∀(x':GA) os w',DU (ir g (W.drop g.T) (bs.drop g.T)) x'->os.length=(ir g (W.drop g.T) (bs.drop g.T)).prods.length->St w' (y7 (ir g (W.drop g.T) (bs.drop g.T)) x' os++[has X])->∃(a8:GA)(G:ah)(am:List (aiz×Nat))(e:Int),Value.tuple #[.agg ⟨x'.cells⟩,iI 0]=.tuple #[.agg ⟨a8.cells⟩,iI e]/\DU G a8/\am.length=G.prods.length/\M7 g e G/\St w' (y7 G a8 am++all w):=λx' os w' h1 h2 h3=>
  ⟨x',_,os,0,rfl,h1,h2,.inr (.inr ⟨J,c6,rfl,_,_,a0.cR,al.cR,rfl⟩),St.on (N:=[_,_,_,_,_]) h3 (bF (sub.trans gs sH))⟩
 refine⟨λo u=>∃(Y a7 cT cL:Nat)(oT V:aiz),o=some (aM Y)/\St u [az Y [vS oT g.terms.length cT,vS (some ⟨a7,0,none⟩) 1 1,vS V g.levels.length cL,iI 0,zS],own 2 oT g.terms.length cT (cQ g.terms),own 1 (some ⟨a7,0,none⟩) 1 1 [.string .empty],own 1 V g.levels.length cL (iv g.levels),az k2 [zS,zS,zS,iI 0,zS],has X],λcp hd=>?_,?_⟩
 rotate_left
 ·rintro _ _ ci⟨Y,a7,cT,cL,oT,V,rfl,h⟩;exact aeh O BH hb he a0 al be bl bc bi bz h aa
 have h:=h.drawn hd;clear aa;refine⟨λw=>sub X (hp w),aC 1 h.l,_,_,_,λw s=>BH.c0 s,_,_,_,λw s=>BH.c2 s,?_⟩
 refine⟨?_,?_,?_⟩
 ·refine(ua (O.t.mono (aC 1 h.l)) ω ω).mono ?_;rintro _ _⟨oT,cT,rfl,hN⟩;have h:=hN.eM h;refine⟨_,_,_,rfl,aC 2 h.l,?_⟩
  refine⟨?_,?_,?_⟩
  ·refine(dL (O.l.mono (aC 2 h.l)) ω ω).mono ?_;rintro _ _⟨V,cL,rfl,hN⟩;have h:=hN.eM h;refine⟨_,_,_,rfl,aC 3 h.l,?_⟩
   refine⟨?_,?_⟩
   ·refine ag h λkS _ h=>⟨aC 4 h.l,?_⟩;refine ag h λY _ h=>⟨aC 5 h.l,?_⟩;have h:=bg (cs:=[]) (vs:=[.string .empty]) (l:=1) (c:=1) (sz:=1) (h.pick 6 [1,0,3,2,4,5]) rfl rfl (agT _);refine aL (h.pick 6 [1,2,0,3,4,5]) rfl (by intro v J;simp at J;rcases J with rfl|rfl|rfl|rfl|rfl<;>rfl) λU h=>?_;exact⟨_,_,_,_,_,_,rfl,h⟩
   ·refine ag h λY _ h=>⟨aC 4 h.l,?_⟩;refine ag h λkS _ h=>⟨aC 5 h.l,?_⟩;have h:=bg (cs:=[]) (vs:=[.string .empty]) (l:=1) (c:=1) (sz:=1) (h.pick 6 [0,1,3,2,4,5]) rfl rfl (agT _);refine aL (h.pick 6 [1,2,0,3,4,5]) rfl (by intro v J;simp at J;rcases J with rfl|rfl|rfl|rfl|rfl<;>rfl) λU h=>?_;exact⟨_,_,_,_,_,_,rfl,h⟩
  ·refine ag h λkS _ h=>⟨aC 3 h.l,?_⟩
   refine⟨?_,?_⟩
   ·refine(dL (O.l.mono (aC 3 h.l)) ω ω).mono ?_;rintro _ _⟨V,cL,rfl,hN⟩;have h:=hN.eM h;refine⟨_,_,_,rfl,aC 4 h.l,?_⟩;refine ag h λY _ h=>⟨aC 5 h.l,?_⟩;have h:=bg (cs:=[]) (vs:=[.string .empty]) (l:=1) (c:=1) (sz:=1) (h.pick 6 [2,0,3,1,4,5]) rfl rfl (agT _);refine aL (h.pick 6 [1,2,0,3,4,5]) rfl (by intro v J;simp at J;rcases J with rfl|rfl|rfl|rfl|rfl<;>rfl) λU h=>?_;exact⟨_,_,_,_,_,_,rfl,h⟩
   ·refine ag h λY _ h=>⟨aC 4 h.l,?_⟩;refine(dL (O.l.mono (aC 4 h.l)) ω ω).mono ?_;rintro _ _⟨V,cL,rfl,hN⟩;have h:=hN.eM h;refine⟨_,_,_,rfl,aC 5 h.l,?_⟩;have h:=bg (cs:=[]) (vs:=[.string .empty]) (l:=1) (c:=1) (sz:=1) (h.pick 6 [2,1,3,0,4,5]) rfl rfl (agT _);refine aL (h.pick 6 [1,2,0,3,4,5]) rfl (by intro v J;simp at J;rcases J with rfl|rfl|rfl|rfl|rfl<;>rfl) λU h=>?_;exact⟨_,_,_,_,_,_,rfl,h⟩
  ·refine ag h λY _ h=>⟨aC 3 h.l,?_⟩
   refine⟨?_,?_⟩
   ·refine(dL (O.l.mono (aC 3 h.l)) ω ω).mono ?_;rintro _ _⟨V,cL,rfl,hN⟩;have h:=hN.eM h;refine⟨_,_,_,rfl,aC 4 h.l,?_⟩;refine ag h λkS _ h=>⟨aC 5 h.l,?_⟩;have h:=bg (cs:=[]) (vs:=[.string .empty]) (l:=1) (c:=1) (sz:=1) (h.pick 6 [0,2,3,1,4,5]) rfl rfl (agT _);refine aL (h.pick 6 [1,2,0,3,4,5]) rfl (by intro v J;simp at J;rcases J with rfl|rfl|rfl|rfl|rfl<;>rfl) λU h=>?_;exact⟨_,_,_,_,_,_,rfl,h⟩
   ·refine ag h λkS _ h=>⟨aC 4 h.l,?_⟩;refine(dL (O.l.mono (aC 4 h.l)) ω ω).mono ?_;rintro _ _⟨V,cL,rfl,hN⟩;have h:=hN.eM h;refine⟨_,_,_,rfl,aC 5 h.l,?_⟩;have h:=bg (cs:=[]) (vs:=[.string .empty]) (l:=1) (c:=1) (sz:=1) (h.pick 6 [1,2,3,0,4,5]) rfl rfl (agT _);refine aL (h.pick 6 [1,2,0,3,4,5]) rfl (by intro v J;simp at J;rcases J with rfl|rfl|rfl|rfl|rfl<;>rfl) λU h=>?_;exact⟨_,_,_,_,_,_,rfl,h⟩
 ·refine ag h λkS _ h=>⟨aC 2 h.l,?_⟩
  refine⟨?_,?_⟩
  ·refine(ua (O.t.mono (aC 2 h.l)) ω ω).mono ?_;rintro _ _⟨oT,cT,rfl,hN⟩;have h:=hN.eM h;refine⟨_,_,_,rfl,aC 3 h.l,?_⟩
   refine⟨?_,?_⟩
   ·refine(dL (O.l.mono (aC 3 h.l)) ω ω).mono ?_;rintro _ _⟨V,cL,rfl,hN⟩;have h:=hN.eM h;refine⟨_,_,_,rfl,aC 4 h.l,?_⟩;refine ag h λY _ h=>⟨aC 5 h.l,?_⟩;have h:=bg (cs:=[]) (vs:=[.string .empty]) (l:=1) (c:=1) (sz:=1) (h.pick 6 [3,0,2,1,4,5]) rfl rfl (agT _);refine aL (h.pick 6 [1,2,0,3,4,5]) rfl (by intro v J;simp at J;rcases J with rfl|rfl|rfl|rfl|rfl<;>rfl) λU h=>?_;exact⟨_,_,_,_,_,_,rfl,h⟩
   ·refine ag h λY _ h=>⟨aC 4 h.l,?_⟩;refine(dL (O.l.mono (aC 4 h.l)) ω ω).mono ?_;rintro _ _⟨V,cL,rfl,hN⟩;have h:=hN.eM h;refine⟨_,_,_,rfl,aC 5 h.l,?_⟩;have h:=bg (cs:=[]) (vs:=[.string .empty]) (l:=1) (c:=1) (sz:=1) (h.pick 6 [3,1,2,0,4,5]) rfl rfl (agT _);refine aL (h.pick 6 [1,2,0,3,4,5]) rfl (by intro v J;simp at J;rcases J with rfl|rfl|rfl|rfl|rfl<;>rfl) λU h=>?_;exact⟨_,_,_,_,_,_,rfl,h⟩
  ·refine ag h λY _ h=>⟨aC 3 h.l,?_⟩;refine(ua (O.t.mono (aC 3 h.l)) ω ω).mono ?_;rintro _ _⟨oT,cT,rfl,hN⟩;have h:=hN.eM h;refine⟨_,_,_,rfl,aC 4 h.l,?_⟩;refine(dL (O.l.mono (aC 4 h.l)) ω ω).mono ?_;rintro _ _⟨V,cL,rfl,hN⟩;have h:=hN.eM h;refine⟨_,_,_,rfl,aC 5 h.l,?_⟩;have h:=bg (cs:=[]) (vs:=[.string .empty]) (l:=1) (c:=1) (sz:=1) (h.pick 6 [3,2,1,0,4,5]) rfl rfl (agT _);refine aL (h.pick 6 [1,2,0,3,4,5]) rfl (by intro v J;simp at J;rcases J with rfl|rfl|rfl|rfl|rfl<;>rfl) λU h=>?_;exact⟨_,_,_,_,_,_,rfl,h⟩
 ·refine ag h λY _ h=>⟨aC 2 h.l,?_⟩
  refine⟨?_,?_⟩
  ·refine(ua (O.t.mono (aC 2 h.l)) ω ω).mono ?_;rintro _ _⟨oT,cT,rfl,hN⟩;have h:=hN.eM h;refine⟨_,_,_,rfl,aC 3 h.l,?_⟩
   refine⟨?_,?_⟩
   ·refine(dL (O.l.mono (aC 3 h.l)) ω ω).mono ?_;rintro _ _⟨V,cL,rfl,hN⟩;have h:=hN.eM h;refine⟨_,_,_,rfl,aC 4 h.l,?_⟩;refine ag h λkS _ h=>⟨aC 5 h.l,?_⟩;have h:=bg (cs:=[]) (vs:=[.string .empty]) (l:=1) (c:=1) (sz:=1) (h.pick 6 [0,3,2,1,4,5]) rfl rfl (agT _);refine aL (h.pick 6 [1,2,0,3,4,5]) rfl (by intro v J;simp at J;rcases J with rfl|rfl|rfl|rfl|rfl<;>rfl) λU h=>?_;exact⟨_,_,_,_,_,_,rfl,h⟩
   ·refine ag h λkS _ h=>⟨aC 4 h.l,?_⟩;refine(dL (O.l.mono (aC 4 h.l)) ω ω).mono ?_;rintro _ _⟨V,cL,rfl,hN⟩;have h:=hN.eM h;refine⟨_,_,_,rfl,aC 5 h.l,?_⟩;have h:=bg (cs:=[]) (vs:=[.string .empty]) (l:=1) (c:=1) (sz:=1) (h.pick 6 [1,3,2,0,4,5]) rfl rfl (agT _);refine aL (h.pick 6 [1,2,0,3,4,5]) rfl (by intro v J;simp at J;rcases J with rfl|rfl|rfl|rfl|rfl<;>rfl) λU h=>?_;exact⟨_,_,_,_,_,_,rfl,h⟩
  ·refine ag h λkS _ h=>⟨aC 3 h.l,?_⟩;refine(ua (O.t.mono (aC 3 h.l)) ω ω).mono ?_;rintro _ _⟨oT,cT,rfl,hN⟩;have h:=hN.eM h;refine⟨_,_,_,rfl,aC 4 h.l,?_⟩;refine(dL (O.l.mono (aC 4 h.l)) ω ω).mono ?_;rintro _ _⟨V,cL,rfl,hN⟩;have h:=hN.eM h;refine⟨_,_,_,rfl,aC 5 h.l,?_⟩;have h:=bg (cs:=[]) (vs:=[.string .empty]) (l:=1) (c:=1) (sz:=1) (h.pick 6 [2,3,1,0,4,5]) rfl rfl (agT _);refine aL (h.pick 6 [1,2,0,3,4,5]) rfl (by intro v J;simp at J;rcases J with rfl|rfl|rfl|rfl|rfl<;>rfl) λU h=>?_;exact⟨_,_,_,_,_,_,rfl,h⟩
end
def M9:aW:={ rngs:=[],loops:=[(11,[(41,(.one (.int .i64)))])],joins:=[],blocks:=[] }
def PQ(a:aiz)(b c:Nat)(d:aiz)(e f:Nat)(g:aiz)(i j:Nat)(k:Int)(l:aiz)(m n:Nat)(w:aiA)(R:Value->WP):Prop:=  new w (ψ a b c d e f g i j k l m n) λa b=>new b (oC [vP none] 28) λb c=>new c (oC [iI 0,iI 0,zS] 31) λc d=>new d (oC [zS,zS,zS,iI 0,zS,zS,iI 0,iI 0,zS,zS,zS,zS,zS,zS,zS,zS,zS,zS,zS,zS,vB false] 110) λd e=>st1 e (aM b) (vP (some (aM d))) λd=>∃e f g h i j k l m n o p q,rowAt d (aM a) 0 5=some [vS e f g,vS h i j,vS k l m,iI n,vS o p q]/\iA Tryz.prog Ev 39 [vA (Array.mk [vS e f g,vS h i j,vS k l m,iI n,vS o p q])] d λa d=>∃e f g h i j k l m n o p q r,a=vT (Array.mk [vA (Array.mk [vS e f g,vS h i j,vS k l m,iI n,vS o p q]),iI r])/\new d (oC [zS,zS,zS,iI 0,zS] 27) λa d=>bA d (aM a) [vS e f g,vS h i j,vS k l m,iI n,vS o p q] λd=>br (r !=0) (∃a,World.cell? d (aM b)=some (vP a)/\st1 d (aM b) (vP a) λa=>bA a (aM c) [iI r,iI 0,zS] λa=>JE Tryz.prog Ev 38 [vP (some (aM c)),vP (some (aM b))] a λa=>∃d,World.cell? a (aM b)=some (vP d)/\∃b e f g h,rowAt a (aM c) 0 3=some [iI b,iI e,vS f g h]/\R (vT (Array.mk [vP d,vA (Array.mk [iI b,iI e,vS f g h])])) a) (∃e,World.cell? d (aM b)=some (vP e)/\∃f g h i j k l m n o p q r,rowAt d (aM a) 0 5=some [vS f g h,vS i j k,vS l m n,iI o,vS p q r]/\nn e λe=>bA d e [vS f g h,vS i j k,vS l m n,iI o,vS p q r] λd=>∃e f g h i j k l m n o p q,rowAt d (aM a) 0 5=some [vS e f g,vS h i j,vS k l m,iI n,vS o p q]/\iA Tryz.prog Ev 40 [vA (Array.mk [vS e f g,vS h i j,vS k l m,iI n,vS o p q])] d λd e=>∃f g h i,d=vT (Array.mk [vS f g h,iI i])/\br (decide (0<(↑g:Int))) (st1 e (aM c) (iI 13) λd=>τ [(41,aN)] λe h=>e 0 d/\∀(_:ν) d i,e d i->br (decide (d<(↑g:Int))) (idx f g d 1 λb=>∃f,World.cell? i b=some (iI f)/\∀b,drawn i b->∃(g:aiA->Prop),g b/\dLs g (Addr.add (aM c) 2) λj k l=>dLs g (Addr.add (aM a) 1) λm n o=>dLs g (aM a) λo p q=>aA (f-(↑p:Int))/\idx m n (f-(↑p:Int)) 1 λa=>∃f,(∀b,g b->World.cell? b a=some (Value.string f))/\new b (oC [Value.string f] 9) λa b=>g b/\aY Tryz.prog (fW1 23 [vS j k l,vS (some (aM a)) 1 1]) b λa b=>∃f j k,a=vS f j k/\g b/\st1 b (Addr.add (aM c) 2) (vS f j k) λa=>aA (d+1)/\nA e h (d+1) a d i) (∀a,drawn i a->∃(d:aiA->Prop),d a/\dLp d (aM b) λe=>∃f g h i j,(∀a,d a->rowAt a (aM c) 0 3=some [iI f,iI g,vS h i j])/\st1 a (aM b) (vP e) λa=>d a/\bA a (aM c) [iI f,iI g,vS h i j] λa=>JE Tryz.prog Ev 38 [vP (some (aM c)),vP (some (aM b))] a λa=>∃d,World.cell? a (aM b)=some (vP d)/\∃b e f g h,rowAt a (aM c) 0 3=some [iI b,iI e,vS f g h]/\R (vT (Array.mk [vP d,vA (Array.mk [iI b,iI e,vS f g h])])) a)) (∀d,drawn e d->∃(e:aiA->Prop),e d/\dLp e (aM b) λf=>∃g h i j k l m n o p q r s,(∀b,e b->rowAt b (aM a) 0 5=some [vS g h i,vS j k l,vS m n o,iI p,vS q r s])/\iA Tryz.prog Ev 41 [vA (Array.mk [vS g h i,vS j k l,vS m n o,iI p,vS q r s])] d λd g=>∃h i j k l m,d=vT (Array.mk [vA (Array.mk [vS h i j,iI k,iI l]),iI m])/\e g/\nn f λd=>bA g (Addr.add d 5) [vS h i j,iI k,iI l] λd=>e d/\br (m !=0) (∃a,World.cell? d (aM b)=some (vP a)/\st1 d (aM b) (vP a) λa=>bA a (aM c) [iI m,iI 0,zS] λa=>JE Tryz.prog Ev 38 [vP (some (aM c)),vP (some (aM b))] a λa=>∃d,World.cell? a (aM b)=some (vP d)/\∃b e f g h,rowAt a (aM c) 0 3=some [iI b,iI e,vS f g h]/\R (vT (Array.mk [vP d,vA (Array.mk [iI b,iI e,vS f g h])])) a) (∀e,drawn d e->∃(d:aiA->Prop),d e/\dLp d (aM b) λf=>∃g h i j k l m n o p q r s,(∀b,d b->rowAt b (aM a) 0 5=some [vS g h i,vS j k l,vS m n o,iI p,vS q r s])/\iA Tryz.prog Ev 42 [vA (Array.mk [vS g h i,vS j k l,vS m n o,iI p,vS q r s])] e λe g=>∃h i j k,e=vT (Array.mk [vS h i j,iI k])/\d g/\nn f λe=>st1 g (Addr.add (Addr.add e 5) 3) (vS h i j) λe=>d e/\∀d,drawn e d->∃(e:aiA->Prop),e d/\dLp e (aM b) λf=>∃g h i j k l m n o p q r s,(∀b,e b->rowAt b (aM a) 0 5=some [vS g h i,vS j k l,vS m n o,iI p,vS q r s])/\iA Tryz.prog Ev 43 [vA (Array.mk [vS g h i,vS j k l,vS m n o,iI p,vS q r s])] d λd g=>∃h i j k l m n o p q,d=vT (Array.mk [vA (Array.mk [vS h i j,vS k l m,vS n o p]),iI q])/\e g/\nn f λd=>bA g (Addr.add d 9) [vS h i j,vS k l m,vS n o p] λd=>e d/\∀e,drawn d e->∃(d:aiA->Prop),d e/\dLp d (aM b) λf=>dLp d (aM b) λg=>nn g λg=>∃h i j k l m,(∀a,d a->rowAt a (Addr.add g 9) 0 2=some [vS h i j,vS k l m])/\iA Tryz.prog Ev 44 [vA (Array.mk [vS h i j,vS k l m])] e λe g=>∃h i j k l m n o p q r s t u v w x y z a0 a1 a2 a3 a4 a5,e=vT (Array.mk [vA (Array.mk [vS h i j,vS k l m,vS n o p,vS q r s,vS t u v,vS w x y,vS z a0 a1,vS a2 a3 a4]),iI a5])/\d g/\nn f λe=>bA g (Addr.add (Addr.add e 9) 3) [vS h i j,vS k l m,vS n o p,vS q r s,vS t u v,vS w x y,vS z a0 a1,vS a2 a3 a4] λe=>d e/\∃d f g h i j k l m n o p q,rowAt e (aM a) 0 5=some [vS d f g,vS h i j,vS k l m,iI n,vS o p q]/\iA Tryz.prog Ev 45 [vA (Array.mk [vS d f g,vS h i j,vS k l m,iI n,vS o p q])] e λa d=>∃e f g h,a=vT (Array.mk [vS e f g,iI h])/\∃a,World.cell? d (aM b)=some (vP a)/\nn a λa=>st1 d (Addr.add (Addr.add a 9) 11) (vB ((↑f:Int)==0)) λa=>∃d,World.cell? a (aM b)=some (vP d)/\st1 a (aM b) (vP d) λa=>bA a (aM c) [iI 0,iI 0,zS] λa=>JE Tryz.prog Ev 38 [vP (some (aM c)),vP (some (aM b))] a λa=>∃d,World.cell? a (aM b)=some (vP d)/\∃b e f g h,rowAt a (aM c) 0 3=some [iI b,iI e,vS f g h]/\R (vT (Array.mk [vP d,vA (Array.mk [iI b,iI e,vS f g h])])) a)))
theorem M_(a:aiz)(b c:Nat)(d:aiz)(e f:Nat)(g:aiz)(i j:Nat)(k:Int)(l:aiz)(m n:Nat)(w:aiA)(R:Value->WP)(h:PQ a b c d e f g i j k l m n w R):ρ 8 [φ a b c d e f g i j k l m n] w R:=rvD Tryz.func8 M9 (by kernel_rfl) h
section
variable{a b c d:aiz}{i j k l m n o p:Nat}{A B:Int}{w:aiA}{R:Value->WP}
theorem sg(h:new w (oC [zS,zS,zS,iI 0,zS] 27) λb c=>rEp 46 [vP a] c λd c=>nn d λa=>rE 47 [vP (some a)] c λa c=>∃d e f g h i j k l m n o p,a=vG [vS d e f,vS g h i,vS j k l,iI m,vS n o p]/\bA c (aM b) [vS d e f,vS g h i,vS j k l,iI m,vS n o p] λa=>χ a (aM b) λb=>R (b) a):ρ 9 [.pointer a] w R:=rv Tryz.func9 h
theorem vc(h:rEp 46 [vP a] w λc b=>nn c λa=>rEb 48 [vP (some (a.add 9))] b λc b=>R (vB c) b):ρ 11 [.pointer a] w R:=rv Tryz.func11 h
theorem sj(h:new w (oC [zS,zS,zS] 96) λb c=>rEp 46 [vP a] c λd c=>nn d λa=>rE 80 [vP (some (a.add 9))] c λa c=>∃d e f g h i j k l,a=vG [vS d e f,vS g h i,vS j k l]/\bA c (aM b) [vS d e f,vS g h i,vS j k l] λa=>∃c d e f g h i j k,rA a (aM b) 3 [vS c d e,vS f g h,vS i j k]/\R (vG [vS c d e,vS f g h,vS i j k]) a):ρ 37 [.pointer a] w R:=rv Tryz.func37 h
abbrev Ke:FuncId:=38
def vt:aW:={ rngs:=[],loops:=[],joins:=[],blocks:=[] }
def yk(c0:Addr)(c1:Addr)(w:aiA)(R:aiA->Prop):Prop:=  ∃n1,World.cell? w c0=some (iI n1)/\br (n1 !=0) (st1 w c1 (vP none) λw1=>R w1) (R w)
theorem Gk(c0:Addr)(c1:Addr)(w:aiA)(R:aiA->Prop)(h:yk c0 c1 w R):JE Tryz.prog Ev 38 [(.pointer (some c0)),(.pointer (some c1))] w R:=
 aaq aT WQ mixed Tryz.func38 vt ac2 (by kernel_rfl) ((by kernel_rfl:Z6 Tryz.prog Ty Fn Ev vt Tryz.f38 [(.pointer (some c0)),(.pointer (some c1))] w (λ_ w=>R w)=yk c0 c1 w R)▸h)
theorem IU(h:new w (ψ a i j b k l c m n A d o p) λa b=>new b (oC [zS,zS,zS,iI 0,zS] 27) λb c=>χ c (aM a) λd=>rEb 81 [d] c λe d=>br (!e) (χ d (aM a) λa=>rE 82 [a] d λa c=>∃d e f g h i j k l m n o p q,a=vU [vG [vS d e f,vS g h i,vS j k l,iI m,vS n o p],iI q]/\bA c (aM b) [vS d e f,vS g h i,vS j k l,iI m,vS n o p] λa=>χ a (aM b) λb=>R (vU [b,iI q]) a) (χ d (aM a) λc=>rE 83 [c] d λc d=>∃e f g h,c=vU [vS e f g,iI h]/\br (h !=0) (bA d (aM b) [zS,zS,zS,iI 0,zS] λa=>χ a (aM b) λb=>R (vU [b,iI 1]) a) (rEb 84 [vS e f g,vB false] d λe d=>br e (bA d (aM b) [zS,zS,zS,iI 0,zS] λa=>χ a (aM b) λb=>R (vU [b,iI 1]) a) (χ d (aM a) λa=>rE 85 [a] d λa c=>∃d e f g h i j k l m n o p,a=vG [vS d e f,vS g h i,vS j k l,iI m,vS n o p]/\bA c (aM b) [vS d e f,vS g h i,vS j k l,iI m,vS n o p] λa=>χ a (aM b) λb=>R (vU [b,iI 0]) a)))):ρ 39 [φ a i j b k l c m n A d o p] w R:=rv Tryz.func39 h
theorem wq(h:br (Option.isNone a) (new w (oC [zS,zS,zS,iI 0,zS,zS,iI 0,iI 0,zS,zS,zS,zS,zS,zS,zS,zS,zS,zS,zS,zS,vB false] 110) λa b=>R (vP (some (aM a))) b) (R (vP a) w)):ρ 46 [.pointer a] w R:=rv Tryz.func46 h
theorem qz(h:new w (oC [zS,zS,zS,iI 0,zS] 27) λb c=>br (Option.isNone a) (bA c (aM b) [zS,zS,zS,iI 0,zS] λa=>χ a (aM b) λb=>R (b) a) (nn a λa=>∃d e f g h i j k l m n o p,rA c a 5 [vS d e f,vS g h i,vS j k l,iI m,vS n o p]/\rE 85 [vG [vS d e f,vS g h i,vS j k l,iI m,vS n o p]] c λa c=>∃d e f g h i j k l m n o p,a=vG [vS d e f,vS g h i,vS j k l,iI m,vS n o p]/\bA c (aM b) [vS d e f,vS g h i,vS j k l,iI m,vS n o p] λa=>χ a (aM b) λb=>R (b) a)):ρ 47 [.pointer a] w R:=rv Tryz.func47 h
theorem vg{a:aiz}{w:aiA}{R:Value->WP}(h:br (!Option.isNone a) (nn a λa=>cLb w (a.add 11) λb=>R (vB b) w) (R (vB false) w)):ρ 48 [.pointer a] w R:=rv Tryz.func48 h
theorem su(h:new w (oC [zS,zS,zS] 96) λb c=>br (Option.isNone a) (bA c (aM b) [zS,zS,zS] λa=>∃c d e f g h i j k,rA a (aM b) 3 [vS c d e,vS f g h,vS i j k]/\R (vG [vS c d e,vS f g h,vS i j k]) a) (dW1 c λd c=>nn a λe=>dLs c e λf g h=>nn a λe=>dLs c (e.add 1) λi j k=>(rEs 158 [vS f g h,vF1 159 []] d λf g h e=>c e/\(rEs 160 [vS i j k,vF1 161 []] e λi j k e=>c e/\new e (oC [zS,zS] 94) λd e=>c e/\bA e (aM d) [vS f g h,vS i j k] λc=>nn a λa=>cLs c (a.add 2) λe f g=>rEs 162 [vS e f g,vF1 163 []] c λe f g c=>∃a h i j k l,rA c (aM d) 2 [vS a h i,vS j k l]/\bA c (aM b) [vS a h i,vS j k l,vS e f g] λa=>∃c d e f g h i j k,rA a (aM b) 3 [vS c d e,vS f g h,vS i j k]/\R (vG [vS c d e,vS f g h,vS i j k]) a)/\new e (oC [zS,zS] 94) λd e=>c e/\rEs 160 [vS i j k,vF1 161 []] e λj k l i=>c i/\bA i (aM d) [vS f g h,vS j k l] λc=>nn a λa=>cLs c (a.add 2) λe f g=>rEs 162 [vS e f g,vF1 163 []] c λe f g c=>∃a h i j k l,rA c (aM d) 2 [vS a h i,vS j k l]/\bA c (aM b) [vS a h i,vS j k l,vS e f g] λa=>∃c d e f g h i j k,rA a (aM b) 3 [vS c d e,vS f g h,vS i j k]/\R (vG [vS c d e,vS f g h,vS i j k]) a)/\new d (oC [zS,zS] 94) λd e=>c e/\rEs 158 [vS f g h,vF1 159 []] e λg h l f=>c f/\rEs 160 [vS i j k,vF1 161 []] f λi j k f=>c f/\bA f (aM d) [vS g h l,vS i j k] λc=>nn a λa=>cLs c (a.add 2) λe f g=>rEs 162 [vS e f g,vF1 163 []] c λe f g c=>∃a h i j k l,rA c (aM d) 2 [vS a h i,vS j k l]/\bA c (aM b) [vS a h i,vS j k l,vS e f g] λa=>∃c d e f g h i j k,rA a (aM b) 3 [vS c d e,vS f g h,vS i j k]/\R (vG [vS c d e,vS f g h,vS i j k]) a)):ρ 80 [.pointer a] w R:=rv Tryz.func80 h
theorem Kg(h:new w (ψ a i j b k l c m n A d o p) λa b=>new b (oC [zS,zS,zS,iI 0,zS] 27) λb c=>∃(d:lP [(3,S1.one Cs.ptr)]),(dW1 c λb c=>dLs c (aM a) λe f g=>dLs c (Addr.add (aM a) 1) λh i j=>dLs c (Addr.add (aM a) 2) λk l m=>dLi c (Addr.add (aM a) 3) λn=>(rEs 170 [vS e f g] b λe f g b=>c b/\(rEs 176 [vS e f g] b λe f g b=>c b/\(rEs 178 [vS h i j] b λh i j b=>c b/\(rEs 177 [vS h i j] b λh i j b=>c b/\(rEs 115 [vS k l m] b λk l m b=>c b/\(rEs 132 [vS k l m] b λk l m b=>c b/\new b (oC [zS,zS,zS,iI 0,zS] 27) λa b=>c b/\bA b (aM a) [vS e f g,vS h i j,vS k l m,iI n,zS] λb=>d (some (aM a)) b)/\new b (oC [zS,zS,zS,iI 0,zS] 27) λa b=>c b/\rEs 132 [vS k l m] b λl m o k=>c k/\bA k (aM a) [vS e f g,vS h i j,vS l m o,iI n,zS] λb=>d (some (aM a)) b)/\new b (oC [zS,zS,zS,iI 0,zS] 27) λa b=>c b/\rEs 115 [vS k l m] b λl m o k=>c k/\rEs 132 [vS l m o] k λl m o k=>c k/\bA k (aM a) [vS e f g,vS h i j,vS l m o,iI n,zS] λb=>d (some (aM a)) b)/\new b (oC [zS,zS,zS,iI 0,zS] 27) λa b=>c b/\rEs 177 [vS h i j] b λi j o h=>c h/\rEs 115 [vS k l m] h λk l m h=>c h/\rEs 132 [vS k l m] h λk l m h=>c h/\bA h (aM a) [vS e f g,vS i j o,vS k l m,iI n,zS] λb=>d (some (aM a)) b)/\new b (oC [zS,zS,zS,iI 0,zS] 27) λa b=>c b/\rEs 178 [vS h i j] b λi j o h=>c h/\rEs 177 [vS i j o] h λi j o h=>c h/\rEs 115 [vS k l m] h λk l m h=>c h/\rEs 132 [vS k l m] h λk l m h=>c h/\bA h (aM a) [vS e f g,vS i j o,vS k l m,iI n,zS] λb=>d (some (aM a)) b)/\new b (oC [zS,zS,zS,iI 0,zS] 27) λa b=>c b/\rEs 176 [vS e f g] b λf g o e=>c e/\rEs 178 [vS h i j] e λh i j e=>c e/\rEs 177 [vS h i j] e λh i j e=>c e/\rEs 115 [vS k l m] e λk l m e=>c e/\rEs 132 [vS k l m] e λk l m e=>c e/\bA e (aM a) [vS f g o,vS h i j,vS k l m,iI n,zS] λb=>d (some (aM a)) b)/\new b (oC [zS,zS,zS,iI 0,zS] 27) λa b=>c b/\rEs 170 [vS e f g] b λf g o e=>c e/\rEs 176 [vS f g o] e λf g o e=>c e/\rEs 178 [vS h i j] e λh i j e=>c e/\rEs 177 [vS h i j] e λh i j e=>c e/\rEs 115 [vS k l m] e λk l m e=>c e/\rEs 132 [vS k l m] e λk l m e=>c e/\bA e (aM a) [vS f g o,vS h i j,vS k l m,iI n,zS] λb=>d (some (aM a)) b)/\∀(_:ν) c e,d c e->cLs e (Addr.add (aM a) 4) λd f g=>τ [(24,aN)] λa g=>a 0 e/\∀(_:ν) e h,a e h->bQ (e<(f:Int)) (idx d f e 3 λb=>∃d f i j k,rA h b 3 [iI d,vS f i j,iI k]/\new h (oC [iI 0,zS,iI 0] 134) λb l=>bA l (aM b) [iI d,vS f i j,iI k] λd=>cLs d (Addr.add (aM b) 1) λf i j=>rEs 115 [vS f i j] d λi j k f=>rEs 132 [vS i j k] f λi j k f=>st1 f (Addr.add (aM b) 1) (vS i j k) λd=>nn c λf=>cLs d (f.add 4) λi j k=>∃f l m n o,rA d (aM b) 3 [iI f,vS l m n,iI o]/\new d (oC [iI f,vS l m n,iI o] 134) λb d=>rS (fW1 25 [vS i j k,vS (some (aM b)) 1 1]) d λb d=>∃f i j,b=vS f i j/\nn c λb=>st1 d (b.add 4) (vS f i j) λb=>aA (e+1)/\nA a g (e+1) b e h) (nn c λa=>∃c d e f g i j k l m n o p,rA h a 5 [vS c d e,vS f g i,vS j k l,iI m,vS n o p]/\bA h (aM b) [vS c d e,vS f g i,vS j k l,iI m,vS n o p] λa=>χ a (aM b) λb=>R (b) a)):ρ 85 [φ a i j b k l c m n A d o p] w R:=rv Tryz.func85 h ⟨[(3,[(24,aN)])],[(2,[(3,(.one .ptr))])],[],[]⟩
theorem nP{d:FuncId}{e:List Value}(h:τ [(5,kT),(10,aN)] λb c=>b none 0 0 0 w/\∀(_:ν) f g h j k,b f g h j k->bQ (j<(i:Int)) (idx a i j 1 λa=>cLs k a λi l m=>pj (Fn d) (rEs d (vS i l m::e) k λe i l d=>new d (oC [vS e i l] 86) λa d=>rS (fW1 92 [vS f g h,vS (some (aM a)) 1 1]) d λa d=>∃e i l,a=vS e i l/\aA (j+1)/\nD1 b c e i l (j+1) d f g h j k)) (rEs 250 [vS f g h] k λc d e b=>R (vS c d e) b)):ρ 158 [vS a i j,(.func (.func d) #[] ⟨e⟩)] w R:=rv Tryz.func158 h ⟨[(3,[(5,kT),(10,aN)])],[],[],[]⟩
abbrev eZ:FuncId:=159
theorem p8(h:rEs 251 [vS a i j] w λc d e b=>rEs 202 [vS c d e] b λc d e b=>R (vS c d e) b):ρ 159 [vS a i j] w R:=rv Tryz.func159 h
theorem wv{d:FuncId}{e:List Value}(h:τ [(5,kT),(10,aN)] λb c=>b none 0 0 0 w/\∀(_:ν) f g h j k,b f g h j k->bQ (j<(i:Int)) (idx a i j 1 λa=>cLs k a λi l m=>pj (Fn d) (rEs d (vS i l m::e) k λe i l d=>new d (oC [vS e i l] 24) λa d=>rS (fW1 71 [vS f g h,vS (some (aM a)) 1 1]) d λa d=>∃e i l,a=vS e i l/\aA (j+1)/\nD1 b c e i l (j+1) d f g h j k)) (rEs 252 [vS f g h] k λc d e b=>R (vS c d e) b)):ρ 160 [vS a i j,(.func (.func d) #[] ⟨e⟩)] w R:=rv Tryz.func160 h ⟨[(3,[(5,kT),(10,aN)])],[],[],[]⟩
abbrev lL:FuncId:=161
theorem zR(h:rEs 115 [vS a i j] w λc d e b=>rEs 132 [vS c d e] b λc d e b=>R (vS c d e) b):ρ 161 [vS a i j] w R:=rv Tryz.func161 h
theorem p_{d:FuncId}{e:List Value}(h:τ [(5,kT),(10,aN)] λb c=>b none 0 0 0 w/\∀(_:ν) f g h j k,b f g h j k->bQ (j<(i:Int)) (idx a i j 3 λa=>∃i l m n o,rA k a 3 [iI i,iI l,vS m n o]/\new k (oC [iI 0,iI 0,zS] 90) λa p=>bA p (aM a) [iI i,iI l,vS m n o] λi=>∃l m n o p,rA i (aM a) 3 [iI l,iI m,vS n o p]/\pj (Fn d) (rE d (vG [iI l,iI m,vS n o p]::e) i λa d=>∃e i l m n,a=vG [iI e,iI i,vS l m n]/\new d (oC [iI e,iI i,vS l m n] 90) λa d=>rS (fW1 83 [vS f g h,vS (some (aM a)) 1 1]) d λa d=>∃e i l,a=vS e i l/\aA (j+1)/\nD1 b c e i l (j+1) d f g h j k)) (rEs 253 [vS f g h] k λc d e b=>R (vS c d e) b)):ρ 162 [vS a i j,(.func (.func d) #[] ⟨e⟩)] w R:=rv Tryz.func162 h ⟨[(3,[(5,kT),(10,aN)])],[],[],[]⟩
abbrev eH:FuncId:=163
theorem oR(h:new w (oC [iI A,iI B,vS a i j] 90) λa b=>new b (oC [iI 0,iI 0,zS] 90) λb c=>cLs c (Addr.add (aM a) 2) λd e f=>rEs 159 [vS d e f] c λe f g d=>st1 d (Addr.add (aM a) 2) (vS e f g) λc=>∃d e f g h,rA c (aM a) 3 [iI d,iI e,vS f g h]/\bA c (aM b) [iI d,iI e,vS f g h] λa=>∃c d e f g,rA a (aM b) 3 [iI c,iI d,vS e f g]/\R (vG [iI c,iI d,vS e f g]) a):ρ 163 [(.agg #[iI A,iI B,vS a i j])] w R:=rv Tryz.func163 h
theorem ud(h:new w (oC [zS,zS,zS,zS,zS,zS,zS,zS] 106) λb c=>rEp 46 [vP a] c λd c=>nn d λa=>rE 302 [vP (some (a.add 9))] c λa c=>∃d e f g h i j k l m n o p q r s t u v w x y z a0,a=vG [vS d e f,vS g h i,vS j k l,vS m n o,vS p q r,vS s t u,vS v w x,vS y z a0]/\bA c (aM b) [vS d e f,vS g h i,vS j k l,vS m n o,vS p q r,vS s t u,vS v w x,vS y z a0] λa=>∃c d e f g h i j k l m n o p q r s t u v w x y z,rA a (aM b) 8 [vS c d e,vS f g h,vS i j k,vS l m n,vS o p q,vS r s t,vS u v w,vS x y z]/\R (vG [vS c d e,vS f g h,vS i j k,vS l m n,vS o p q,vS r s t,vS u v w,vS x y z]) a):ρ 218 [.pointer a] w R:=rv Tryz.func218 h
theorem uf(h:new w (oC [zS,zS,zS,zS,zS,zS,zS,zS] 106) λb c=>br (Option.isNone a) (bA c (aM b) [zS,zS,zS,zS,zS,zS,zS,zS] λa=>∃c d e f g h i j k l m n o p q r s t u v w x y z,rA a (aM b) 8 [vS c d e,vS f g h,vS i j k,vS l m n,vS o p q,vS r s t,vS u v w,vS x y z]/\R (vG [vS c d e,vS f g h,vS i j k,vS l m n,vS o p q,vS r s t,vS u v w,vS x y z]) a) (dW1 c λd c=>nn a λe=>dLs c (e.add 3) λf g h=>nn a λe=>∃i j k l m n o p q,(∀a,c a->rA a (Addr.add (e.add 3) 1) 3 [vS i j k,vS l m n,vS o p q])/\nn a λe=>dLs c (Addr.add (e.add 3) 4) λr s t=>nn a λa=>∃e u v w x y z a0 a1,(∀b,c b->rA b (Addr.add (a.add 3) 5) 3 [vS e u v,vS w x y,vS z a0 a1])/\rEs 161 [vS f g h] d λf g h d=>c d/\rE 358 [vG [vS i j k,vS l m n,vS o p q]] d λa d=>∃i j k l m n o p q,a=vG [vS i j k,vS l m n,vS o p q]/\c d/\rEs 161 [vS r s t] d λr s t d=>c d/\rE 358 [vG [vS e u v,vS w x y,vS z a0 a1]] d λa d=>∃e u v w x y z a0 a1,a=vG [vS e u v,vS w x y,vS z a0 a1]/\c d/\bA d (aM b) [vS f g h,vS i j k,vS l m n,vS o p q,vS r s t,vS e u v,vS w x y,vS z a0 a1] λa=>∃c d e f g h i j k l m n o p q r s t u v w x y z,rA a (aM b) 8 [vS c d e,vS f g h,vS i j k,vS l m n,vS o p q,vS r s t,vS u v w,vS x y z]/\R (vG [vS c d e,vS f g h,vS i j k,vS l m n,vS o p q,vS r s t,vS u v w,vS x y z]) a)):ρ 302 [.pointer a] w R:=rv Tryz.func302 h
theorem IW(h:new w (oC [vS a i j,vS b k l,vS c m n] 104) λa b=>new b (oC [zS,zS,zS] 104) λb c=>dW1 c λd c=>dLs c (aM a) λe f g=>dLs c (Addr.add (aM a) 1) λh i j=>dLs c (Addr.add (aM a) 2) λk l m=>rEs 161 [vS e f g] d λe f g d=>c d/\rEs 161 [vS h i j] d λh i j d=>c d/\rEs 161 [vS k l m] d λk l m d=>c d/\bA d (aM b) [vS e f g,vS h i j,vS k l m] λa=>∃c d e f g h i j k,rA a (aM b) 3 [vS c d e,vS f g h,vS i j k]/\R (vG [vS c d e,vS f g h,vS i j k]) a):ρ 358 [(.agg #[vS a i j,vS b k l,vS c m n])] w R:=rv Tryz.func358 h
end
abbrev z5:List Value:=[zS,zS,zS,iI 0,zS]
abbrev RV(ss:List ByteArray):List Value:=ss.map λs=>Value.string s
section
variable{w:aiA}{L:List aE}{a o:aiz}{l n c:Nat}{I:aiA->Prop}{K:aiz->Nat->Nat->aiA->Prop}
theorem YT{ss:List ByteArray}(hr:aX (hp w) ss a l)(hb:l*16<=140737488355328):ρ 178 [vS a l c] w λv w'=>∃o c',v=vS o l c'/\St w' (own 1 o l c' (RV ss)::all w):=by
 refine lW ?_;have hl:=hr.1;cases a with
 |none=>
  have h0:ss=[]:=by
   cases ss with
   |nil=>rfl
   |cons t ts=>obtain⟨J,_,e,_⟩:=hr.2 0 t rfl;grind
  subst h0;have:l=0:=by simp_all
  subst this;exact fM rfl ⟨none,0,rfl,aI 1 (St.all w)⟩
 |some J=>
  refine bB rfl (ag (St.all w) λb X O=>?_);have Y:St X (own 1 (some ⟨b,0,none⟩) 0 0 []::all w):=bg (cs:=[]) O rfl rfl (agT _);have hr:=hr.mono O.aP
  refine(ji aT (rfl:ai Ty _=.slice _) rfl rfl rfl Y (n:=l) (news:=RV ss) (gA aT (rfl:ai Ty _=.slice _) (by grind) (by
    rcases hr.row with h0|⟨U,e,hc⟩
    ·simp_all
    ·cases e;exact .inr ⟨J,rfl,λj u V=>jI (hc j u V)⟩) (by
   intro u W;obtain⟨t,_,rfl⟩:=agY.1 W;rfl)) (by simp_all) ω).mono ?_
  grind
theorem afU{ts:List nf}(hr:aX (hp w) ts a l)(hb:l*24<=140737488355328)(h:St w L)(hI:∀u,aF L (hp u)->I u)(hK:∀o c' w',St w' (own 2 o l c' (cQ ts)::L)->K o l c' w'):ρ 170 [vS a l c] w λv w'=>∃o k c',v=vS o k c'/\I w'/\K o k c' w':=by
 have hl:=hr.1;refine(ua hr ω ω).mono ?_;rintro _ w'⟨o,c',rfl,h'⟩;rw[hl] at h' ⊢;have h':=St.eM h' h.l;exact⟨o,l,c',rfl,hI _ h'.tail.l,hK _ _ _ h'⟩
theorem abD{ss:List ByteArray}(hr:aX (hp w) ss a l)(hb:l*16<=140737488355328)(h:St w L)(hI:∀u,aF L (hp u)->I u)(hK:∀o c' w',St w' (own 1 o l c' (RV ss)::L)->K o l c' w'):ρ 178 [vS a l c] w λv w'=>∃o k c',v=vS o k c'/\I w'/\K o k c' w':=by
 refine(YT hr hb).mono ?_;rintro _ w'⟨o,c',rfl,h'⟩;have h':=St.eM h' h.l;exact⟨o,l,c',rfl,hI _ h'.tail.l,hK _ _ _ h'⟩
theorem PT{xs:List Int}(hr:aX (hp w) xs a l)(hb:l*8<=140737488355328)(h:St w L)(hI:∀u,aF L (hp u)->I u)(hK:∀o c' w',St w' (own 1 o l c' (iv xs)::L)->K o l c' w'):ρ 115 [vS a l c] w λv w'=>∃o k c',v=vS o k c'/\I w'/\K o k c' w':=by
 have hl:=hr.1;refine(dL hr ω ω).mono ?_;rintro _ w'⟨o,c',rfl,h'⟩;rw[hl] at h' ⊢;have h':=St.eM h' h.l;exact⟨o,l,c',rfl,hI _ h'.tail.l,hK _ _ _ h'⟩
theorem YU{vs:List Value}(h:St w (own 2 o l c vs::L))(hI:∀u,aF L (hp u)->I u)(hK:∀o c' w',St w' (own 2 o l c' vs::L)->K o l c' w'):ρ 176 [vS o l c] w λv w'=>∃o k c',v=vS o k c'/\I w'/\K o k c' w':=
 jO (bS (bD h) ⟨_,_,_,rfl,hI _ h.tail.l,hK _ _ _ (cq h)⟩)
theorem PU{vs:List Value}(h:St w (own 1 o l c vs::L))(hI:∀u,aF L (hp u)->I u)(hK:∀o c' w',St w' (own 1 o l c' vs::L)->K o l c' w'):ρ 177 [vS o l c] w λv w'=>∃o k c',v=vS o k c'/\I w'/\K o k c' w':=
 mw (bS (bD h) ⟨_,_,_,rfl,hI _ h.tail.l,hK _ _ _ (cq h)⟩)
theorem Fs{vs:List Value}(h:St w (own 1 o l c vs::L))(hI:∀u,aF L (hp u)->I u)(hK:∀o c' w',St w' (own 1 o l c' vs::L)->K o l c' w'):ρ 132 [vS o l c] w λv w'=>∃o k c',v=vS o k c'/\I w'/\K o k c' w':=
 bm (bS (bD h) ⟨_,_,_,rfl,hI _ h.tail.l,hK _ _ _ (cq h)⟩)
variable{g:ah}{x:GA}
theorem YV(hg:gR (hp w) g x)(hb:lq g)(hbT:g.terms.length*24<=140737488355328)(hbN:g.cR.length*16<=140737488355328):ρ 85 [.agg ⟨x.cells⟩] w λv w'=>∃(x':GA)(os:List (aiz×Nat)),v=.agg ⟨x'.cells⟩/\DU g x'/\os.length=g.prods.length/\St w' (y7 g x' os++all w):=by
 refine Kg (gi hg λk1 w1 gw hg B=>?_);have tl:=hg.t.1;have nl:=hg.n.1;have ll:=hg.l.1;have pl:=hg.p.1;have bb:=hg.s;obtain⟨b1,b2,b3,b4,b5,b6,b7⟩:=hb;have gs:sub (hp w) (hp w1):=gw;have h1:=St.all w1;unfold Proofs.YtaoaemnefghnbaaGreatDoor.all at h1;generalize hH:hp w1=H at*;refine ag h1 λk2 w2 h=>?_;have zT:x.tl*24<=140737488355328:=ω
 have zN:x.nl*16<=140737488355328:=ω
 have zL:x.ll*8<=140737488355328:=ω
 refine⟨λp u=>∃(k:Nat)(ta na la:aiz)(tc nc lc:Nat),p=some (aM k)/\St u [az k [vS ta x.tl tc,vS na x.nl nc,vS la x.ll lc,iI x.s,zS],own 1 la x.ll lc (iv g.levels),own 1 na x.nl nc (RV g.cR),own 2 ta x.tl tc (cQ g.terms),az k2 z5,has H],λw3 hd=>?_,?_⟩
 ·have h:=h.drawn hd
  have fin:∀{u:aiA}{k:Nat}{ta na la:aiz}{tc nc lc:Nat},St u [az k z5,own 1 la x.ll lc (iv g.levels),own 1 na x.nl nc (RV g.cR),own 2 ta x.tl tc (cQ g.terms),az k2 z5,has H]->bA u (aM k) [vS ta x.tl tc,vS na x.nl nc,vS la x.ll lc,iI x.s,zS] λw'=>∃(Z:Nat)(ta na la:aiz)(tc nc lc:Nat),some (aM k)=some (aM Z)/\St w' [az Z [vS ta x.tl tc,vS na x.nl nc,vS la x.ll lc,iI x.s,zS],own 1 la x.ll lc (iv g.levels),own 1 na x.nl nc (RV g.cR),own 2 ta x.tl tc (cQ g.terms),az k2 z5,has H]:=
   λ{u k ta na la tc nc lc} h=>aL h rfl (by simp[aK]) λw' h=>⟨k,ta,na,la,tc,nc,lc,rfl,h⟩
  refine⟨λu=>sub H (hp u),aC 1 h.l,_,_,_,λu s=>B.c0 s,_,_,_,λu s=>B.c1 s,_,_,_,λu s=>B.c2 s,_,λu s=>B.c3 s,?_,?_⟩
  ·refine afU (hg.t.mono (aC 1 h.l)) zT h (λu s=>aC 1 s) λ_ _ _ h=>⟨?_,?_⟩
   ·refine YU h (λu s=>aC 1 s) λ_ _ _ h=>⟨?_,?_⟩
    ·refine abD (hg.n.mono (aC 2 h.l)) zN h (λu s=>aC 2 s) λ_ _ _ h=>⟨?_,?_⟩
     ·refine PU h (λu s=>aC 2 s) λ_ _ _ h=>⟨?_,?_⟩
      ·refine PT (hg.l.mono (aC 3 h.l)) zL h (λu s=>aC 3 s) λ_ _ _ h=>⟨?_,?_⟩
       ·exact Fs h (λu s=>aC 3 s) λ_ _ _ h=>ag h λ_ _ h=>⟨aC 5 h.l,fin h⟩
       ·exact ag h λ_ _ h=>⟨aC 5 h.l,Fs h.swap (λu s=>aC 4 s) λ_ _ _ h=>fin h.swap⟩
      ·exact ag h λ_ _ h=>⟨aC 4 h.l,PT (hg.l.mono (aC 4 h.l)) zL h (λu s=>aC 4 s) λ_ _ _ h=>Fs h (λu s=>aC 4 s) λ_ _ _ h=>fin (h.pick 4 [1,0,2,3])⟩
     ·exact ag h λ_ _ h=>⟨aC 4 h.l,PU h.swap (λu s=>aC 3 s) λ_ _ _ h=>PT (hg.l.mono (aC 4 h.l)) zL h (λu s=>aC 4 s) λ_ _ _ h=>Fs h (λu s=>aC 4 s) λ_ _ _ h=>fin (h.pick 4 [2,0,1,3])⟩
    ·exact ag h λ_ _ h=>⟨aC 3 h.l,abD (hg.n.mono (aC 3 h.l)) zN h (λu s=>aC 3 s) λ_ _ _ h=>PU h (λu s=>aC 3 s) λ_ _ _ h=>PT (hg.l.mono (aC 4 h.l)) zL h (λu s=>aC 4 s) λ_ _ _ h=>Fs h (λu s=>aC 4 s) λ_ _ _ h=>fin (h.pick 4 [2,0,1,3])⟩
   ·exact ag h λ_ _ h=>⟨aC 3 h.l,YU h.swap (λu s=>aC 2 s) λ_ _ _ h=>abD (hg.n.mono (aC 3 h.l)) zN h (λu s=>aC 3 s) λ_ _ _ h=>PU h (λu s=>aC 3 s) λ_ _ _ h=>PT (hg.l.mono (aC 4 h.l)) zL h (λu s=>aC 4 s) λ_ _ _ h=>Fs h (λu s=>aC 4 s) λ_ _ _ h=>fin (h.pick 4 [3,0,1,2])⟩
  ·exact ag h λ_ _ h=>⟨aC 2 h.l,afU (hg.t.mono (aC 2 h.l)) zT h (λu s=>aC 2 s) λ_ _ _ h=>YU h (λu s=>aC 2 s) λ_ _ _ h=>abD (hg.n.mono (aC 3 h.l)) zN h (λu s=>aC 3 s) λ_ _ _ h=>PU h (λu s=>aC 3 s) λ_ _ _ h=>PT (hg.l.mono (aC 4 h.l)) zL h (λu s=>aC 4 s) λ_ _ _ h=>Fs h (λu s=>aC 4 s) λ_ _ _ h=>fin (h.pick 4 [3,0,1,2])⟩
 clear h;rintro _ _ a5⟨k,ta,na,la,tc,nc,lc,rfl,h⟩;obtain⟨K,hK⟩:=Xe (λ(pa:aiz)(j pc:Nat)=>[vS ta x.tl tc,vS na x.nl nc,vS la x.ll lc,iI x.s,vS pa j pc])
 refine⟨_,_,_,B.c4 (aC 5 h.l),λz u=>∃(j:Nat)(pa:aiz)(pc:Nat)(os:List (aiz×Nat)),z=j/\j<=g.prods.length/\os.length=j/\St u [az k (K pa j pc),own 3 pa j pc (dY os (g.prods.take j)),aV (cj os (g.prods.take j)),own 1 la x.ll lc (iv g.levels),own 1 na x.nl nc (RV g.cR),own 2 ta x.tl tc (cQ g.terms),az k2 z5,has H],λz _=>g.prods.length-z.toNat,⟨0,none,0,[],rfl,ω,rfl,?_⟩,?_⟩
 ·have h:St a5 (aV (cj [] (g.prods.take 0))::_):=St.flat.2 (show St a5 ([]++_) from aI 3 h);rw[hK];exact h.pick 3 [2,1,0]
 clear h;rintro _ _ bc⟨j,pa,pc,os,rfl,hj,W,h⟩;have a4:(g.prods.take j).length=j:=by simp_all
 refine ae (λh2=>?_) λh2=>?_
 ·have h2:j<g.prods.length:=by simp_all
  obtain⟨p,ad,vs,am,ba,al,ra,J,rc,rfl,bP,a6⟩:=hg.p.get (i:=j) ω;have bT:=b7 p (agL am);have aa:=a6.1;have et:g.prods.take (j+1)=g.prods.take j++[p]:=by simp_all[agR]
  refine aO ba ω ⟨_,_,_,_,_,al.at (aC 7 h.l) rfl,ag h λY bz h=>aL h rfl (by simp[aK]) λc6 h=>⟨_,_,_,h.cell 1,?_⟩⟩;refine(PT (I:=λ_=>True) (K:=λo Z c' u=>J=Z/\St u (own 1 o J c' (iv p.right)::az Y [iI p.left,vS ra J rc,iI p.level]::[az k (K pa j pc),own 3 pa j pc (dY os (g.prods.take j)),aV (cj os (g.prods.take j)),own 1 la x.ll lc (iv g.levels),own 1 na x.nl nc (RV g.cR),own 2 ta x.tl tc (cQ g.terms),az k2 z5,has H])) (a6.mono (aC 8 h.l)) ω h (λ_ _=>trivial) λ_ _ _ h=>⟨rfl,h⟩).mono ?_;rintro _ bl⟨o1,_,c1,rfl,_,rfl,h⟩;refine⟨_,_,_,rfl,(Fs (I:=λ_=>True) (K:=λo Z c' u=>J=Z/\St u (own 1 o J c' (iv p.right)::az Y [iI p.left,vS ra J rc,iI p.level]::[az k (K pa j pc),own 3 pa j pc (dY os (g.prods.take j)),aV (cj os (g.prods.take j)),own 1 la x.ll lc (iv g.levels),own 1 na x.nl nc (RV g.cR),own 2 ta x.tl tc (cQ g.terms),az k2 z5,has H])) h (λ_ _=>trivial) λ_ _ _ h=>⟨rfl,h⟩).mono ?_⟩;rintro _ c5⟨O,_,X,rfl,_,rfl,h⟩;refine⟨_,_,_,rfl,?_⟩;rw[ak];refine aR h.swap σ λa7 h=>?_
  have ck:a7.cell? ((aM k).add 4)=some (vS pa j pc):=by
   have r:aq (hp a7) (aM k) (K pa j pc):=af 2 h.l;rw[hK] at r;exact r.cell sZZ (j:=4) rfl
  refine⟨_,_,_,ck,_,_,_,_,_,(af 0 h.l).at sZZ rfl,ag h λav a8 h=>?_⟩;have a9:J=p.right.length:=aa.symm;have h:St a8 [az av (qR ((O,X),p)),az Y [iI p.left,vS O J X,iI p.level],own 1 O J X (iv p.right),az k (K pa j pc),own 3 pa j pc (dY os (g.prods.take j)),aV (cj os (g.prods.take j)),own 1 la x.ll lc (iv g.levels),own 1 na x.nl nc (RV g.cR),own 2 ta x.tl tc (cQ g.terms),az k2 z5,has H]:=by grind[qR]
  refine(aS aT (rfl:ai Ty _=.slice _) (rfl:ai Ty _=.slice _) rfl rfl rfl (h.pick 11 [0,4,2,3,5,6,7,8,9,10]) rfl (by simp[aK,qR]) (by grind) ω).mono ?_;rintro _ bi⟨V,U,rfl,h⟩;refine⟨_,_,_,rfl,?_⟩
  show st1 _ ((aM k).add 4) _ _
  rw[ak];refine aR (h.pick 10 [3,0,2,4,5,6,7,8,9]) (by grind) λbe h=>?_;have eK:(K pa j pc).set 4 (vS V (j+1) U)=K V (j+1) U:=by grind
  rw[eK,a9] at h;have h:=St.snoc (A:=own 1 O p.right.length X (iv p.right)) (M:=cj os (g.prods.take j)) (h.pick 9 [2,3,0,1,4,5,6,7,8]);have e1:=B3 (W.trans a4.symm) (O,X) p;have e2:=Fe (W.trans a4.symm) (O,X) p;dsimp only at e1;rw[<-e1,<-et] at h;refine⟨ξ,⟨j+1,V,U,os++[(O,X)],σ,ω,by grind,?_⟩,bR h2⟩;rw[et] at h ⊢;rw[e2];exact h.pick 8 [1,2,0,3,4,5,6,7]
 ·have h2:g.prods.length=j:=by grind
  subst h2;rw[ag9] at h;have r:aq (hp bc) (aM k) (K pa g.prods.length pc):=af 0 h.l;rw[hK] at r;refine⟨_,_,_,_,_,_,_,_,_,_,_,_,_,r.at sZZ rfl,aL (h.pick 8 [6,1,2,3,4,5,7]) rfl (by simp[aK]) λa0 h=>?_⟩;have r2:aq (hp a0) (aM k2) [vS ta x.tl tc,vS na x.nl nc,vS la x.ll lc,iI x.s,vS pa g.prods.length pc]:=af 0 h.l;refine⟨_,_,_,_,_,_,_,_,_,_,_,_,_,r2.at sZZ rfl,⟨ta,x.tl,tc,na,x.nl,nc,la,x.ll,lc,x.s,pa,g.prods.length,pc⟩,os,rfl,⟨tl.symm,nl.symm,ll.symm,bb,rfl⟩,W,?_⟩;have h:St a0 ([own 3 pa g.prods.length pc (dY os g.prods),aV (cj os g.prods),own 2 ta x.tl tc (cQ g.terms),own 1 na x.nl nc (RV g.cR),own 1 la x.ll lc (iv g.levels)]++[has H]):=h.pick 7 [1,2,5,4,3,6];rw[<-tl,<-nl,<-ll] at h;exact St.on (N:=[_,_,_,_,_]) h (bF gs)
end
section
variable{α:Type}{f:α->List Value}{sz n c i:Nat}{w:aiA}{L:List aE}{o:aiz}{xs:List α}
theorem fmR(hf:∀x,(f x).length=sz)(h0:0<sz)(h:St w (own sz o n c (xs.flatMap f)::L)){x:α}(hx:xs[i]? =some x):∃ad,o=some ad/\aq (hp w) (ad.add (ff i sz)) (f x):=by
 rcases dN 0 h.l with e|⟨ad,e,hc⟩
 ·have u:=congrArg List.length e;rw[pJ hf,ahK] at u;have J:=(agN.1 hx).1;have:0<xs.length*sz:=Nat.mul_pos ω h0;omega
 ·exact⟨ad,e,cJ hf xs ad hc i x hx⟩
theorem YW(hf:∀x,(f x).length=sz){y:α}(hi:i<xs.length):(xs.flatMap f).take (i*sz)++f y++(xs.flatMap f).drop (i*sz+(f y).length)=(xs.set i y).flatMap f:=by
 have e:xs=xs.take i++xs[i]::xs.drop (i+1):=σ
 have J:((xs.take i).flatMap f).length=i*sz:=by grind[pJ,List.length_take]
 have u:xs.flatMap f=(xs.take i).flatMap f++(f xs[i]++(xs.drop (i+1)).flatMap f):=by grind
 simp_all[aij,List.drop_append,List.drop_of_length_le]
theorem fmW(hf:∀x,(f x).length=sz)(h0:0<sz)(h1:∀x,∀v∈f x,aK v=true){ad:Addr}{y:α}{k:aiA->Prop}(h:St w (own sz o n c (xs.flatMap f)::L))(ha:o=some ad)(hi:i<xs.length)(hk:∀w',St w' (own sz o n c ((xs.set i y).flatMap f)::L)->k w'):bA w (ad.add (ff i sz)) (f y) k:=by
 rw[bh]
 refine Gy h ha ?_ (h1 y) (by simp_all) λw' h=>hk w' ?_
 ·rw[pJ hf,hf];have:(i+1)*sz<=xs.length*sz:=ahO _ hi
  grind
 grind[YW]
end
section
variable{a:aiz}{i j:Nat}{A B C:Int}{w:aiA}{R:Value->WP}
theorem fG{d:FuncId}{e:List Value}(h:rE 357 [vS a i j,iI (i:Int),vF1 d e] w λa b=>a=vU []/\R (vU []) b):ρ 298 [vS a i j,(.func (.func d) #[] ⟨e⟩)] w R:=rv Tryz.func298 h
theorem kg{e:FuncId}{f:List Value}(h:τ [(7,aN),(8,aN)] λb c=>b 0 20 w/\∀(_:ν) d g h,b d g h->bQ (g<=A) (rE 387 [vS a i j,iI d,iI g,vF1 e f] h λa e=>a=vU []/\aA (g+20)/\nB b c g (g+20) e d g h) (rE 387 [vS a i j,iI d,iI A,vF1 e f] h λb c=>b=vU []/\τ [(6,aN)] λb d=>b 20 c/\∀(_:ν) c g,b c g->bQ (c<A) (aA (2*c)/\τ [(7,aN),(8,aN)] λh k=>h 0 (2*c) g/\∀(_:ν) l m n,h l m n->bQ (m<=A) (aA (l+c)/\rE 388 [vS a i j,iI l,iI (l+c),iI m,vF1 e f] n λa b=>a=vU []/\aA (2*c)/\aA (m+2*c)/\nB h k m (m+2*c) b l m n) (aA (l+c)/\bQ (l+c<A) (rE 388 [vS a i j,iI l,iI (l+c),iI A,vF1 e f] n λa e=>a=vU []/\aA (c*2)/\nA b d (c*2) e c g) (aA (c*2)/\nA b d (c*2) n c g))) (R (vU []) g))):ρ 357 [vS a i j,iI A,(.func (.func e) #[] ⟨f⟩)] w R:=rv Tryz.func357 h ⟨[(2,[(7,aN),(8,aN)]),(7,[(6,aN)]),(9,[(7,aN),(8,aN)])],[],[],[]⟩
theorem gq{f:FuncId}{g:List Value}(h:aA (A+1)/\τ [(8,aN)] λb c=>b (A+1) w/\∀(_:ν) d e,b d e->bQ (d<B) (τ [(9,aN)] λh j=>h d e/\∀(_:ν) k l,h k l->dW1 l λm n=>bQ (A<k) (idx a i k 3 λo=>∃p q r s t,(∀a,n a->rowAt a o 0 3=some [iI p,iI q,vS r s t])/\aA (k-1)/\idx a i (k-1) 3 λo=>∃u v w x y,(∀a,n a->rowAt a o 0 3=some [iI u,iI v,vS w x y])/\pj (Fn f) (rEi f (vG [iI p,iI q,vS r s t]::vG [iI u,iI v,vS w x y]::g) m λm g=>n g/\bQ (m<0) (dW1 g λb c=>aA (k-1)/\aA (k-1)/\idx a i (k-1) 3 λd=>∃e f g m n,(∀a,c a->rowAt a d 0 3=some [iI e,iI f,vS g m n])/\idx a i k 3 λd=>∃o p q r s,(∀a,c a->rowAt a d 0 3=some [iI o,iI p,vS q r s])/\idx a i k 3 λc=>bA b c [iI e,iI f,vS g m n] λb=>idx a i (k-1) 3 λa=>bA b a [iI o,iI p,vS q r s] λa=>aA (k-1)/\nA h j (k-1) a k l) (aA (d+1)/\nA b c (d+1) g d e))) (aA (d+1)/\nA b c (d+1) m d e)) (R (vU []) e)):ρ 387 [vS a i j,iI A,iI B,(.func (.func f) #[] ⟨g⟩)] w R:=rv Tryz.func387 h ⟨[(1,[(8,aN)]),(4,[(9,aN)])],[],[],[]⟩
theorem jb{F:FuncId}{G:List Value}(h:aA (B-A)/\br (B-A==1) (τ [(10,aN),(11,aN)] λb c=>b B C w/\∀(_:ν) d e f,b d e f->bQ (d<e) (aA (d+e)/\ns 1/\aA (mD1 (d+e))/\dW1 f λg h=>idx a i (mD1 (d+e)) 3 λj=>∃k l m n o,(∀a,h a->rowAt a j 0 3=some [iI k,iI l,vS m n o])/\idx a i A 3 λa=>∃i j p q r,(∀b,h b->rowAt b a 0 3=some [iI i,iI j,vS p q r])/\pj (Fn F) (rEi F (vG [iI k,iI l,vS m n o]::vG [iI i,iI j,vS p q r]::G) g λi g=>h g/\bQ (i<0) (aA (mD1 (d+e)+1)/\nB b c (mD1 (d+e)+1) e g d e f) (nB b c d (mD1 (d+e)) g d e f))) (τ [(13,aN)] λb c=>b A f/\∀(_:ν) e f,b e f->aA (d-1)/\bQ (e<d-1) (dW1 f λd g=>aA (e+1)/\aA (e+1)/\idx a i (e+1) 3 λh=>∃j k l m n,(∀a,g a->rowAt a h 0 3=some [iI j,iI k,vS l m n])/\idx a i e 3 λh=>∃o p q r s,(∀a,g a->rowAt a h 0 3=some [iI o,iI p,vS q r s])/\idx a i e 3 λg=>bA d g [iI j,iI k,vS l m n] λd=>idx a i (e+1) 3 λa=>bA d a [iI o,iI p,vS q r s] λa=>aA (e+1)/\nA b c (e+1) a e f) (R (vU []) f))) (aA (C-B)/\br (C-B==1) (τ [(14,aN),(15,aN)] λb c=>b A B w/\∀(_:ν) d e f,b d e f->bQ (d<e) (aA (d+e)/\ns 1/\aA (mD1 (d+e))/\dW1 f λg h=>idx a i B 3 λj=>∃k l m n o,(∀a,h a->rowAt a j 0 3=some [iI k,iI l,vS m n o])/\idx a i (mD1 (d+e)) 3 λa=>∃i j p q r,(∀b,h b->rowAt b a 0 3=some [iI i,iI j,vS p q r])/\pj (Fn F) (rEi F (vG [iI k,iI l,vS m n o]::vG [iI i,iI j,vS p q r]::G) g λi g=>h g/\br (!decide (i<0)) (aA (mD1 (d+e)+1)/\nB b c (mD1 (d+e)+1) e g d e f) (nB b c d (mD1 (d+e)) g d e f))) (τ [(17,aN)] λb c=>b B f/\∀(_:ν) e f,b e f->bQ (d<e) (dW1 f λd g=>aA (e-1)/\aA (e-1)/\idx a i (e-1) 3 λh=>∃j k l m n,(∀a,g a->rowAt a h 0 3=some [iI j,iI k,vS l m n])/\idx a i e 3 λh=>∃o p q r s,(∀a,g a->rowAt a h 0 3=some [iI o,iI p,vS q r s])/\idx a i e 3 λg=>bA d g [iI j,iI k,vS l m n] λd=>idx a i (e-1) 3 λa=>bA d a [iI o,iI p,vS q r s] λa=>aA (e-1)/\nA b c (e-1) a e f) (R (vU []) f))) (aA (A+C)/\ns 1/\aA (mD1 (A+C))/\aA (mD1 (A+C)+B)/\∃(b:lP [(20,aN),(21,aN)]),bQ (mD1 (A+C)<B) (aA (mD1 (A+C)+B-C)/\b (mD1 (A+C)+B-C) (mD1 (A+C)) w) (b A B w)/\∀(_:ν) c d e,b c d e->aA (mD1 (A+C)+B-1)/\τ [(20,aN),(21,aN)] λb f=>b c d e/\∀(_:ν) c d e,b c d e->bQ (c<d) (aA (c+d)/\ns 1/\aA (mD1 (c+d))/\dW1 e λg h=>aA (mD1 (A+C)+B-1-mD1 (c+d))/\idx a i (mD1 (A+C)+B-1-mD1 (c+d)) 3 λj=>∃k l m n o,(∀a,h a->rowAt a j 0 3=some [iI k,iI l,vS m n o])/\idx a i (mD1 (c+d)) 3 λa=>∃i j p q r,(∀b,h b->rowAt b a 0 3=some [iI i,iI j,vS p q r])/\pj (Fn F) (rEi F (vG [iI k,iI l,vS m n o]::vG [iI i,iI j,vS p q r]::G) g λi g=>h g/\br (!decide (i<0)) (aA (mD1 (c+d)+1)/\nB b f (mD1 (c+d)+1) d g c d e) (nB b f c (mD1 (c+d)) g c d e))) (aA (mD1 (A+C)+B-c)/\∃(b:lP []),bQ (c<B) (bQ (B<mD1 (A+C)+B-c) (rE 397 [vS a i j,iI c,iI B,iI (mD1 (A+C)+B-c),vF1 F G] e λa c=>a=vU []/\b c) (b e)) (b e)/\∀(_:ν) d,b d->bQ (A<c) (bQ (c<mD1 (A+C)) (rE 388 [vS a i j,iI A,iI c,iI (mD1 (A+C)),vF1 F G] d λb d=>b=vU []/\bQ (mD1 (A+C)<mD1 (A+C)+B-c) (bQ (mD1 (A+C)+B-c<C) (rE 388 [vS a i j,iI (mD1 (A+C)),iI (mD1 (A+C)+B-c),iI C,vF1 F G] d λa b=>a=vU []/\R (vU []) b) (R (vU []) d)) (R (vU []) d)) (bQ (mD1 (A+C)<mD1 (A+C)+B-c) (bQ (mD1 (A+C)+B-c<C) (rE 388 [vS a i j,iI (mD1 (A+C)),iI (mD1 (A+C)+B-c),iI C,vF1 F G] d λa b=>a=vU []/\R (vU []) b) (R (vU []) d)) (R (vU []) d))) (bQ (mD1 (A+C)<mD1 (A+C)+B-c) (bQ (mD1 (A+C)+B-c<C) (rE 388 [vS a i j,iI (mD1 (A+C)),iI (mD1 (A+C)+B-c),iI C,vF1 F G] d λa b=>a=vU []/\R (vU []) b) (R (vU []) d)) (R (vU []) d)))))):ρ 388 [vS a i j,iI A,iI B,iI C,(.func (.func F) #[] ⟨G⟩)] w R:=rv Tryz.func388 h ⟨[(3,[(10,aN),(11,aN)]),(9,[(13,aN)]),(15,[(14,aN),(15,aN)]),(21,[(17,aN)]),(33,[(20,aN),(21,aN)])],[(32,[(20,aN),(21,aN)]),(41,[])],[],[]⟩
theorem kq{F:FuncId}{G:List Value}(h:aA (B-A)/\aA (C-B)/\τ [(10,aN),(11,aN)] λb c=>b (B-A) (C-B) w/\∀(_:ν) d e f,b d e f->br (d !=e) (bQ (e<d) (aA (B-d)/\rE 400 [vS a i j,iI (B-d),iI B,iI e,vF1 F G] f λa g=>a=vU []/\aA (d-e)/\nB b c (d-e) e g d e f) (aA (B-d)/\aA (B+e)/\aA (B+e-d)/\rE 400 [vS a i j,iI (B-d),iI (B+e-d),iI d,vF1 F G] f λa g=>a=vU []/\aA (e-d)/\nB b c d (e-d) g d e f)) (aA (B-d)/\rE 400 [vS a i j,iI (B-d),iI B,iI d,vF1 F G] f λa b=>a=vU []/\R (vU []) b)):ρ 397 [vS a i j,iI A,iI B,iI C,(.func (.func F) #[] ⟨G⟩)] w R:=rv Tryz.func397 h ⟨[(2,[(10,aN),(11,aN)])],[],[],[]⟩
theorem iN{F:FuncId}{G:List Value}(h:τ [(10,aN)] λb c=>b 0 w/\∀(_:ν) d e,b d e->bQ (d<C) (dW1 e λf g=>aA (A+d)/\aA (B+d)/\aA (B+d)/\idx a i (B+d) 3 λh=>∃j k l m n,(∀a,g a->rowAt a h 0 3=some [iI j,iI k,vS l m n])/\aA (A+d)/\idx a i (A+d) 3 λh=>∃o p q r s,(∀a,g a->rowAt a h 0 3=some [iI o,iI p,vS q r s])/\idx a i (A+d) 3 λg=>bA f g [iI j,iI k,vS l m n] λf=>idx a i (B+d) 3 λa=>bA f a [iI o,iI p,vS q r s] λa=>aA (d+1)/\nA b c (d+1) a d e) (R (vU []) e)):ρ 400 [vS a i j,iI A,iI B,iI C,(.func (.func F) #[] ⟨G⟩)] w R:=rv Tryz.func400 h ⟨[(1,[(10,aN)])],[],[],[]⟩
end
abbrev iS(b:pX):Int:=b.1.2
section
variable{w:aiA}{L:List aE}{o:aiz}{n c i:Nat}{ds:List pX}{x:pX}
abbrev rwQ(x:pX):List Value:=[iI x.1.1,iI x.1.2,vS x.2.1.1 x.2.2.length x.2.1.2]
theorem RW(h:St w (own 3 o n c (gG ds)::L))(hx:ds[i]? =some x):∃ad,o=some ad/\aq (hp w) (ad.add (ff i 3)) (rwQ x):=fmR (f:=bkE) (λ_=>rfl) σ h hx
theorem bkW{ad:Addr}{k:aiA->Prop}(h:St w (own 3 o n c (gG ds)::L))(ha:o=some ad)(hi:i<ds.length)(hk:∀w',St w' (own 3 o n c (gG (ds.set i x))::L)->k w'):bA w (ad.add (ff i 3)) (rwQ x) k:=
 fmW (f:=bkE) (λ_=>rfl) σ (λx v u=>by simp[bkE,bX] at u;rcases u with rfl|rfl|rfl<;>rfl) h ha hi hk
theorem Nc(h:St w (own 3 o n c (gG ds)::L)):n=ds.length:=by grind[fk,Tp]
end
section
variable{w:aiA}{L:List aE}{o:aiz}{n c:Nat}{d:FuncId}{e:List Value}
theorem Nd{A X M Y C:List pX}{xs:List pX}{k:Nat}{a b:Int}(h:St w (own 3 o n c (gG xs)::L))(hxs:xs=A++(X++(M++(Y++C))))(ha:a=A.length)(hb:b=((A.length+X.length+M.length:Nat):Int))(hX:X.length=k)(hY:Y.length=k)(hn:xs.length<=1000000):
  ρ 400 [vS o n c,iI a,iI b,iI (k:Int),.func (.func d) #[] ⟨e⟩] w λv w'=>v=.tuple #[]/\St w' (own 3 o n c (gG (A++(Y++(M++(X++C)))))::L):=by
 have a0:=Nc h;have hl:xs.length=A.length+X.length+M.length+Y.length+C.length:=by grind
 subst ha hb;refine iN ⟨λz w'=>∃i:Nat,z=i/\i<=k/\St w' (own 3 o n c (gG (A++(Y.take i++(X.drop i++(M++(X.take i++(Y.drop i++C)))))))::L),λz _=>k-z.toNat,⟨0,rfl,agP _,by simp_all⟩,?_⟩;clear h;rintro _ _ w1⟨i,rfl,hi,h⟩;refine ae (λU=>?_) λU=>?_
 rotate_left
 ·grind
 have U:i<k:=by simp_all
 intro w2 hd;have h:=h.eq (aQ hd);obtain⟨x,hx⟩:∃x,X[i]? =some x:=⟨_,agM ω⟩;obtain⟨y,hy⟩:∃y,Y[i]? =some y:=⟨_,agM ω⟩;obtain⟨D,hD⟩:∃D,D=A++(Y.take i++(X.drop i++(M++(X.take i++(Y.drop i++C))))):=⟨_,rfl⟩;have eX:X.drop i=x::X.drop (i+1):=by grind[List.drop_eq_getElem_cons,List.getElem?_eq_getElem,Option.some.inj]
 have eY:Y.drop i=y::Y.drop (i+1):=by grind[List.drop_eq_getElem_cons,List.getElem?_eq_getElem,Option.some.inj]
 have W:D=(A++Y.take i)++x::((X.drop (i+1)++(M++X.take i))++y::(Y.drop (i+1)++C)):=by simp_all
 have l1:(A++Y.take i).length=A.length+i:=by simp_all
 have l2:(X.drop (i+1)++(M++X.take i)).length=X.length-(i+1)+(M.length+i):=by simp_all
 have e2:(D.set (A.length+i) y).set (A.length+X.length+M.length+i) x=A++(Y.take (i+1)++(X.drop (i+1)++(M++(X.take (i+1)++(Y.drop (i+1)++C))))):=by
  rw[W,CR ω ω,agR,agR,hx,hy];simp
 rw[<-hD] at h;have gx:D[A.length+i]? =some x:=by simp_all
 have gy:D[A.length+X.length+M.length+i]? =some y:=by
  rw[W,show(A++Y.take i)++x::((X.drop (i+1)++(M++X.take i))++y::(Y.drop (i+1)++C))=((A++Y.take i)++x::(X.drop (i+1)++(M++X.take i)))++y::(Y.drop (i+1)++C) by simp]
  grind[u6,List.length_append,List.length_cons]
 have a4:D.length=n:=(Nc h).symm;obtain⟨ad,J,rx⟩:=RW h gx;obtain⟨a6,O,ry⟩:=RW h gy;rw[J] at O;cases O;have z1:(A.length:Int)+i=((A.length+i:Nat):Int):=σ
 have z2:((A.length+X.length+M.length:Nat):Int)+i=((A.length+X.length+M.length+i:Nat):Int):=σ
 have a5:n<=1000000:=ω
 have V:A.length+i<n:=ω
 have Z:A.length+X.length+M.length+i<n:=ω
 rw[z1,z2];refine⟨λu=>hp u=hp w2,rfl,ξ,ξ,ξ,aO J Z ⟨_,_,_,_,_,λu e=>ry.at (by simp_all[sub.refl]) rfl,ξ,aO J V ⟨_,_,_,_,_,λu e=>rx.at (by simp_all[sub.refl]) rfl,aO J V (bkW (x:=y) h J ω λw5 h=>aO J Z (bkW (x:=x) h J (by simp_all) λw6 h=>⟨ξ,⟨i+1,σ,U,?_⟩,bR U⟩))⟩⟩⟩
 simp_all
theorem YX{A X Y C:List pX}{xs:List pX}{a m b:Int}(h:St w (own 3 o n c (gG xs)::L))(hxs:xs=A++(X++(Y++C)))(ha:a=A.length)(hm:m=((A.length+X.length:Nat):Int))(hb:b=((A.length+X.length+Y.length:Nat):Int))(hX:X≠[])(hY:Y≠[])(hn:xs.length<=1000000):
  ρ 397 [vS o n c,iI a,iI m,iI b,.func (.func d) #[] ⟨e⟩] w λv w'=>v=.tuple #[]/\St w' (own 3 o n c (gG (A++(Y++(X++C))))::L):=by
 have hl:xs.length=A.length+X.length+Y.length+C.length:=by grind
 have Z:=ah9.2 hX;have W:=ah9.2 hY;subst ha hm hb;obtain⟨T,hT⟩:∃T,T=A++(Y++(X++C)):=⟨_,rfl⟩;have a4:T.length=xs.length:=by grind
 rw[<-hT];obtain⟨E,hE⟩:∃E,E=A.length+X.length:=⟨_,rfl⟩;refine kq ⟨ξ,ξ,λy z w'=>∃A X Y C:List pX,y=(X.length:Int)/\z=(Y.length:Int)/\X≠[]/\Y≠[]/\A.length+X.length=E/\A++(Y++(X++C))=T/\St w' (own 3 o n c (gG (A++(X++(Y++C))))::L),λy z _=>y.toNat+z.toNat,⟨A,X,Y,C,ω,ω,hX,hY,hE.symm,hT.symm,by simp_all⟩,?_⟩;rw[<-hE];clear h hxs hX hY Z W;rintro _ _ _ w1⟨O,J,u,V,rfl,rfl,hX,hY,hm,a5,h⟩;have Z:=ah9.2 hX;have W:=ah9.2 hY;have a0:O.length+(u.length+(J.length+V.length))=T.length:=by grind
 refine ae (λU=>?_) λU=>?_
 rotate_left
 ·have U:(J.length:Int)=u.length:=by simp_all
  have U:J.length=u.length:=ω
  refine⟨ξ,(Nd (A:=O) (X:=J) (M:=[]) (Y:=u) (C:=V) (k:=J.length) h σ ω (by simp_all) rfl U.symm (by simp_all)).mono ?_⟩
  simp_all
 have U:(J.length:Int)≠u.length:=by simp_all
 have U:J.length≠u.length:=ω
 refine ae (λh2=>?_) λh2=>?_
 ·have h2:u.length<J.length:=by simp_all
  refine⟨ξ,(Nd (A:=O) (X:=J.take u.length) (M:=J.drop u.length) (Y:=u) (C:=V) (k:=u.length) h (by grind[List.append_assoc,List.take_append_drop]) ω (by grind) (by grind) rfl (by grind)).mono ?_⟩;rintro _ w2⟨rfl,h⟩
  refine⟨rfl,ξ,⟨O++u,J.drop u.length,J.take u.length,V,by grind,by grind,λhh=>?_,λhh=>?_,by grind,?_,by simp_all⟩,?_⟩
  ·grind
  ·simp_all
  ·grind[List.append_assoc,List.take_append_drop]
  grind
 ·have h2:J.length<u.length:=by grind
  refine⟨ξ,ξ,ξ,(Nd (A:=O) (X:=J) (M:=u.take (u.length-J.length)) (Y:=u.drop (u.length-J.length)) (C:=V) (k:=J.length) h (by grind[List.append_assoc,List.take_append_drop]) ω (by grind) rfl (by grind) (by grind)).mono ?_⟩;rintro _ w3⟨rfl,h⟩
  refine⟨rfl,ξ,⟨O,u.drop (u.length-J.length),u.take (u.length-J.length),J++V,by grind,by grind,λhh=>?_,λhh=>?_,by grind,?_,ω⟩,?_⟩
  ·grind
  ·grind
  ·grind[List.append_assoc,List.take_append_drop]
  simp_all
def Qu(x:pX):Prop:=0<=x.1.2/\x.1.2<=1000000
def abE(d:FuncId)(e:List Value):Prop:=Fn d=true/\∀(x y:pX)(u:aiA),Qu x->Qu y->ρ d (.agg ⟨rwQ x⟩:: .agg ⟨rwQ y⟩::e) u λv u'=>∃z:Int,v=iI z/\(z<0↔iS x<iS y)/\Gr u u'
theorem PV{A X C:List pX}{xs:List pX}{a b:Int}(hc:abE d e)(h:St w (own 3 o n c (gG xs)::L))(hxs:xs=A++(X++C))(ha:a=A.length)(hb:b=((A.length+X.length:Nat):Int))(hs:∀x∈X,Qu x)(hn:xs.length<=1000000):
  ρ 387 [vS o n c,iI a,iI b,.func (.func d) #[] ⟨e⟩] w λv w'=>v=.tuple #[]/\∃S,S.Perm X/\nE iS S/\St w' (own 3 o n c (gG (A++(S++C)))::L):=by
 have hl:xs.length=A.length+X.length+C.length:=by grind
 have aa:=Nc h;have av:n<=1000000:=ω
 subst ha hb
 refine gq ⟨ξ,λz w'=>∃S R:List pX,(S++R).Perm X/\nE iS S/\((S≠[]/\z=((A.length+S.length:Nat):Int))\/(X=[]/\z=(A.length:Int)+1))/\St w' (own 3 o n c (gG (A++(S++(R++C))))::L),λz _=>A.length+X.length-z.toNat,?_,?_⟩
 ·cases hX:X with
  |nil=>rw[hX] at hxs;exact⟨[],[],.refl _,.nil,.inr ⟨rfl,rfl⟩,by simp_all⟩
  |cons x X'=>rw[hX] at hxs;exact⟨[x],X',.refl _,List.pairwise_singleton _ _,.inl ⟨σ,σ⟩,by simp_all⟩
 clear h;rintro _ z w1⟨S,R,Z,hS,hz,h⟩;have b4:S.length+R.length=X.length:=by have:=Z.length_eq;simp_all
 refine ae (λY=>?_) λY=>?_
 rotate_left
 ·have Y:=agO Y
  have hR:R=[]:=by
   rcases hz with⟨_,rfl⟩|⟨hX,_⟩
   ·exact ag2 ω
   simp_all
  grind
 have Y:=agQ Y;rcases hz with⟨b5,rfl⟩|⟨hX,rfl⟩
 rotate_left
 ·rw[hX] at Y;simp at Y;omega
 obtain⟨y,U,rfl⟩:∃y U,R=y::U:=by
  cases R with
  |nil=>simp_all
  |cons y U=>simp
 have a5:Qu y:=hs y (Z.mem_iff.1 σ);have a7:∀x∈S,Qu x:=λx hx=>hs x (Z.mem_iff.1 (by grind));refine⟨λz w'=>∃S1 O:List pX,S=S1++O/\z=((A.length+S1.length:Nat):Int)/\(∀u∈O,iS y<=iS u)/\St w' (own 3 o n c (gG (A++(S1++y::(O++(U++C)))))::L),λz _=>z.toNat-A.length,⟨S,[],σ,σ,σ,by simp_all⟩,?_⟩;clear h;rintro _ _ w2⟨S1,O,rfl,rfl,a6,h⟩;have al:=Nc h;have a8:S1.length+O.length+(U.length+1)=X.length:=by simp_all
 --it has its place
 have fin:∀{w'},(∀u,S1.getLast? =some u->iS u<=iS y)->St w' (own 3 o n c (gG (A++(S1++y::(O++(U++C)))))::L)->aA (((A.length+(S1++O).length:Nat):Int)+1)/\(∃S R:List pX,(S++R).Perm X/\nE iS S/\((S≠[]/\((A.length+(S1++O).length:Nat):Int)+1=((A.length+S.length:Nat):Int))\/(X=[]/\((A.length+(S1++O).length:Nat):Int)+1=(A.length:Int)+1))/\St w' (own 3 o n c (gG (A++(S++(R++C))))::L))/\A.length+X.length-(((A.length+(S1++O).length:Nat):Int)+1).toNat<A.length+X.length-((A.length+(S1++O).length:Nat):Int).toNat:=λ{w'} W h=>by
  refine⟨ξ,⟨S1++y::O,U,?_,M5 hS W (λu hu=>a6 u (List.mem_of_head? hu)),.inl ⟨σ,by grind⟩,by simp_all⟩,ω⟩
  grind
 intro w3 hd;have h:=h.eq (aQ hd);refine⟨λu=>Gr w3 u,Gr.refl _,ae (λh2=>?_) λh2=>?_⟩
 rotate_left
 ·have h2:S1=[]:=ag2 (by grind);exact fin (λu hu=>by simp_all) h
 have h2:0<S1.length:=by grind
 obtain⟨J,z,rfl⟩:∃J z,S1=J++[z]:=⟨S1.dropLast,S1.getLast (by grind),(List.dropLast_concat_getLast _).symm⟩;obtain⟨D,hD⟩:∃D,D=A++((J++[z])++y::(O++(U++C))):=⟨_,rfl⟩;rw[<-hD] at h;have e1:D=(A++J)++z::([]++y::(O++(U++C))):=by simp_all
 have gz:D[A.length+J.length]? =some z:=by grind[u6]
 have gy:D[A.length+J.length+1]? =some y:=by grind[u6]
 have am:=Nc h;have b1:A.length+J.length<n:=by grind
 have b2:A.length+J.length+1<n:=by grind
 obtain⟨ad,V,rz⟩:=RW h gz;obtain⟨b6,a0,ry⟩:=RW h gy;rw[V] at a0;cases a0;have z1:((A.length+(J++[z]).length:Nat):Int)=((A.length+J.length+1:Nat):Int):=by grind
 have z2:((A.length+J.length+1:Nat):Int)-1=((A.length+J.length:Nat):Int):=σ
 rw[z1,z2];refine aO V b2 ⟨_,_,_,_,_,λu g=>ry.at g rfl,ξ,aO V b1 ⟨_,_,_,_,_,λu g=>rz.at g rfl,a_.2 ⟨hc.1,(hc.2 y z w3 a5 (a7 z σ)).mono ?_⟩⟩⟩;rintro _ w6⟨t,rfl,ht,g6⟩;have h:=h.gr g6;refine⟨_,rfl,g6,ae (λh3=>?_) λh3=>?_⟩
 rotate_left
 ·have h3:=agO h3;rw[hD] at h;refine fin (λu hu=>?_) h
  grind
 have h3:=ht.1 (agQ h3);intro w7 a4;have h:=h.eq (aQ a4);have s7:sub (hp w3) (hp w7):=g6.trans (Gr.drawn a4)
 refine⟨λu=>hp u=hp w7,rfl,ξ,ξ,aO V b1 ⟨_,_,_,_,_,λu e=>(rz.mono s7).at (by grind[sub.refl]) rfl,aO V b2 ⟨_,_,_,_,_,λu e=>(ry.mono s7).at (by grind[sub.refl]) rfl,aO V b2 (bkW (x:=z) h V ω λb3 h=>aO V b1 (bkW (x:=y) h V (by grind) λa9 h=>⟨ξ,⟨J,z::O,σ,rfl,?_,?_⟩,?_⟩))⟩⟩⟩
 ·grind
 ·have e2:(D.set (A.length+J.length+1) z).set (A.length+J.length) y=A++(J++y::(z::O++(U++C))):=by
   rw[List.set_comm _ _ ω,e1,CR σ σ];simp
  grind
 ·show((A.length+J.length:Nat):Int).toNat-A.length<((A.length+J.length+1:Nat):Int).toNat-A.length
  omega
end
section
variable{α:Type}{k:α->Int}
inductive RX (k:α->Int) (bs:Nat):List α->Prop
 |last (l:List α):l.length<=bs->nE k l->RX k bs l
 |more (l m:List α):l.length=bs->nE k l->RX k bs m->RX k bs (l++m)
inductive Ful (k:α->Int) (bs:Nat):List α->Prop
 |nil:Ful k bs []
 |snoc (d l:List α):Ful k bs d->l.length=bs->nE k l->Ful k bs (d++l)
theorem Ful.rns{bs:Nat}{d:List α}(h:Ful k bs d):∀e,RX k bs e->RX k bs (d++e):=by
 induction h with
 |nil=>simp
 |snoc d l _ hl hs ih=>exactλe u=>by rw[ag3];exact ih _ (.more l e hl hs u)
theorem RX.srt{bs:Nat}{l:List α}(h:RX k bs l)(hl:l.length<=bs):nE k l:=by
 cases h with
 |last _ _ hs=>omega
 |more a m ha hs hm=>
  have:m=[]:=ag2 (by grind)
  simp_all
theorem RX.cut{bs:Nat}{l:List α}(h:RX k bs l)(hl:bs<l.length):∃a m,l=a++m/\a.length=bs/\nE k a/\RX k bs m/\m≠[]:=by
 cases h with
 |last _ h1 _=>omega
 |more a m ha hs hm=>grind
def LoQ(X Y:List pX)(H s0 s:Nat):Prop:=s=s0\/∃x y,X[s-1]? =some x/\Y[H-s]? =some y/\iS x<=iS y
def HiQ(X Y:List pX)(H r0 r:Nat):Prop:=r=r0\/∃x y,X[r]? =some x/\Y[H-r-1]? =some y/\iS y<iS x
theorem abF{n:Nat}(h:n<=4000000):mD1 (n:Int)=((n/2:Nat):Int):=by
 have e:IntKind.u64.wrap (n:Int)=(n:Int):=by grind[IntKind.wrap,IntKind.signed,IntKind.bits,Int.emod_eq_of_lt]
 exact (congrArg (aZ .u64 · 1) e).trans (Hm (s:=1) σ)
end
section
variable{w:aiA}{L:List aE}{o:aiz}{n c:Nat}{d:FuncId}{e:List Value}
theorem Ft{i j:Nat}(h:i+j<=4000000):mD1 ((i:Int)+(j:Int))=(((i+j)/2:Nat):Int):=by
 rw[<-abF h];simp
theorem IX(hc:abE d e)(N:Nat):∀{w:aiA}{L:List aE}{A X Y C:List pX}{xs:List pX}{a m b:Int}(h:St w (own 3 o n c (gG xs)::L))(hxs:xs=A++(X++(Y++C)))(ha:a=A.length)(hm:m=((A.length+X.length:Nat):Int))(hb:b=((A.length+X.length+Y.length:Nat):Int))(hX:X≠[])(hY:Y≠[])(hN:X.length+Y.length<=N)
  (hsX:nE iS X) (hsY:nE iS Y) (hs:∀x∈X++Y,Qu x) (hn:xs.length<=1000000),
  ρ 388 [vS o n c,iI a,iI m,iI b,.func (.func d) #[] ⟨e⟩] w λv w'=>v=.tuple #[]/\∃S,S.Perm (X++Y)/\nE iS S/\St w' (own 3 o n c (gG (A++(S++C)))::L):=by
 induction N with
 |zero=>simp_all
 |succ N ih=>
 intro w L A X Y C xs a m b h hxs ha hm hb hX hY hN hsX hsY hs hn;have hl:xs.length=A.length+X.length+Y.length+C.length:=by grind
 have d8:=ah9.2 hX;have cx:=ah9.2 hY;have cu:=Nc h;have e0:n<=1000000:=ω
 have b4:∀x∈X,Qu x:=λx hx=>hs x (by grind);have av:∀x∈Y,Qu x:=λx hx=>hs x (by grind);have al:ns 1:=by simp[ns]
 subst ha hm hb
 --what stands at a place
 have b5:∀i,i<X.length->∃x,X[i]? =some x/\xs[A.length+i]? =some x:=λi hi=>by
  refine⟨_,agM hi,?_⟩;rw[hxs,ahg ω,ahC,ag8 hi,agM hi]
 have b6:∀i,i<Y.length->∃y,Y[i]? =some y/\xs[A.length+X.length+i]? =some y:=λi hi=>by
  refine⟨_,agM hi,?_⟩;rw[hxs,ahg ω,show A.length+X.length+i-A.length=X.length+i by omega,ahg ω,ahC,ag8 hi,agM hi]
 have eA:(((A.length+X.length:Nat):Int)-A.length==1)=decide (X.length=1):=by grind
 have eB:(((A.length+X.length+Y.length:Nat):Int)-((A.length+X.length:Nat):Int)==1)=decide (Y.length=1):=by grind
 refine jb ⟨ξ,?_⟩;rw[eA]
 refine ae (λh1=>?_) λh1=>?_
 ·--one on the left
  have h1:=agQ h1;obtain⟨x,c6⟩:∃x,X=[x]:=List.length_eq_one_iff.1 h1;subst c6;obtain⟨_,ci,gx⟩:=b5 0 σ;cases ci;have bc:Qu x:=b4 x σ;refine⟨λi j w'=>∃J U:Nat,i=((A.length+1+J:Nat):Int)/\j=((A.length+1+U:Nat):Int)/\J<=U/\U<=Y.length/\(∀y,0<J->Y[J-1]? =some y->iS y<iS x)/\(∀y,Y[U]? =some y->iS x<=iS y)/\St w' (own 3 o n c (gG xs)::L),λi j _=>j.toNat-i.toNat,⟨0,Y.length,σ,σ,agP _,agT _,λy hy=>absurd hy ω,λy hy=>(by grind),h⟩,?_⟩;clear h;rintro _ _ _ w1⟨J,U,rfl,rfl,bl,hj,a8,a9,h⟩
  refine ae (λh2=>?_) λh2=>?_
  ·have h2:J<U:=by grind
   rw[Ft ω];obtain⟨q,hq⟩:∃q,q=(J+U)/2:=⟨_,rfl⟩;have aa:(A.length+1+J+(A.length+1+U))/2=A.length+1+q:=ω
   rw[aa];have bz:q<U:=ω
   have b7:J<=q:=ω
   obtain⟨y,hy,gy⟩:=b6 q ω;have gy:xs[A.length+1+q]? =some y:=gy;refine⟨ξ,al,ξ,λw2 hd=>?_⟩;have h:=h.eq (aQ hd);obtain⟨ad,V,ry⟩:=RW h gy;obtain⟨b3,O,rx⟩:=RW h gx;rw[V] at O;cases O;refine⟨λu=>Gr w2 u,Gr.refl _,aO V ω ⟨_,_,_,_,_,λu g=>ry.at g rfl,aO V ω ⟨_,_,_,_,_,λu g=>rx.at g rfl,a_.2 ⟨hc.1,(hc.2 y x w2 (av y (agL hy)) bc).mono ?_⟩⟩⟩⟩;rintro _ w5⟨t,rfl,ht,g5⟩;have h:=h.gr g5
   refine⟨_,rfl,g5,ae (λh3=>?_) λh3=>?_⟩
   ·have h3:=ht.1 (agQ h3)
    refine⟨ξ,⟨q+1,U,by rfl,rfl,ω,hj,λy' _ cg=>?_,a9,h⟩,?_⟩
    ·grind
    ·show((A.length+1+U:Nat):Int).toNat-(((A.length+1+q:Nat):Int)+1).toNat<((A.length+1+U:Nat):Int).toNat-((A.length+1+J:Nat):Int).toNat
     omega
   ·have h3:¬iS y<iS x:=λhh=>(agO h3) (ht.2 hh)
    refine⟨⟨J,q,rfl,rfl,b7,ω,a8,λy' cg=>?_,h⟩,?_⟩
    ·grind
    ·show((A.length+1+q:Nat):Int).toNat-((A.length+1+J:Nat):Int).toNat<((A.length+1+U:Nat):Int).toNat-((A.length+1+J:Nat):Int).toNat
     omega
  have h2:J=U:=by grind
  subst h2;refine⟨λz w'=>∃k:Nat,z=((A.length+k:Nat):Int)/\k<=J/\St w' (own 3 o n c (gG (A++(Y.take k++x::(Y.drop k++C))))::L),λz _=>A.length+J-z.toNat,⟨0,σ,agP _,by grind⟩,?_⟩;clear h;rintro _ _ w6⟨k,rfl,hk,h⟩;refine⟨ξ,ae (λh3=>?_) λh3=>?_⟩
  rotate_left
  ·have h3:k=J:=by grind
   subst h3;have a7:nE iS (Y.take k++Y.drop k):=by grind[List.take_append_drop]
   refine⟨rfl,Y.take k++x::Y.drop k,?_,M5 a7 (λy hy=>?_) (λy hy=>?_),by grind⟩
   ·refine ahG.trans ?_;simp
   ·have ca:0<k:=ahT λe=>by grind
    rw[aio,ahl,show min k Y.length-1=k-1 by omega,ahJ,ag0 ω] at hy
    grind
   ·rw[List.head?_eq_getElem?,ahy,Nat.add_zero] at hy
    grind
  have h3:k<J:=by grind
  intro w7 hd;have h:=h.eq (aQ hd);obtain⟨y,hy⟩:∃y,Y[k]? =some y:=⟨_,agM ω⟩;have eY:Y.drop k=y::Y.drop (k+1):=by grind[List.drop_eq_getElem_cons,List.getElem?_eq_getElem,Option.some.inj]
  obtain⟨D,hD⟩:∃D,D=A++(Y.take k++x::(Y.drop k++C)):=⟨_,rfl⟩;rw[<-hD] at h;have lk:(A++Y.take k).length=A.length+k:=by simp;omega
  have e1:D=(A++Y.take k)++x::([]++y::(Y.drop (k+1)++C)):=by grind
  have g1:D[A.length+k]? =some x:=by grind[u6]
  have g2:D[A.length+k+1]? =some y:=by
   rw[e1,show(A++Y.take k)++x::([]++y::(Y.drop (k+1)++C))=((A++Y.take k)++[x])++y::(Y.drop (k+1)++C) by simp]
   grind[u6,List.length_append]
  have cd:=Nc h;have b1:A.length+k<n:=ω
  have b2:A.length+k+1<n:=ω
  obtain⟨ad,V,r1⟩:=RW h g1;obtain⟨b3,O,r2⟩:=RW h g2;rw[V] at O;cases O;have z1:((A.length+k:Nat):Int)+1=((A.length+k+1:Nat):Int):=σ
  rw[z1]
  refine⟨λu=>hp u=hp w7,rfl,ξ,ξ,aO V b2 ⟨_,_,_,_,_,λu e=>r2.at (by grind[sub.refl]) rfl,aO V b1 ⟨_,_,_,_,_,λu e=>r1.at (by grind[sub.refl]) rfl,aO V b1 (bkW (x:=y) h V ω λcA h=>aO V b2 (bkW (x:=x) h V (by grind) λdc h=>⟨ξ,⟨k+1,rfl,ω,?_⟩,?_⟩))⟩⟩⟩
  ·have e2:(D.set (A.length+k) y).set (A.length+k+1) x=A++(Y.take (k+1)++x::(Y.drop (k+1)++C)):=by
    rw[e1,CR lk.symm (by grind),agR,hy];simp
   grind
  ·show A.length+J-((A.length+k+1:Nat):Int).toNat<A.length+J-((A.length+k:Nat):Int).toNat
   omega
 have h1:X.length≠1:=agO h1;refine⟨ξ,?_⟩;rw[eB]
 refine ae (λh4=>?_) λh4=>?_
 ·--one on the right
  have h4:=agQ h4;obtain⟨y,c8⟩:∃y,Y=[y]:=List.length_eq_one_iff.1 h4;subst c8;obtain⟨_,bT,gy⟩:=b6 0 σ;cases bT;have be:Qu y:=av y σ;refine⟨λi j w'=>∃J U:Nat,i=((A.length+J:Nat):Int)/\j=((A.length+U:Nat):Int)/\J<=U/\U<=X.length/\(∀x,0<J->X[J-1]? =some x->iS x<=iS y)/\(∀x,X[U]? =some x->iS y<iS x)/\St w' (own 3 o n c (gG xs)::L),λi j _=>j.toNat-i.toNat,⟨0,X.length,σ,rfl,agP _,agT _,λx hx=>absurd hx ω,λx hx=>(by grind),h⟩,?_⟩;clear h;rintro _ _ _ w1⟨J,U,rfl,rfl,bl,hj,a8,a9,h⟩
  refine ae (λh2=>?_) λh2=>?_
  ·have h2:J<U:=by grind
   rw[Ft ω];obtain⟨q,hq⟩:∃q,q=(J+U)/2:=⟨_,rfl⟩;have aa:(A.length+J+(A.length+U))/2=A.length+q:=ω
   rw[aa];have bz:q<U:=ω
   have b7:J<=q:=ω
   obtain⟨x,hx,gx⟩:=b5 q ω;refine⟨ξ,al,ξ,λw2 hd=>?_⟩;have h:=h.eq (aQ hd);obtain⟨ad,V,ry⟩:=RW h gy;obtain⟨b3,O,rx⟩:=RW h gx;rw[V] at O;cases O;refine⟨λu=>Gr w2 u,Gr.refl _,aO V ω ⟨_,_,_,_,_,λu g=>ry.at g rfl,aO V ω ⟨_,_,_,_,_,λu g=>rx.at g rfl,a_.2 ⟨hc.1,(hc.2 y x w2 be (b4 x (agL hx))).mono ?_⟩⟩⟩⟩;rintro _ w5⟨t,rfl,ht,g5⟩;have h:=h.gr g5
   refine⟨_,rfl,g5,ae (λh3=>?_) λh3=>?_⟩
   ·have h3:¬iS y<iS x:=λhh=>by grind
    refine⟨ξ,⟨q+1,U,by rfl,rfl,ω,hj,λx' _ ch=>?_,a9,h⟩,?_⟩
    ·grind
    ·show((A.length+U:Nat):Int).toNat-(((A.length+q:Nat):Int)+1).toNat<((A.length+U:Nat):Int).toNat-((A.length+J:Nat):Int).toNat
     omega
   ·have h3:iS y<iS x:=ht.1 (by grind)
    refine⟨⟨J,q,rfl,rfl,b7,ω,a8,λx' ch=>?_,h⟩,?_⟩
    ·grind
    ·show((A.length+q:Nat):Int).toNat-((A.length+J:Nat):Int).toNat<((A.length+U:Nat):Int).toNat-((A.length+J:Nat):Int).toNat
     omega
  have h2:J=U:=by grind
  subst h2;refine⟨λz w'=>∃k:Nat,z=((A.length+k:Nat):Int)/\J<=k/\k<=X.length/\St w' (own 3 o n c (gG (A++(X.take k++y::(X.drop k++C))))::L),λz _=>z.toNat,⟨X.length,rfl,hj,agT _,by grind⟩,?_⟩;clear h;rintro _ _ e4⟨k,rfl,d4,hk,h⟩;refine ae (λh3=>?_) λh3=>?_
  rotate_left
  ·have h3:k=J:=by grind
   subst h3;have a5:nE iS (X.take k++X.drop k):=by grind[List.take_append_drop]
   refine⟨rfl,X.take k++y::X.drop k,?_,M5 a5 (λx hx=>?_) (λx hx=>?_),by grind⟩
   ·refine ahG.trans ?_;rw[aha]
    grind[List.perm_append_singleton]
   ·have ca:0<k:=ahT λe=>by grind
    rw[aio,ahl,show min k X.length-1=k-1 by omega,ahJ,ag0 ω] at hx
    grind
   ·rw[List.head?_eq_getElem?,ahy,Nat.add_zero] at hx
    grind
  have h3:J<k:=by grind
  obtain⟨k,rfl⟩:∃k',k=k'+1:=⟨k-1,ω⟩;intro bP hd;have h:=h.eq (aQ hd);obtain⟨x,hx⟩:∃x,X[k]? =some x:=⟨_,agM ω⟩;obtain⟨D,hD⟩:∃D,D=A++(X.take (k+1)++y::(X.drop (k+1)++C)):=⟨_,rfl⟩;rw[<-hD] at h;have lk:(A++X.take k).length=A.length+k:=by simp;omega
  have e1:D=(A++X.take k)++x::([]++y::(X.drop (k+1)++C)):=by rw[hD,agR,hx];simp
  have g1:D[A.length+k]? =some x:=by grind[u6]
  have g2:D[A.length+(k+1)]? =some y:=by
   rw[e1,show(A++X.take k)++x::([]++y::(X.drop (k+1)++C))=((A++X.take k)++[x])++y::(X.drop (k+1)++C) by simp];exact u6 (by grind)
  have cd:=Nc h;have b1:A.length+k<n:=ω
  have b2:A.length+(k+1)<n:=ω
  obtain⟨ad,V,r1⟩:=RW h g1;obtain⟨b3,O,r2⟩:=RW h g2;rw[V] at O;cases O;have z1:((A.length+(k+1):Nat):Int)-1=((A.length+k:Nat):Int):=ω
  rw[z1]
  refine⟨λu=>hp u=hp bP,rfl,ξ,ξ,aO V b1 ⟨_,_,_,_,_,λu e=>r1.at (by grind[sub.refl]) rfl,aO V b2 ⟨_,_,_,_,_,λu e=>r2.at (by grind[sub.refl]) rfl,aO V b2 (bkW (x:=x) h V ω λe5 h=>aO V b1 (bkW (x:=y) h V (by grind) λcp h=>⟨ξ,⟨k,rfl,ω,ω,?_⟩,?_⟩))⟩⟩⟩
  ·have eX:X.drop k=x::X.drop (k+1):=by grind[List.drop_eq_getElem_cons,List.getElem?_eq_getElem,Option.some.inj]
   have e2:(D.set (A.length+(k+1)) x).set (A.length+k) y=A++(X.take k++y::(X.drop k++C)):=by
    rw[List.set_comm _ _ ω,e1,CR lk.symm (by grind),eX];simp
   grind
  ·show((A.length+k:Nat):Int).toNat<((A.length+(k+1):Nat):Int).toNat
   omega
 have h4:Y.length≠1:=agO h4
 --the halves
 obtain⟨H,hH⟩:∃H,H=(X.length+Y.length)/2:=⟨_,rfl⟩;have hM:(A.length+(A.length+X.length+Y.length))/2=A.length+H:=ω
 have cC:0<H:=ω
 have dl:H<X.length+Y.length:=ω
 have d0:2*H<=X.length+Y.length:=ω
 have cF:X.length+Y.length<=2*H+1:=ω
 rw[Ft ω,hM];clear hH hM
 refine⟨ξ,al,ξ,ξ,λs r w'=>∃s' r':Nat,s=((A.length+s':Nat):Int)/\r=((A.length+r':Nat):Int)/\s'<=r'/\r'<=X.length/\r'<=H/\H-s'<=Y.length/\(s'=0\/H-s'=Y.length)/\(r'=X.length\/r'=H)/\hp w'=hp w,?_,?_⟩
 ·refine ae (λh5=>?_) λh5=>?_
  ·have h5:H<X.length:=by grind
   exact⟨ξ,H-Y.length,H,ω,by rfl,ω,ω,ω,ω,ω,ω,rfl⟩
  ·have h5:X.length<=H:=by grind
   exact⟨0,X.length,σ,rfl,agP _,agT _,h5,ω,.inl rfl,.inl rfl,rfl⟩
 rintro _ _ _ d6⟨s0,r0,rfl,rfl,c9,cT,dk,e6,dF,d5,c5⟩;have h:=h.eq c5;obtain⟨P,hP⟩:∃P,P=A.length+H+(A.length+X.length):=⟨_,rfl⟩;refine⟨ξ,λs r w'=>∃s' r':Nat,s=((A.length+s':Nat):Int)/\r=((A.length+r':Nat):Int)/\s0<=s'/\s'<=r'/\r'<=r0/\LoQ X Y H s0 s'/\HiQ X Y H r0 r'/\St w' (own 3 o n c (gG xs)::L),λs r _=>r.toNat-s.toNat,⟨s0,r0,rfl,rfl,agT _,c9,agT _,.inl rfl,.inl rfl,h⟩,?_⟩;clear h;rintro _ _ _ cI⟨s,r,rfl,rfl,c7,ck,bi,a8,a9,h⟩
 refine ae (λh5=>?_) λh5=>?_
 ·have h5:s<r:=by grind
  rw[Ft ω];obtain⟨q,hq⟩:∃q,q=(s+r)/2:=⟨_,rfl⟩;have aa:(A.length+s+(A.length+r))/2=A.length+q:=ω
  rw[aa];have d3:q<r:=ω
  have cc:s<=q:=ω
  have z1:((A.length+H:Nat):Int)+((A.length+X.length:Nat):Int)-1-((A.length+q:Nat):Int)=((A.length+X.length+(H-q-1):Nat):Int):=ω
  rw[z1];obtain⟨x,hx,gx⟩:=b5 q ω;obtain⟨y,hy,gy⟩:=b6 (H-q-1) ω;refine⟨ξ,al,ξ,λbb hd=>?_⟩;have h:=h.eq (aQ hd);obtain⟨ad,V,ry⟩:=RW h gy;obtain⟨b3,O,rx⟩:=RW h gx;rw[V] at O;cases O;refine⟨λu=>Gr bb u,Gr.refl _,ξ,aO V ω ⟨_,_,_,_,_,λu g=>ry.at g rfl,aO V ω ⟨_,_,_,_,_,λu g=>rx.at g rfl,a_.2 ⟨hc.1,(hc.2 y x bb (av y (agL hy)) (b4 x (agL hx))).mono ?_⟩⟩⟩⟩;rintro _ d7⟨t,rfl,ht,g5⟩;have h:=h.gr g5
  refine⟨_,rfl,g5,ae (λh3=>?_) λh3=>?_⟩
  ·have h3:¬iS y<iS x:=λhh=>by grind
   refine⟨ξ,⟨q+1,r,by rfl,rfl,ω,ω,bi,.inr ⟨x,y,by grind,ω,ω⟩,a9,h⟩,?_⟩
   show((A.length+r:Nat):Int).toNat-(((A.length+q:Nat):Int)+1).toNat<((A.length+r:Nat):Int).toNat-((A.length+s:Nat):Int).toNat
   omega
  ·have h3:iS y<iS x:=ht.1 (by grind);refine⟨⟨s,q,rfl,rfl,c7,cc,ω,a8,.inr ⟨x,y,hx,hy,h3⟩,h⟩,?_⟩
   show((A.length+q:Nat):Int).toNat-((A.length+s:Nat):Int).toNat<((A.length+r:Nat):Int).toNat-((A.length+s:Nat):Int).toNat
   omega
 have h5:s=r:=by grind
 subst h5;obtain⟨t,ht⟩:∃t,t=H-s:=⟨_,rfl⟩;have cz:t<=Y.length:=ω
 have z2:((A.length+H:Nat):Int)+((A.length+X.length:Nat):Int)-((A.length+s:Nat):Int)=((A.length+X.length+t:Nat):Int):=ω
 rw[z2];have a5:nE iS (X.take s++X.drop s):=by grind[List.take_append_drop]
 have a7:nE iS (Y.take t++Y.drop t):=by grind[List.take_append_drop]
 have am:(X.take s).length=s:=by grind
 have ba:(X.drop s).length=X.length-s:=σ
 have a6:(Y.take t).length=t:=by grind
 have cN:(Y.drop t).length=Y.length-t:=σ
 have c1:∀x y,(X.take s).getLast? =some x->(Y.drop t).head? =some y->iS x<=iS y:=λx y hx hy=>by
  have cW:0<s:=ahT λe=>by grind
  rw[aio,am,ahJ,ag0 ω] at hx;rw[List.head?_eq_getElem?,ahy,Nat.add_zero] at hy
  rcases a8 with e|⟨x',y',e1,e2,e3⟩
  ·grind
  grind
 have c2:∀x y,(Y.take t).getLast? =some x->(X.drop s).head? =some y->iS x<=iS y:=λx y hx hy=>by
  have ht1:0<t:=ahT λe=>by grind
  rw[aio,a6,ahJ,ag0 ω] at hx;rw[List.head?_eq_getElem?,ahy,Nat.add_zero] at hy
  rcases a9 with e|⟨x',y',e1,e2,e3⟩
  ·grind
  ·rw[hy] at e1;cases e1;rw[<-ht,hx] at e2;grind
 have rest:∀a0,St a0 (own 3 o n c (gG (A++(X.take s++(Y.take t++(X.drop s++(Y.drop t++C))))))::L)->br (decide ((A.length:Int)<((A.length+s:Nat):Int))) (br (decide (((A.length+s:Nat):Int)<((A.length+H:Nat):Int))) (ρ 388 [vS o n c,iI (A.length:Int),iI ((A.length+s:Nat):Int),iI ((A.length+H:Nat):Int),.func (.func d) #[] ⟨e⟩] a0 λv4 a4=>v4=.tuple #[]/\br (decide (((A.length+H:Nat):Int)<((A.length+X.length+t:Nat):Int))) (br (decide (((A.length+X.length+t:Nat):Int)<((A.length+X.length+Y.length:Nat):Int))) (ρ 388 [vS o n c,iI ((A.length+H:Nat):Int),iI ((A.length+X.length+t:Nat):Int),iI ((A.length+X.length+Y.length:Nat):Int),.func (.func d) #[] ⟨e⟩] a4 λv5 W=>v5=.tuple #[]/\((.tuple #[]:Value)=.tuple #[]/\∃S,S.Perm (X++Y)/\nE iS S/\St W (own 3 o n c (gG (A++(S++C)))::L))) ((.tuple #[]:Value)=.tuple #[]/\∃S,S.Perm (X++Y)/\nE iS S/\St a4 (own 3 o n c (gG (A++(S++C)))::L))) ((.tuple #[]:Value)=.tuple #[]/\∃S,S.Perm (X++Y)/\nE iS S/\St a4 (own 3 o n c (gG (A++(S++C)))::L)))
   (br (decide (((A.length+H:Nat):Int)<((A.length+X.length+t:Nat):Int))) (br (decide (((A.length+X.length+t:Nat):Int)<((A.length+X.length+Y.length:Nat):Int))) (ρ 388 [vS o n c,iI ((A.length+H:Nat):Int),iI ((A.length+X.length+t:Nat):Int),iI ((A.length+X.length+Y.length:Nat):Int),.func (.func d) #[] ⟨e⟩] a0 λv5 W=>v5=.tuple #[]/\((.tuple #[]:Value)=.tuple #[]/\∃S,S.Perm (X++Y)/\nE iS S/\St W (own 3 o n c (gG (A++(S++C)))::L))) ((.tuple #[]:Value)=.tuple #[]/\∃S,S.Perm (X++Y)/\nE iS S/\St a0 (own 3 o n c (gG (A++(S++C)))::L))) ((.tuple #[]:Value)=.tuple #[]/\∃S,S.Perm (X++Y)/\nE iS S/\St a0 (own 3 o n c (gG (A++(S++C)))::L))))
   (br (decide (((A.length+H:Nat):Int)<((A.length+X.length+t:Nat):Int))) (br (decide (((A.length+X.length+t:Nat):Int)<((A.length+X.length+Y.length:Nat):Int))) (ρ 388 [vS o n c,iI ((A.length+H:Nat):Int),iI ((A.length+X.length+t:Nat):Int),iI ((A.length+X.length+Y.length:Nat):Int),.func (.func d) #[] ⟨e⟩] a0 λv5 W=>v5=.tuple #[]/\((.tuple #[]:Value)=.tuple #[]/\∃S,S.Perm (X++Y)/\nE iS S/\St W (own 3 o n c (gG (A++(S++C)))::L))) ((.tuple #[]:Value)=.tuple #[]/\∃S,S.Perm (X++Y)/\nE iS S/\St a0 (own 3 o n c (gG (A++(S++C)))::L))) ((.tuple #[]:Value)=.tuple #[]/\∃S,S.Perm (X++Y)/\nE iS S/\St a0 (own 3 o n c (gG (A++(S++C)))::L))):=by
  intro a0 h
  --the Z half
  have Z:∀{a4:aiA}{S1:List pX},S1.Perm (X.take s++Y.take t)->nE iS S1->St a4 (own 3 o n c (gG (A++(S1++(X.drop s++(Y.drop t++C)))))::L)->br (decide (((A.length+H:Nat):Int)<((A.length+X.length+t:Nat):Int))) (br (decide (((A.length+X.length+t:Nat):Int)<((A.length+X.length+Y.length:Nat):Int))) (ρ 388 [vS o n c,iI ((A.length+H:Nat):Int),iI ((A.length+X.length+t:Nat):Int),iI ((A.length+X.length+Y.length:Nat):Int),.func (.func d) #[] ⟨e⟩] a4 λv5 W=>v5=.tuple #[]/\((.tuple #[]:Value)=.tuple #[]/\∃S,S.Perm (X++Y)/\nE iS S/\St W (own 3 o n c (gG (A++(S++C)))::L))) ((.tuple #[]:Value)=.tuple #[]/\∃S,S.Perm (X++Y)/\nE iS S/\St a4 (own 3 o n c (gG (A++(S++C)))::L))) ((.tuple #[]:Value)=.tuple #[]/\∃S,S.Perm (X++Y)/\nE iS S/\St a4 (own 3 o n c (gG (A++(S++C)))::L)):=by
   intro a4 S1 p1 s1 h;have l1:S1.length=s+t:=by rw[p1.length_eq,agV,am,a6]
   have fin:∀{W:aiA}{S2:List pX},S2.Perm (X.drop s++Y.drop t)->nE iS S2->St W (own 3 o n c (gG (A++(S1++(S2++C))))::L)->∃S,S.Perm (X++Y)/\nE iS S/\St W (own 3 o n c (gG (A++(S++C)))::L):=λ{W S2} p2 s2 h=>by
    obtain⟨q1,q2⟩:=RO a5 a7 c1 c2 p1 s1 p2 s2
    grind[List.take_append_drop,List.append_assoc]
   refine ae (λh6=>?_) λh6=>?_
   rotate_left
   ·have:X.drop s=[]:=ag2 (by grind);exact⟨rfl,fin (S2:=X.drop s++Y.drop t) (.refl _) (by grind) (by grind)⟩
   have h6:s<X.length:=by grind
   refine ae (λh7=>?_) λh7=>?_
   rotate_left
   ·have:Y.drop t=[]:=ag2 (by grind);exact⟨rfl,fin (S2:=X.drop s++Y.drop t) (.refl _) (by grind) (by grind)⟩
   have h7:t<Y.length:=by grind
   refine(ih (A:=A++S1) (X:=X.drop s) (Y:=Y.drop t) (C:=C) h σ (by grind) (by grind) (by grind) (λhh=>by grind) (λhh=>by grind) ω (lJ.1 a5).2.1 (lJ.1 a7).2.1 (λz hz=>?_) (by simp[l1];omega)).mono ?_
   ·grind
   rintro _ W⟨rfl,S2,p2,s2,h⟩;exact⟨rfl,rfl,fin p2 s2 (by grind)⟩
  refine ae (λh6=>?_) λh6=>?_
  rotate_left
  ·have:X.take s=[]:=ag2 (by grind);exact Z (S1:=X.take s++Y.take t) (.refl _) (by rw[this,ahU];exact(lJ.1 a7).1) (by grind)
  have h6:0<s:=by grind
  refine ae (λh7=>?_) λh7=>?_
  rotate_left
  ·have:Y.take t=[]:=ag2 (by grind);exact Z (S1:=X.take s++Y.take t) (.refl _) (by rw[this,ahe];exact(lJ.1 a5).1) (by grind)
  have h7:0<t:=by grind
  refine(ih (A:=A) (X:=X.take s) (Y:=Y.take t) (C:=X.drop s++(Y.drop t++C)) h rfl rfl ω ω (λhh=>by rw[hh] at am;simp at am;omega) (λhh=>by rw[hh] at a6;simp at a6;omega) ω (lJ.1 a5).1 (lJ.1 a7).1 (λz hz=>?_) (by simp;omega)).mono ?_
  ·rcases agX.1 hz with hz|hz
   ·exact b4 z (List.mem_of_mem_take hz)
   ·exact av z (List.mem_of_mem_take hz)
  rintro _ a4⟨rfl,S1,p1,s1,h⟩;exact⟨rfl,Z p1 s1 h⟩
 refine⟨ξ,λw'=>St w' (own 3 o n c (gG (A++(X.take s++(Y.take t++(X.drop s++(Y.drop t++C))))))::L),?_,λ_ a0 h=>rest a0 h⟩
 have d9:xs=A++(X.take s++(X.drop s++(Y.take t++(Y.drop t++C)))):=by
  rw[hxs,<-ag3 (X.take s),aha,<-ag3 (Y.take t),aha]
 refine ae (λh6=>?_) λh6=>?_
 rotate_left
 ·have:X.drop s=[]:=ag2 (by grind)
  grind
 have h6:s<X.length:=by grind
 refine ae (λh7=>?_) λh7=>?_
 rotate_left
 ·have:Y.take t=[]:=ag2 (by grind)
  grind
 have h7:0<t:=by grind
 refine(YX (A:=A++X.take s) (X:=X.drop s) (Y:=Y.take t) (C:=Y.drop t++C) h (by grind) (by simp;omega) (by simp;omega) (by simp;omega) (λhh=>by rw[hh] at ba;simp at ba;omega) (λhh=>by rw[hh] at a6;simp at a6;omega) hn).mono ?_;simp
end
section
variable{w:aiA}{L:List aE}{o:aiz}{n c:Nat}{d:FuncId}{e:List Value}
theorem YY{xs:List pX}(hc:abE d e)(h:St w (own 3 o n c (gG xs)::L))(hs:∀x∈xs,Qu x)(hn:n<=100000):
  ρ 357 [vS o n c,iI (n:Int),.func (.func d) #[] ⟨e⟩] w λv w'=>v=.tuple #[]/\∃ys,ys.Perm xs/\nE iS ys/\St w' (own 3 o n c (gG ys)::L):=by
 have aa:=Nc h;refine kg ⟨λa b w'=>∃D E:List pX,a=(D.length:Int)/\b=(D.length:Int)+20/\(D++E).Perm xs/\Ful iS 20 D/\St w' (own 3 o n c (gG (D++E))::L),λa _ _=>n-a.toNat,⟨[],xs,rfl,rfl,.refl _,.nil,h⟩,?_⟩;clear h;rintro _ _ _ w1⟨D,E,rfl,rfl,hp,Z,h⟩;have a5:D.length+E.length=xs.length:=by have:=hp.length_eq;simp_all
 have u:∀x∈E,Qu x:=λx hx=>hs x (hp.mem_iff.1 (by grind))
 refine ae (λV=>?_) λV=>?_
 ·have V:D.length+20<=n:=by grind
  have l1:(E.take 20).length=20:=by grind
  refine(PV (A:=D) (X:=E.take 20) (C:=E.drop 20) hc h σ rfl ω (λx hx=>u x (List.mem_of_mem_take hx)) (by grind)).mono ?_;rintro _ w2⟨rfl,S,J,U,h⟩;have lS:S.length=20:=by rw[J.length_eq,l1]
  refine⟨rfl,ξ,⟨D++S,E.drop 20,by grind,by grind,?_,.snoc D S Z lS U,by simp_all⟩,?_⟩
  ·grind[List.append_assoc,List.Perm.append_left,trans,List.take_append_drop]
  grind
 have V:n<D.length+20:=by grind
 refine(PV (A:=D) (X:=E) (C:=[]) hc h σ rfl ω u (by grind)).mono ?_;rintro _ w3⟨rfl,S,J,U,h⟩;have lS:S.length=E.length:=J.length_eq;have a4:RX iS 20 (D++S):=Z.rns S (.last S ω U);have a0:(D++S).Perm xs:=(List.Perm.append_left _ J).trans hp;refine⟨rfl,λz w'=>∃(bs:Nat)(ys:List pX),z=bs/\20<=bs/\bs<=200000/\ys.Perm xs/\RX iS bs ys/\St w' (own 3 o n c (gG ys)::L),λz _=>n-z.toNat,⟨20,D++S,rfl,agT _,ω,a0,a4,by simp_all⟩,?_⟩;clear h hp Z a0 a4 J U lS a5 u V;rintro _ _ w4⟨bs,ys,rfl,a9,am,hp,W,h⟩;have a6:ys.length=n:=by rw[hp.length_eq];omega
 refine ae (λV=>?_) λV=>?_
 rotate_left
 ·have V:n<=bs:=by simp_all
  exact⟨rfl,ys,hp,W.srt ω,h⟩
 have V:bs<n:=by simp_all
 have z0:2*(bs:Int)=((2*bs:Nat):Int):=σ
 rw[z0];refine⟨ξ,λa b w'=>∃D E:List pX,a=(D.length:Int)/\b=((D.length+2*bs:Nat):Int)/\(D++E).Perm xs/\Ful iS (2*bs) D/\RX iS bs E/\St w' (own 3 o n c (gG (D++E))::L),λa _ _=>n-a.toNat,⟨[],ys,rfl,σ,hp,.nil,W,h⟩,?_⟩;clear h hp W a6;rintro _ _ _ w5⟨D,E,rfl,rfl,hp,Z,W,h⟩;have a5:D.length+E.length=xs.length:=by have:=hp.length_eq;simp_all
 have u:∀x∈E,Qu x:=λx hx=>hs x (hp.mem_iff.1 (by grind))
 refine ae (λh2=>?_) λh2=>?_
 ·have h2:D.length+2*bs<=n:=by grind
  obtain⟨X,m,rfl,hX,sX,hm,_⟩:=W.cut ω;have al:bs<=m.length:=by grind
  obtain⟨Y,E',rfl,hY,sY,a8⟩:∃Y E',m=Y++E'/\Y.length=bs/\nE iS Y/\RX iS bs E':=by
   by_cases e:m.length=bs
   ·exact⟨m,[],σ,e,hm.srt ω,.last [] (agP _) .nil⟩
   ·obtain⟨Y,E',q1,q2,q3,q4,_⟩:=hm.cut ω
    grind
  refine⟨ξ,(IX hc (X.length+Y.length) (A:=D) (X:=X) (Y:=Y) (C:=E') h σ rfl ω ω (λhh=>by grind) (λhh=>by grind) (agT _) sX sY (λx hx=>u x ?_) (by grind)).mono ?_⟩
  ·grind
  rintro _ w6⟨rfl,S,J,U,h⟩;have lS:S.length=2*bs:=by rw[J.length_eq,agV];omega
  refine⟨rfl,ξ,ξ,⟨D++S,E',by grind,by grind,?_,.snoc D S Z lS U,a8,by simp_all⟩,?_⟩
  ·grind
  grind
 have h2:n<D.length+2*bs:=by grind
 have z1:(D.length:Int)+(bs:Int)=((D.length+bs:Nat):Int):=σ
 rw[z1]
 have next:∀{w':aiA}{S:List pX},S.Perm E->nE iS S->St w' (own 3 o n c (gG (D++S))::L)->aA ((bs:Int)*2)/\(∃(O:Nat)(ys:List pX),(bs:Int)*2=O/\20<=O/\O<=200000/\ys.Perm xs/\RX iS O ys/\St w' (own 3 o n c (gG ys)::L))/\n-((bs:Int)*2).toNat<n-(bs:Int).toNat:=λ{w' S} J U h=>by
  have lS:=J.length_eq;refine⟨ξ,⟨2*bs,D++S,ω,ω,ω,(List.Perm.append_left _ J).trans hp,Z.rns S (.last S ω U),h⟩,ω⟩
 refine⟨ξ,ae (λh3=>?_) λh3=>?_⟩
 ·have h3:D.length+bs<n:=by grind
  obtain⟨X,Y,rfl,hX,sX,hY,a7⟩:=W.cut ω;have ad:Y.length<bs:=by grind
  refine(IX hc (X.length+Y.length) (A:=D) (X:=X) (Y:=Y) (C:=[]) h σ rfl ω (by grind) (λhh=>by grind) a7 (agT _) sX (hY.srt ω) u (by grind)).mono ?_
  grind
 ·exact next (.refl E) (W.srt (by grind)) h
theorem YZ:abE qX []:=by
 refine⟨rfl,λx y u J O=>?_⟩;obtain⟨U,Y⟩:=J;obtain⟨X,W⟩:=O;refine zJ (ag (St.all u) λV Z h=>ag h λk2 w2 h=>?_);refine⟨_,(af 1 h.l).cell sZZ (j:=1) rfl,_,(af 0 h.l).cell sZZ (j:=1) rfl,ξ,_,rfl,?_,aC 2 h.l⟩
 grind
theorem Y0{xs:List pX}(h:St w (own 3 o xs.length c (gG xs)::aV (Bz xs)::L))(hs:∀x∈xs,Qu x)(hn:xs.length<=100000):
  ρ 298 [vS o xs.length c,.func (.func qX) #[] #[]] w λv w'=>v=.tuple #[]/\∃ys:List pX,ys.Perm xs/\nE iS ys/\St w' (own 3 o xs.length c (gG ys)::aV (Bz ys)::L):=by
 refine fG ((YY YZ h hs hn).mono ?_);rintro _ w'⟨rfl,ys,p,s,h⟩;refine⟨rfl,rfl,ys,p,s,?_⟩;have J:=St.flat.1 (h.pick 2 [1,0]);have u:=J.perm ((p.map λb=>bI 1 iv b.2).symm.append_right _);exact(St.flat.2 u).pick 2 [1,0]
end
section
variable{g:ah}{nn:List Bool}{ss:List SQ}
theorem Lm{q:Nat}{es:List aH}:(qW g q es).length<=es.length:=by simp[qW,ahs]
theorem Vo{q:Nat}{K:List au}:(ye q K).length<=1:=by grind[ye]
theorem Ln(h:∀q∈ss,q.2.2.length<=130):∀n,(pY g ss n).length<=n*131
 |0=>by simp[pY]
 |n+1=>by
  rw[IA,agV]
  have h1:=Ln h n
  grind[Fp,List.mem_of_getElem?,Lm,Vo,List.length_append]
theorem Lo{l:iR}{n:Nat}:(yf l n).length<=n:=by grind[yf]
theorem Lp{ls:List iR}(h:∀l∈ls,l.tm.length<=65):∀n,(tX ls n).length<=n*65
 |0=>by simp[tX]
 |n+1=>by
  have h1:=Lp h n
  grind[List.take_add_one,tX,IC,List.length_append,Lo,List.mem_of_getElem?]
def agC(g:ah)(nn:List Bool)(ss:List SQ)(ps:List (i_×Lq aD)):Prop:=(ps.map Prod.fst).Nodup/\∀q t:Nat,q<ss.length->t<g.T->j6 ⟨(q:Int),(t:Int)⟩ ps=ee g nn ss q t
end
theorem bkT{w:aiA}{L:List aE}{ds:List pX}{i:Nat}{b:pX}(h:St w (aV (Bz ds)::L))(hb:ds[i]? =some b):aX (hp w) b.2.2 b.2.1.1 b.2.2.length:=by
 have hA:(Bz ds)[i]? =some (bI 1 iv b.2):=by simp_all[Bz]
 have u:=St.out h hA;exact bt rfl (dN 0 u.l)
section
variable{w:aiA}{L:List aE}{g:ah}{x:GA}
theorem Y2{xs:List au}{a:aiz}{l c:Nat}{d e:Int}(hr:aX (hp w) xs a l)(hb:l<=4611686018427387904):ρ 297 [vS a l c,.agg #[iI d,iI e]] w λv w'=>v=vB (decide ((⟨d,e⟩:au)∈xs))/\Gr w w':=by
 have hl:=hr.1;refine hZ (ag (St.all w) λk1 U h=>?_);have g1:Gr w U:=h.aP;refine⟨_,_,(af 0 h.l).at sZZ rfl,?_⟩;clear h;have hr:=hr.mono g1
 have key:ρ 356 [vS a l c,.agg #[iI d,iI e]] U λv w'=>∃z:Int,v=iI z/\(0<=z↔(⟨d,e⟩:au)∈xs)/\Gr U w':=by
  refine jt (ag (St.all U) λk2 J h=>?_);have g2:Gr U J:=h.aP;have Z:aq (hp J) (aM k2) [iI d,iI e]:=af 0 h.l;clear h;have hr:=hr.mono g2;refine⟨λz w'=>∃j:Nat,z=j/\j<=l/\(⟨d,e⟩:au)∉xs.take j/\hp w'=hp J,λz _=>l-z.toNat,⟨0,rfl,agP _,σ,rfl⟩,?_⟩;rintro _ _ w3⟨j,rfl,hj,W,Y⟩;refine ae (λO=>?_) λO=>?_
  rotate_left
  ·have O:j=l:=by grind
   rw[ag4 ω] at W;exact⟨-1,rfl,⟨λh=>ω,λh=>absurd h W⟩,g2.trans (Gr.of_eq Y)⟩
  have O:j<l:=by simp_all
  obtain⟨y,ad,hy,rfl,ry⟩:=U9 hr O;intro w4 hd;have X:hp w4=hp J:=(aQ hd).trans Y;have sb:∀u:aiA,hp u=hp J->sub (hp J) (hp u):=λu e=>by simp_all[sub.refl]
  refine⟨λu=>hp u=hp J,X,_,_,λu e=>Z.at (sb u e) rfl,aO rfl O ⟨_,_,λu e=>ry.at (sb u e) rfl,_,λu _=>Rg u _ _ ⟨d,e⟩ y,_,rfl,ae (λV=>?_) λV=>?_⟩⟩
  ·have V:=agQ V;exact⟨j,rfl,⟨λ_=>by grind,λ_=>ahu _⟩,g2.trans (Gr.of_eq X)⟩
  ·have V:=agO V;refine⟨ξ,⟨j+1,σ,O,λhm=>?_,X⟩,bR O⟩
   simp_all[agR]
 refine key.mono ?_;rintro _ w'⟨z,rfl,hz,g⟩;refine⟨z,rfl,?_,g1.trans g⟩
 simp_all
theorem Y3(hg:gR (hp w) g x)(hb:lq g)(ht:dP (hp w)):ρ 213 [.agg ⟨x.cells⟩] w λv w'=>∃(ss:List SQ)(ask int f:Int)(nn:List Bool)(b:Option Nat)(z:Int),v=.tuple #[.map b,iI z,iI f]/\Fh g ss ask int f/\(f=0->lE g nn)/\Gr w w'/\(f=0->∃(k:Nat)(ps:List (i_×Lq aD)),b=some k/\z=(ss.length:Int)/\agC g nn ss ps/\St w' (mapA k (mV ps)::aV (mO 2 du ps)::all w)):=by
 refine EK (gi hg λk1 w1 gw a8 B=>?_);refine⟨_,_,_,_,_,_,_,_,_,_,_,_,_,B.row sZZ,(xU a8 hb).mono ?_⟩;rintro _ w2⟨o,c,ss,ask,int,f,rfl,hR,W⟩;have ba:Gr w1 w2:=aC 3 W.l;have hs:O_ (hp w2) ss o:=GF W.l;clear W;refine⟨_,_,_,_,_,_,rfl,ag (St.all w2) λb1 w3 h=>aL h rfl (by simp[aK]) λY h=>?_⟩;have a5:Gr w2 Y:=h.aP;have a9:aq (hp Y) (aM b1) [vS o ss.length c,iI ask,iI int]:=af 0 h.l;clear h;have V:=ba.trans a5
 refine ae (λJ=>?_) λJ=>?_
 ·have J:f≠0:=by simp_all
  exact⟨ss,ask,int,f,[],none,0,rfl,hR,λh=>absurd h J,gw.trans V,λh=>absurd h J⟩
 have J:f=0:=by simp_all
 subst J;obtain⟨hc,hA⟩:=hR.Qs rfl;have a6:=hA.J9 hc;have c9:=hA.dn.2.1;obtain⟨sT,sN,sP,_,_,_⟩:=hc.cK;have tl:=hg.t.1;refine⟨_,_,_,_,_,_,_,_,_,_,_,_,_,B.row V,(Yo (a8.mono V) hb (eE.mono (gw.trans V) ht)).mono ?_⟩;rintro _ w5⟨cd,cc,c8,f2,nn,oS,cS,ds,rfl,bT,hn,aa,h⟩;obtain⟨_,bb,_,_,ef,_⟩:=hR.one bT;subst ef;rw[La bb.symm] at aa;have c5:=hn rfl;refine⟨_,_,_,_,rfl,ae (λJ=>by simp_all) λ_=>?_⟩;obtain⟨a0,_⟩:=TD hc hA
 have cA:ds.length<=24832:=by
  have:=congrArg List.length aa
  grind[List.length_map,RL]
 have be:∀l∈dt g nn ss,l.tm.length<=65:=λl hl=>by
  obtain⟨b,_,rfl⟩:=agY.1 hl;exact ahq Yv sT
 have hs:=hs.mono a5;have b2:∀q∈ss,q.2.2.length<=130:=λq hq=>(a6 q hq).2;have pS:∀n,n<=ss.length->(pY g ss n).length<=33536:=λn hn=>by grind[Ln]
 have bl:∀b∈ds,Qu b:=λb hb=>by
  have hm:yc b∈dt g nn ss:=by grind
  obtain⟨q,m,_,cI,_,e⟩:=CS hm;have e:b.1.2=(m:Int):=congrArg iR.prod e
  grind[Qu]
 refine nS h λU w6 h=>?_;have h:St w6 (mapA U (mV ([]:List (i_×Lq aD)))::own 3 oS ds.length cS (gG ds)::aV (Bz ds)::all Y):=dW h;have h:St w6 (mapA U (mV ([]:List (i_×Lq aD)))::aV (mO 2 du ([]:List (i_×Lq aD)))::own 3 oS ds.length cS (gG ds)::aV (Bz ds)::all Y):=((St.flat (M:=[])).2 h).pick 2 [1,0];refine⟨_,_,_,a9.cell0 (aC 4 h.l),λz w'=>∃(q:Nat)(ps:List (i_×Lq aD)),z=q/\q<=ss.length/\Gh ps (pY g ss q)/\St w' (mapA U (mV ps)::aV (mO 2 du ps)::own 3 oS ds.length cS (gG ds)::aV (Bz ds)::all Y),λz _=>ss.length-z.toNat,⟨0,[],rfl,agP _,Gh.nil,h⟩,?_⟩;clear h;rintro _ _ w7⟨q,ps,rfl,hq,hG,h⟩
 refine ae (λJ=>?_) λJ=>?_
 ·have J:q<ss.length:=by simp_all
  obtain⟨r,hr⟩:∃r,ss[q]? =some r:=⟨_,agM J⟩;obtain⟨ad,ho,rs,rk,re⟩:=hs q r hr;have a4:=agL hr;have ck:=b2 r a4;have ca:=(a6 r a4).1;have d3:=pS q hq;have eS:pY g ss (q+1)=pY g ss q++(qW g q r.2.2++ye q r.1.2):=by simp_all[IA,Fp]
  refine aO ho J ⟨_,_,_,_,_,_,rs.at (aC 4 h.l) rfl,ag h λc6 w8 h=>aL h rfl (by simp[aK]) λw9 h=>⟨_,_,_,(af 0 h.l).cell sZZ (j:=1) rfl,?_⟩⟩;refine⟨λz w'=>∃(k:Nat)(ps:List (i_×Lq aD)),z=k/\k<=r.2.2.length/\Gh ps (pY g ss q++qW g q (r.2.2.take k))/\St w' (mapA U (mV ps)::aV (mO 2 du ps)::az c6 (U5 r)::own 3 oS ds.length cS (gG ds)::aV (Bz ds)::all Y),λz _=>r.2.2.length-z.toNat,⟨0,ps,rfl,agP _,by simp_all[qW],h.pick 3 [1,2,0]⟩,?_⟩;clear h hG;rintro _ _ cu⟨k,ps,rfl,hk,hG,h⟩;have bP:=Lm (g:=g) (q:=q) (es:=r.2.2.take k);rw[ahl] at bP
  refine ae (λO=>?_) λO=>?_
  ·have O:k<r.2.2.length:=by simp_all
   obtain⟨e,dl,he,av,c7⟩:=pM re O;have d7:r.2.2.take (k+1)=r.2.2.take k++[e]:=by simp_all[agR]
   refine aO av O ⟨_,_,c7.at (aC 5 h.l) rfl,ag h λcT d9 h=>aL h rfl (by simp[aK]) λcC h=>⟨_,(af 0 h.l).cell0 sZZ,_,_,_,B.c0 (sub.trans V (aC 6 h.l)),ae (λW=>?_) λW=>?_⟩⟩
   ·have W:e.sym<(g.T:Int):=by have:=agQ W;rw[<-tl] at this;exact this
    refine⟨_,(af 0 h.l).cell0 sZZ,_,(af 0 h.l).cell sZZ (j:=1) rfl,ag h λcz cp h=>(YD (q:=q) (t:=e.sym) (a:=⟨1,e.to⟩) (h.pick 2 [0]) hG (by grind)).mono ?_⟩;rintro _ d5⟨rfl,X,Z,h⟩;refine⟨rfl,ξ,⟨k+1,X,σ,O,?_,h⟩,bR O⟩
    simp_all[IB]
   ·have W:¬e.sym<(g.T:Int):=by have:=agO W;rw[<-tl] at this;exact this
    refine⟨ξ,⟨k+1,ps,σ,O,?_,h.tail⟩,bR O⟩
    simp_all[IB,agW]
  have O:k=r.2.2.length:=by grind
  rw[O,ag9] at hG;refine⟨_,_,_,(af 2 h.l).cell0 sZZ,(Y2 (rk.mono (aC 5 h.l)) ω).mono ?_⟩;rintro _ d0⟨rfl,al⟩;have h:=h.gr al
  refine⟨_,rfl,ae (λW=>ag h λcg cW h=>(YD (q:=q) (t:=0) (a:=⟨3,0⟩) h hG (by grind)).mono ?_) λW=>?_⟩
  ·rintro _ e0⟨rfl,X,Z,h⟩;refine⟨rfl,ξ,⟨q+1,X,σ,J,?_,h.pick 3 [0,1]⟩,bR J⟩;have ea:ye q r.1.2=[(⟨(q:Int),0⟩,⟨3,0⟩)]:=by unfold ye;simp_all
   simp_all
  ·refine⟨ξ,⟨q+1,ps,σ,J,?_,h.pick 3 [0,1]⟩,bR J⟩;have ea:ye q r.1.2=[]:=by unfold ye;simp_all
   simp_all
 have J:q=ss.length:=by grind
 subst J;have cN:=pS ss.length (agT _);refine(Y0 (h.pick 4 [2,3,0,1]) bl ω).mono ?_;rintro _ cF⟨rfl,ys,bi,b3,h⟩;have b7:ds.length=ys.length:=bi.length_eq.symm;rw[b7] at h ⊢;have pL:(ys.map yc).Perm (dt g nn ss):=by grind
 have sL:nE (·.prod) (ys.map yc):=by rw[nE,ahD];exact b3
 have bz:∀l∈ys.map yc,l.tm.length<=65:=λl hl=>be l (pL.mem_iff.1 hl);have am:∀n,n<=ys.length->(tX (ys.map yc) n).length<=24832*65:=λn hn=>by grind[Lp]
 refine⟨rfl,λz w'=>∃(i:Nat)(ps:List (i_×Lq aD)),z=i/\i<=ys.length/\Gh ps (pY g ss ss.length++tX (ys.map yc) i)/\St w' (mapA U (mV ps)::aV (mO 2 du ps)::own 3 oS ys.length cS (gG ys)::aV (Bz ys)::all Y),λz _=>ys.length-z.toNat,⟨0,ps,rfl,agP _,by simp_all[tX],h.pick 4 [2,3,0,1]⟩,?_⟩;clear h hG;rintro _ _ e1⟨i,ps,rfl,hi,hG,h⟩
 refine ae (λJ=>?_) λJ=>?_
 ·have J:i<ys.length:=by simp_all
  obtain⟨b,a7⟩:∃b,ys[i]? =some b:=⟨_,agM J⟩;have a0:(ys.map yc)[i]? =some (yc b):=by simp_all
  have dc:b.2.2.length<=65:=bz (yc b) (agL a0);have dF:=am i hi;obtain⟨ad,ho,rb⟩:=RW (h.pick 3 [2,0,1]) a7;refine aO ho J ⟨_,_,_,_,_,rb.at sZZ rfl,ag h λb5 d8 h=>aL h rfl (by simp[aK]) λe2 h=>⟨_,_,_,(af 0 h.l).cell sZZ (j:=2) rfl,?_⟩⟩;refine⟨λz w'=>∃(k:Nat)(ps:List (i_×Lq aD)),z=k/\k<=b.2.2.length/\Gh ps ((pY g ss ss.length++tX (ys.map yc) i)++yf (yc b) k)/\St w' (mapA U (mV ps)::aV (mO 2 du ps)::az b5 (rwQ b)::own 3 oS ys.length cS (gG ys)::aV (Bz ys)::all Y),λz _=>b.2.2.length-z.toNat,⟨0,ps,rfl,agP _,by simp_all[yf],h.pick 3 [1,2,0]⟩,?_⟩;clear h hG rb;rintro _ _ ch⟨k,ps,rfl,hk,hG,h⟩
  refine ae (λO=>?_) λO=>?_
  ·have O:k<b.2.2.length:=by simp_all
   have rt:=bkT (h.pick 5 [4,0,1,2,3]) a7;obtain⟨t,dk,ht1,b6,b4⟩:=rt.dQ O;have d6:=Lo (l:=yc b) (n:=k);refine ax b6 O ⟨t,b4 _ sZZ,_,(af 2 h.l).cell0 sZZ,_,(af 2 h.l).cell sZZ (j:=1) rfl,ag h λci d4 h=>(YD (q:=b.1.1) (t:=t) (a:=⟨2,b.1.2⟩) h hG (by grind)).mono ?_⟩;rintro _ cx⟨rfl,X,Z,h⟩;refine⟨rfl,ξ,⟨k+1,X,σ,O,?_,h⟩,bR O⟩;rw[RP (show(yc b).tm[k]? =some t from ht1),<-ag3];exact Z
  ·have O:k=b.2.2.length:=by grind
   refine⟨ξ,⟨i+1,ps,σ,J,?_,h.pick 3 [0,1]⟩,bR J⟩;rw[IC a0,<-ag3];rw[O] at hG;exact hG
 have J:i=ys.length:=by grind
 subst J;intro bc hd;have h:=h.eq (aQ hd)
 refine⟨λu=>hp u=hp bc,rfl,_,_,_,λu e=>a9.cell0 (by rw[e];exact aC 4 h.l),ss,ask,int,0,nn,some U,_,rfl,hR,λ_=>c5,gw.trans (sub.trans V (aC 4 h.l)),λ_=>⟨U,ps,rfl,rfl,⟨hG.1,λq t hq ht=>?_⟩,?_⟩⟩
 ·rw[hG.2,show ys.length=(ys.map yc).length by simp]
  grind[afS]
 ·exact St.Oo (h.pick 5 [0,1,4]) (bF (gw.trans V))
end
abbrev Fu:=(Int×Int)×Lq aD
def ckE(b:Fu):List Value:=[iI b.1.1,iI b.1.2,bX b.2]
def Fv(bs:List Fu):List Value:=bs.flatMap ckE
def Dl(bs:List Fu):List aE:=bs.map λb=>bI 2 du b.2
def oU(b:Fu):cP:=⟨b.1.1,b.1.2,b.2.2⟩
def plQ(b:Fu):i_×Lq aD:=(⟨b.1.1,b.1.2⟩,b.2)
theorem Nf(bs:List Fu):(Fv bs).length=bs.length*3:=pJ (f:=ckE) (n:=3) (λ_=>rfl) bs
theorem Ng(xs ys:List Fu):Fv (xs++ys)=Fv xs++Fv ys:=ahh
theorem PW{α:Type}:∀{l1 l2:List α},l1.Nodup->(∀x∈l1,x∈l2)->∃l3,l2.Perm (l1++l3)
 |[],l2,_,_=>⟨l2,.refl _⟩
 |a::l1,l2,hn,hs=>by
  obtain⟨h1,h2⟩:=ahE.1 hn
  obtain⟨s,t,rfl⟩:=List.append_of_mem (hs a σ)
  obtain⟨l3,h3⟩:=PW (l2:=s++t) h2 λx hx=>by grind
  exact⟨l3,ahG.trans (.cons a h3)⟩
section
variable{g:ah}{nn:List Bool}{ss:List SQ}{least:Nat}{w:aiA}{L:List aE}
theorem RY{ds:List Fu}{ps:List (i_×Lq aD)}{n:Nat}(hd:ds.map oU=nr g nn ss least n)(hm:∀d∈ds,plQ d∈ps)(h:St w (aV (mO 2 du ps)::L)):St w (aV (Dl ds)::L):=by
 have U:(ds.map plQ).Nodup:=by
  have u:(ds.map oU).Pairwise cP.lt:=by simp_all[EG]
  rw[ahD] at u;rw[ahF,ahD];refine u.imp λ{a b} h e=>?_;have Y:=congrArg (λz=>z.1.st) e;have X:=congrArg (λz=>z.1.tm) e
  simp_all[cP.lt,oU,plQ]
 obtain⟨O,J⟩:=PW U (l2:=ps) λx W=>by grind
 have hp:(mO 2 du ps).Perm (Dl ds++mO 2 du O):=by
  have:=J.map λq=>bI 2 du q.2;rw[ag7,air] at this;exact this
 have u:=(St.flat.1 h).perm (hp.append_right _);rw[ag3] at u;have V:St w (aV (Dl ds)::(mO 2 du O++L)):=St.flat.2 u;have J:St w (mO 2 du O++(aV (Dl ds)::L)):=V.perm ahG.symm;exact(St.flat.2 J).tail
theorem Vp(ps:List (i_×Lq aD))(p:i_):∃e:Lq aD,(assoc p (mV ps)).getD (zS)=bX e/\e.2=j6 p ps/\(e.2≠[]->(p,e)∈ps):=by
 rw[jD];unfold j6;cases h:fN p ps with
 |none=>exact⟨((none,0),[]),rfl,rfl,λh=>absurd rfl h⟩
 |some e=>exact⟨e,rfl,rfl,λ_=>HV h⟩
end
section
variable{w:aiA}{L:List aE}{g:ah}{x:GA}
theorem TS{least:Nat}(hl1:1<=least)(hl2:least<=10)(hg:gR (hp w) g x)(hb:lq g)(ht:dP (hp w)):ρ 114 [.agg ⟨x.cells⟩,iI (least:Int)] w λv w'=>∃(ss:List SQ)(ask int f:Int)(nn:List Bool)(o:aiz)(c:Nat)(ds:List Fu),v=.tuple #[vS o ds.length c,iI f]/\Fh g ss ask int f/\(f=0->lE g nn)/\ds.map oU=nu g nn ss least/\St w' (own 3 o ds.length c (Fv ds)::aV (Dl ds)::all w):=by
 refine Gg (gi hg λk1 w1 gw a5 B=>?_);refine⟨_,_,_,_,_,_,_,_,_,_,_,_,_,B.row sZZ,(Y3 a5 hb (eE.mono gw ht)).mono ?_⟩;rintro _ w2⟨ss,ask,int,f,nn,b,z,rfl,Z,hn,a0,J⟩
 refine⟨_,_,_,rfl,ae (λu=>?_) λu=>?_⟩
 ·have u:f≠0:=by simp_all
  have hz:=Z.nil u;subst hz;exact⟨[],ask,int,f,[],none,0,[],rfl,Z,λh=>absurd h u,rfl,aI 3 ((St.flat (M:=[])).2 (St.here (gw.trans a0)))⟩
 have u:f=0:=by simp_all
 subst u;obtain⟨hc,hA⟩:=Z.Qs rfl;obtain⟨k,W,rfl,rfl,hG,h⟩:=J rfl;have a6:=hA.dn.2.1;obtain⟨sT,sN,sP,_,_,_⟩:=hc.cK;have tl:=hg.t.1
 have a4:∀n,n<=ss.length->(nr g nn ss least n).length<=16640:=λn hn=>by
  have u:=Li (g:=g) (nn:=nn) (ss:=ss) (least:=least) (n:=n);have J:n*g.T<=256*65:=ah6 ω sT;omega
 refine⟨λo n c z w'=>∃(q:Nat)(ds:List Fu),z=q/\q<=ss.length/\n=ds.length/\ds.map oU=nr g nn ss least q/\(∀d∈ds,plQ d∈W)/\St w' (own 3 o n c (Fv ds)::mapA k (mV W)::aV (mO 2 du W)::all w1),λ_ _ _ z _=>ss.length-z.toNat,⟨0,[],rfl,agP _,rfl,rfl,λd X=>by simp_all,aI 3 h⟩,?_⟩;clear h;rintro _ o6 _ c6 _ w3⟨q,ds,rfl,hq,rfl,U,O,h⟩;refine ae (λu=>?_) λu=>?_
 rotate_left
 ·have u:q=ss.length:=by grind
  subst u;have h:=RY U O (h.pick 3 [2,0]);exact⟨ss,ask,int,0,nn,_,_,ds,rfl,Z,hn,U,St.Oo (h.pick 2 [1,0]) (bF gw)⟩
 have u:q<ss.length:=by simp_all
 have aa:=a4 q hq;refine⟨_,_,_,B.c0 (aC 3 h.l),λo n c z w'=>∃(t:Nat)(ds:List Fu),z=t/\t<=g.T/\n=ds.length/\ds.map oU=nr g nn ss least q++qV g nn ss least q t/\(∀d∈ds,plQ d∈W)/\St w' (own 3 o n c (Fv ds)::mapA k (mV W)::aV (mO 2 du W)::all w1),λ_ _ _ z _=>g.T-z.toNat,⟨0,ds,rfl,agP _,rfl,by simp_all[qV],O,h⟩,?_⟩;clear h U O;rintro _ o8 _ c8 _ w4⟨t,V,rfl,al,rfl,U,O,h⟩
 have a7:V.length<=17000:=by
  have e:=congrArg List.length U
  grind[List.length_map,List.length_append,Lh]
 refine ae (λJ=>?_) λJ=>?_
 rotate_left
 ·have J:t=g.T:=by have:=agO J;rw[<-tl] at this;have e:g.T=g.terms.length:=rfl;omega
  refine⟨ξ,⟨q+1,V,σ,u,rfl,?_,O,h⟩,bR u⟩
  simp_all[Bl]
 have J:t<g.T:=by have:=agQ J;rw[<-tl] at this;have e:g.T=g.terms.length:=rfl;omega
 obtain⟨e,e1,e2,e3⟩:=Vp W ⟨(q:Int),(t:Int)⟩;rw[hG.2 q t u J] at e2;refine(qN (κ:=i_) aT (rfl:ai Ty _=.map _ _) Lj rfl rfl (h.pick 2 [1,0]) ⟨(q:Int),(t:Int)⟩).mono ?_;rintro _ w5⟨rfl,rfl⟩;rw[e1];refine⟨_,_,_,rfl,ae (λY=>?_) λY=>?_⟩
 rotate_left
 ·have Y:¬least<=(ee g nn ss q t).length:=by simp_all
  refine⟨ξ,⟨t+1,V,σ,J,rfl,?_,O,h⟩,bR J⟩
  simp_all[u7,cellAt,agW]
 have Y:least<=(ee g nn ss q t).length:=by simp_all
 refine ag h λad w6 h=>?_;refine(aS (us:=Fv V) aT (rfl:ai Ty _=.slice _) (rfl:ai Ty _=.slice _) rfl rfl rfl h rfl (by simp[aK]) (by grind) ω).mono ?_;rintro _ w7⟨a9,a8,rfl,h⟩
 refine⟨_,_,_,rfl,ξ,⟨t+1,V++[(((q:Int),(t:Int)),e)],σ,J,σ,?_,λd X=>?_,?_⟩,bR J⟩
 ·rw[ag7,U,u7,ag3];congr 2;unfold cellAt;rw[ag0 Y,<-e2];rfl
 ·rcases agX.1 X with X|X
  ·simp_all
  ·rw[ag_] at X;subst X;exact e3 λhh=>by simp_all
 ·rw[Ng];exact h.pick 2 [0]
theorem Y4(hg:gR (hp w) g x)(hb:lq g)(ht:dP (hp w)):ρ 105 [.agg ⟨x.cells⟩] w λv w'=>∃(ss:List SQ)(ask int f:Int)(nn:List Bool)(o:aiz)(c:Nat)(ds:List Fu),v=.tuple #[vS o ds.length c,iI f]/\Fh g ss ask int f/\(f=0->lE g nn)/\ds.map oU=nu g nn ss 1/\St w' (own 3 o ds.length c (Fv ds)::aV (Dl ds)::all w):=by
 refine EI (gi hg λU V gw u B=>?_);refine⟨_,_,_,_,_,_,_,_,_,_,_,_,_,B.row sZZ,(TS (least:=1) σ σ u hb (eE.mono gw ht)).mono ?_⟩;rintro _ W⟨ss,ask,int,f,nn,o,c,ds,rfl,O,hn,J,h⟩;exact⟨_,_,_,_,rfl,ss,ask,int,f,nn,o,c,ds,rfl,O,hn,J,St.Oo h (bF gw)⟩
theorem Vq(hg:gR (hp w) g x)(hb:lq g)(ht:dP (hp w)):ρ 45 [.agg ⟨x.cells⟩] w λv w'=>∃(ss:List SQ)(ask int f:Int)(nn:List Bool)(o:aiz)(c:Nat)(ds:List Fu),v=.tuple #[vS o ds.length c,iI f]/\Fh g ss ask int f/\(f=0->lE g nn)/\ds.map oU=nu g nn ss 2/\St w' (own 3 o ds.length c (Fv ds)::aV (Dl ds)::all w):=by
 refine CU (gi hg λU V gw u B=>?_);refine⟨_,_,_,_,_,_,_,_,_,_,_,_,_,B.row sZZ,(TS (least:=2) (by decide) (by decide) u hb (eE.mono gw ht)).mono ?_⟩;rintro _ W⟨ss,ask,int,f,nn,o,c,ds,rfl,O,hn,J,h⟩;exact⟨_,_,_,_,rfl,ss,ask,int,f,nn,o,c,ds,rfl,O,hn,J,St.Oo h (bF gw)⟩
end
theorem abG{g:ah}{nn:List Bool}{ss ss':List SQ}(h:cD ss=cD ss')(hk:ss.map (·.1.2)=ss'.map (·.1.2))(q t:Nat):ee g nn ss q t=ee g nn ss' q t:=by
 have O:TF ss q t=TF ss' q t:=by grind[TF,Ih]
 have J:Vl ss q t=Vl ss' q t:=by
  have u:=congrArg (λl=>l[q]?) hk
  grind[Vl,Option.some.inj]
 grind[ee,La]
theorem Y5{g:ah}{nn:List Bool}{ss ss':List SQ}{least:Nat}(h:cD ss=cD ss')(hk:ss.map (·.1.2)=ss'.map (·.1.2)):nu g nn ss least=nu g nn ss' least:=by
 unfold nu nr qV cellAt
 grind[MP,abG]
instance:uj cP:={ n:=3,rd:=λh x vs=>∃(a:aiz)(c:Nat),vs=[iI x.st,iI x.tm,vS a x.acts.length c]/\aX h x.acts a x.acts.length,mono:=λs ⟨a,c,e,r⟩=>⟨a,c,e,r.mono s⟩,len:=λ⟨_,_,e,_⟩=>by simp_all }
section
variable{h:Hp}{w:aiA}{L:List aE}{o:aiz}{l i c:Nat}
theorem CZ{xs:List aD}{a:aiz}(hl:xs.length=l)(r:eE a (du xs) h):aX h xs a l:=by
 refine⟨hl,λi x J=>?_⟩
 rcases r with e|⟨u,rfl,hc⟩
 ·have O:=congrArg List.length e
  grind[oN,List.length_nil,List.getElem?_eq_some_iff]
 ·exact⟨u,bG x,rfl,cJ (n:=2) (λ_=>rfl) xs u hc i x J,rfl⟩
theorem IY{xs:List aD}{a:aiz}(r:aX h xs a l)(hi:i<l):∃x ad,xs[i]? =some x/\a=some ad/\aq h (ad.add (ff i 2)) (bG x):=by
 obtain⟨x,ad,vs,J,ha,u,e⟩:=r.get hi;rw[show vs=bG x from e] at u;exact⟨x,ad,J,ha,u⟩
end
structure iT(n:Nat)(K:Nat->List aH)(r:fT):Prop where
 lb:r.bs.length=n
 lv:r.vs.length=r.os.length
 own:∀(k:Nat)(o:Int),r.os[k]? =some o->o=-1\/∃i<n,o=(i:Int)/\∃e∈K i,(k:Int)=r.bs.getD i 0+e.sym/\r.vs[k]? =some e.to
 has:∀i<n,∀e∈K i,∃k:Nat,(k:Int)=r.bs.getD i 0+e.sym/\r.os[k]? =some (i:Int)/\r.vs[k]? =some e.to
section
variable{n i b:Nat}{K:Nat->List aH}{r:fT}{e:aH}{l:List aH}
theorem iT.new(n:Nat):iT n (λ_=>[]) ⟨List.replicate n 0,[],[]⟩:=⟨σ,rfl,λk o h=>by grind,λi _ e h=>by grind⟩
theorem iT.base(h:iT n K r)(hK:K i=[])(b:Int):iT n K { r with bs:=r.bs.set i b }:=by
 have hb:∀j e,e∈K j->(r.bs.set i b).getD j 0=r.bs.getD j 0:=λj e u=>by grind
 refine⟨by simpa using h.lb,h.lv,λk o V=>?_,λj J e u=>?_⟩
 ·rcases h.own k o V with O|⟨j,J,O,e,u,W,U⟩
  ·omega
  grind
 ·obtain⟨k,O,W,U⟩:=h.has j J e u
  grind
theorem iT.ext(h:iT n K r):iT n K { r with os:=r.os++[-1],vs:=r.vs++[0] }:=by
 refine⟨h.lb,by simp[h.lv],λk o u=>?_,λj O e U=>?_⟩
 ·have u:(r.os++[-1])[k]? =some o:=u
  rcases Nat.lt_trichotomy k r.os.length with J|J|J
  ·rw[ag8 J] at u
   rcases h.own k o u with V|⟨j,O,V,e,U,X,W⟩
   ·omega
   grind
  ·simp_all
  grind
 ·obtain⟨k,V,X,W⟩:=h.has j O e U
  grind
theorem iT.put(h:iT n K r)(hi:i<n){k:Nat}(hk:(k:Int)=r.bs.getD i 0+e.sym)(h0:r.os[k]? =some (-1)):iT n (λj=>if j=i then K i++[e] else K j) { r with os:=r.os.set k (i:Int),vs:=r.vs.set k e.to }:=by
 have J:=(agN.1 h0).1;have Z:k<r.vs.length:=by rw[h.lv];omega
 refine⟨h.lb,by simp[h.lv],λm o u=>?_,λj V x O=>?_⟩
 ·have u:(r.os.set k (i:Int))[m]? =some o:=u
  by_cases U:k=m
  ·subst U;rw[aik J] at u;cases u
   grind
  ·rw[ait U] at u
   rcases h.own m o u with W|⟨j,V,W,x,O,h2,X⟩
   ·omega
   grind
 ·have Y:x∈K j->∃m:Nat,(m:Int)=r.bs.getD j 0+x.sym/\(r.os.set k (i:Int))[m]? =some (j:Int)/\(r.vs.set k e.to)[m]? =some x.to:=λO=>by
   obtain⟨m,W,h2,X⟩:=h.has j V x O;have U:k≠m:=λz=>by simp_all
   grind
  grind
theorem iT.at(h:iT n K r)(hi:i<n)(hb:0<=r.bs.getD i 0)(hs:∀e∈K i,0<=e.sym)(hd:∀e∈K i,∀e'∈K i,e.sym=e'.sym->e=e')(t:Int):
  (∃e∈K i,e.sym=t/\atR r i t=some e.to)\/((∀e∈K i,e.sym≠t)/\atR r i t=none):=by
 have hl:Mz r=r.os.length:=by unfold Mz;rw[h.lv];omega
 by_cases U:∃e∈K i,e.sym=t
 ·obtain⟨e,u,rfl⟩:=U;refine .inl ⟨e,u,rfl,?_⟩;obtain⟨k,X,W,Z⟩:=h.has i hi e u;have V:=(agN.1 W).1;have h0:=hs e u;have O:Eg r (i:Int)=r.bs.getD i 0:=rfl;have n1:My r i e.sym=false:=by simp[My,h.lb,hi,h0]
  have n2:J7 r i e.sym=false:=by
   unfold J7
   grind
  grind[atR,Int.toNat_natCast]
 ·have U:∀e∈K i,e.sym≠t:=λe u ht=>U ⟨e,u,ht⟩;refine .inr ⟨U,?_⟩;unfold atR;rw[ag0];rw[ahz];refine ahm λhn=>?_;simp only[not_or,Bool.not_eq_true] at hn;obtain⟨n1,n2⟩:=hn;unfold My at n1;unfold J7 at n2;simp only[Bool.or_eq_false_iff,aix,Classical.not_not] at n1 n2;have O:Eg r (i:Int)=r.bs.getD i 0:=rfl;rw[O,hl] at n2;obtain⟨p1,p2,p3,Y⟩:=n2;obtain⟨k,V⟩:∃k:Nat,r.bs.getD i 0+t=k:=⟨(r.bs.getD i 0+t).toNat,ω⟩;rw[V,agZ,agU] at Y;have J:k<r.os.length:=ω
  rw[agM J,Option.getD_some] at Y
  rcases h.own k _ (agM J) with X|⟨j,_,X,e,u,W,_⟩
  ·omega
  grind
end
def wz(a:aD):Int:=if a.kind=1 then 1+a.to else if a.kind=2 then-1-a.to else if a.kind=3 then-1 else 0
def EP(n:Nat)(a:aD):Prop:=a.kind=0/\a.to=0\/a.kind=1/\0<=a.to/\a.to<n\/a.kind=2/\1<=a.to/\a.to<=96\/a.kind=3/\a.to=0\/a.kind=4/\a.to=0
theorem abH{n:Nat}{a:aD}(h:EP n a)(h0:a.kind≠0):M6 (wz a)=a:=by
 obtain⟨kd,to⟩:=a
 rcases h with⟨J,u⟩|⟨J,u,O⟩|⟨J,u,O⟩|⟨J,u⟩|⟨J,u⟩<;>dsimp only at J u<;>subst J
 ·simp_all
 ·rw[show wz ⟨1,to⟩=1+to by rfl];unfold M6
  grind
 ·dsimp only at O;rw[show wz ⟨2,to⟩=-1-to by rfl];unfold M6
  grind
 ·subst u;rfl
 ·subst u;rfl
def RZ(by_:Int)(t:Nat)(a:aD):List aH:=if a.kind≠0/\(a.kind≠2\/a.to≠by_) then[⟨(t:Int),wz a⟩] else[]
def Kh(by_:Int)(l:List aD):List aH:=(List.range l.length).flatMap λt=>RZ by_ t (l.getD t ⟨0,0⟩)
def TT(to:Int)(q:Nat)(x:Int):List aH:=if 0<=x/\x≠to then[⟨(q:Int),x⟩] else[]
def Ki(to:Int)(l:List Int):List aH:=(List.range l.length).flatMap λq=>TT to q (l.getD q 0)
theorem qb{by_:Int}{l:List aD}{e:aH}:e∈Kh by_ l↔∃(t:Nat)(a:aD),l[t]? =some a/\a.kind≠0/\(a.kind≠2\/a.to≠by_)/\e=⟨(t:Int),wz a⟩:=by
 unfold Kh RZ
 grind
theorem ug{to:Int}{l:List Int}{e:aH}:e∈Ki to l↔∃(q:Nat)(x:Int),l[q]? =some x/\0<=x/\x≠to/\e=⟨(q:Int),x⟩:=by
 unfold Ki TT
 grind
structure PX(rows:List (List aH))(r:fT):Prop where
 c:iT rows.length (λi=>rows.getD i []) r
 b0:∀b∈r.bs,0<=b
structure Fw(As:List (List aD))(Gs:List (List Int))(N:Nat)(p:dB):Prop where
 d1:p.df.length=As.length
 d2:∀(q:Nat)(l:List aD),As[q]? =some l->p.df.getD q 0=-1\/∃a∈l,a.kind=2/\a.to=p.df.getD q 0
 ac:PX ((List.range As.length).map λq=>Kh (p.df.getD q 0) (As.getD q [])) p.ac
 t1:p.tg.length=N
 t2:∀n<N,p.tg.getD n 0=-1\/∃l∈Gs,l.getD n 0=p.tg.getD n 0/\0<=p.tg.getD n 0
 gt:PX ((List.range N).map λn=>Ki (p.tg.getD n 0) (Gs.map λl=>l.getD n 0)) p.gt
section
variable{As:List (List aD)}{Gs:List (List Int)}{N:Nat}{p:dB}
theorem PX.at{rows:List (List aH)}{r:fT}(h:PX rows r){i:Nat}(hi:i<rows.length)(hs:∀e∈rows.getD i [],0<=e.sym)(hd:∀e∈rows.getD i [],∀e'∈rows.getD i [],e.sym=e'.sym->e=e')(t:Int):
  (∃e∈rows.getD i [],e.sym=t/\atR r i t=some e.to)\/((∀e∈rows.getD i [],e.sym≠t)/\atR r i t=none):=by
 refine h.c.at hi ?_ hs hd t;rw[agU,agM (by rw[h.c.lb];omega),Option.getD_some];exact h.b0 _ (ail _)
theorem Fw.act(h:Fw As Gs N p){q t:Nat}{l:List aD}{a:aD}(hl:As[q]? =some l)(ha:l[t]? =some a)(hm:∀a∈l,EP As.length a):
  (a.kind≠0/\bq p q t=a)\/(a.kind=0/\(bq p q t=⟨0,0⟩\/∃b∈l,b.kind=2/\bq p q t=b)):=by
 have hq:=(agN.1 hl).1;have er:((List.range As.length).map λq=>Kh (p.df.getD q 0) (As.getD q [])).getD q []=Kh (p.df.getD q 0) l:=by simp_all
 have U:=h.ac.at (i:=q) (by simp_all) (by rw[er];intro e O;obtain⟨t,_,_,_,_,rfl⟩:=qb.1 O;simp)
  (by
   rw[er];intro e O e' a0 a4;obtain⟨t,a,ha,_,_,rfl⟩:=qb.1 O;obtain⟨Z,a',u,_,_,rfl⟩:=qb.1 a0
   grind) (t:Int)
 rw[er] at U
 have J:atR p.ac q t=none->bq p q t=(if 0<p.df.getD q 0 then⟨2,p.df.getD q 0⟩ else⟨0,0⟩):=λe=>by
  unfold bq;rw[e,agZ]
  grind
 by_cases X:a.kind=0
 ·refine .inr ⟨X,?_⟩
  rcases U with⟨e,O,Y,_⟩|⟨_,V⟩
  ·exfalso;obtain⟨Z,a',u,W,_,rfl⟩:=qb.1 O
   grind
  ·rw[J V]
   split
   ·rename_i hp
    rcases h.d2 q l hl with W|⟨b,hb,W,h5⟩
    ·omega
    ·exact .inr ⟨b,hb,W,by rw[<-h5,<-W]⟩
   simp
 ·refine .inl ⟨X,?_⟩
  rcases U with⟨e,O,Y,V⟩|⟨Y,V⟩
  ·obtain⟨Z,a',u,W,_,rfl⟩:=qb.1 O;have:Z=t:=by grind
   subst this;rw[ha] at u;cases u;unfold bq;rw[V];exact abH (hm a (agL ha)) X
  ·have hb:a.kind=2/\a.to=p.df.getD q 0:=ahm λhn=>by
    refine Y ⟨(t:Int),wz a⟩ (qb.2 ⟨t,a,ha,X,?_,rfl⟩) rfl;omega
   rw[J V,ag0]
   ·cases a;grind
   ·have:=hm a (agL ha);rw[<-hb.2];rcases this with⟨U,_⟩|⟨U,_⟩|⟨_,Y,_⟩|⟨U,_⟩|⟨U,_⟩<;>omega
theorem Fw.tgt(h:Fw As Gs N p){q n:Nat}{l:List Int}{x:Int}(hl:Gs[q]? =some l)(hn:n<N)(hx:l.getD n 0=x)(h0:0<=x):bW p q n=x:=by
 have hq:=(agN.1 hl).1;have W:((List.range N).map λn=>Ki (p.tg.getD n 0) (Gs.map λl=>l.getD n 0)).getD n []=Ki (p.tg.getD n 0) (Gs.map λl=>l.getD n 0):=by simp_all
 have J:(Gs.map λl=>l.getD n 0)[q]? =some x:=by simp_all
 have Z:=h.gt.at (i:=n) (by simp_all) (by rw[W];intro e u;obtain⟨t,_,_,_,_,rfl⟩:=ug.1 u;simp)
  (by
   rw[W];intro e u e' V a0;obtain⟨t,a,ha,_,_,rfl⟩:=ug.1 u;obtain⟨t',a',U,_,_,rfl⟩:=ug.1 V
   grind) (q:Int)
 rw[W] at Z;unfold bW
 rcases Z with⟨e,u,Y,X⟩|⟨Y,X⟩
 ·obtain⟨t',a',U,h4,_,rfl⟩:=ug.1 u
  grind
 ·have hb:x=p.tg.getD n 0:=ahm λO=>Y ⟨(q:Int),x⟩ (ug.2 ⟨q,x,J,h0,O,rfl⟩) rfl;rw[X,agZ];dsimp only;rw[ag0 ⟨ahu _,by rw[h.t1];omega⟩];omega
end
section
variable{a b:aiz}{i j k l:Nat}{A:Int}{w:aiA}{R:Value->WP}
theorem b9(h:lU a i j none (some (i:Int)) (some (i:Int)) 2 λ(a:aiz)(b c:Nat)=>R (vS a b c) w):ρ 202 [vS a i j] w R:=rv Tryz.func202 h
theorem fb{d:FuncId}{e:List Value}(h:rEi 292 [vS a i j,vF1 d e] w λc b=>R (vB (decide (0<=c))) b):ρ 203 [vS a i j,(.func (.func d) #[] ⟨e⟩)] w R:=rv Tryz.func203 h
theorem gJ(h:lU a i j none (some (i:Int)) (some (i:Int)) 1 λ(a:aiz)(b c:Nat)=>R (vS a b c) w):ρ 250 [vS a i j] w R:=rv Tryz.func250 h
theorem gX(h:br (Option.isNone a) (R (zS) w) (new w (oC [] 170) λb c=>rS (fW1 86 [vS (some (aM b)) 0 0,vS a i j]) c λa b=>∃c d e,a=vS c d e/\R (vS c d e) b)):ρ 251 [vS a i j] w R:=rv Tryz.func251 h
theorem gL(h:lU a i j (some A) none none 2 λ(_:aiz)(_ _:Nat)=>br ((k:Int)==0) (R (vS a i j) w) (br (A==(i:Int)) (rS (fW1 86 [vS a i j,vS b k l]) w λa b=>∃c d e,a=vS c d e/\R (vS c d e) b) (aA ((i:Int)+(k:Int))/\rS (Builtin.cap_ (Array.mk [86]) 3 (Array.mk [vS a i j])) w λc d=>∃e,c=iI e/\bQ (e<(i:Int)+(k:Int)) (lU a i j none (some A) none 2 λ(c:aiz)(e f:Nat)=>aA ((i:Int)+(k:Int))/\aA ((i:Int)+(k:Int)-A)/\rS (Builtin.append_ (Array.mk [86,3]) 86 (Array.mk [vS c e f,iI ((i:Int)+(k:Int)-A)])) d λc d=>∃e f g,c=vS e f g/\lU e f g (some A) none none 2 λ(c:aiz)(h m:Nat)=>rS (Builtin.copy_ (Array.mk [86,86]) 3 (Array.mk [vS c h m,vS b k l])) d λb c=>∃d,b=iI d/\dW1 c λb c=>aA (A+(k:Int))/\lU e f g (some (A+(k:Int))) none none 2 λ(c:aiz)(d h:Nat)=>lU a i j (some A) none none 2 λ(a:aiz)(i j:Nat)=>rS (Builtin.copy_ (Array.mk [86,86]) 3 (Array.mk [vS c d h,vS a i j])) b λa b=>∃c,a=iI c/\R (vS e f g) b) (aA ((i:Int)+(k:Int))/\lU a i j none (some ((i:Int)+(k:Int))) none 2 λ(a:aiz)(c e:Nat)=>aA (A+(k:Int))/\lU a c e (some (A+(k:Int))) none none 2 λ(f:aiz)(g h:Nat)=>ac7 Tryz.prog 350 [vS b k l,vS f g h] d λd f=>∃g,d=vB g/\br (!g) (dW1 f λd f=>aA (A+(k:Int))/\lU a c e (some (A+(k:Int))) none none 2 λ(f:aiz)(g h:Nat)=>lU a c e (some A) none none 2 λ(i:aiz)(j m:Nat)=>rS (Builtin.copy_ (Array.mk [86,86]) 3 (Array.mk [vS f g h,vS i j m])) d λd f=>∃g,d=iI g/\lU a c e (some A) none none 2 λ(d:aiz)(g h:Nat)=>rS (Builtin.copy_ (Array.mk [86,86]) 3 (Array.mk [vS d g h,vS b k l])) f λb d=>∃f,b=iI f/\R (vS a c e) d) (lU a c e (some (i:Int)) none none 2 λ(d:aiz)(g h:Nat)=>rS (Builtin.copy_ (Array.mk [86,86]) 3 (Array.mk [vS d g h,vS b k l])) f λb d=>∃f,b=iI f/\lU a c e (some A) none none 2 λ(b:aiz)(f g:Nat)=>rE 351 [vS b f g,iI (k:Int)] d λb d=>b=vU []/\R (vS a c e) d))))):ρ 291 [vS a i j,iI A,vS b k l] w R:=rv Tryz.func291 h
theorem fQ{d:FuncId}{e:List Value}(h:τ [(8,aN)] λb c=>b 0 w/\∀(_:ν) f g,b f g->bQ (f<(i:Int)) (idx a i f 2 λa=>∃h i,rowAt g a 0 2=some [iI h,iI i]/\pj (Fn d) (rEb d (vG [iI h,iI i]::e) g λe d=>br e (R (iI f) d) (aA (f+1)/\nA b c (f+1) d f g))) (R (iI (-1)) g)):ρ 292 [vS a i j,(.func (.func d) #[] ⟨e⟩)] w R:=rv Tryz.func292 h ⟨[(2,[(8,aN)])],[],[],[]⟩
end
theorem GQ{α:Type}{p:α->Bool}{xs:List α}{j:Nat}{x:α}(h0:(xs.take j).any p=false)(hx:xs[j]? =some x)(h:p x=false):(xs.take (j+1)).any p=false:=by simp_all[agR,List.any_append]
section
variable{w:aiA}{a:aiz}{n c:Nat}{d:FuncId}{e:List Value}
theorem abI{xs:List aH}{p:aH->Bool}(hr:aX (hp w) xs a n)(hd:Fn d=true)(hP:∀x∈xs,∀u,Gr w u->ρ d (.agg ⟨[iI x.sym,iI x.to]⟩::e) u λv u'=>v=vB (p x)/\Gr u u')(hn:n<=1000000):
  ρ 354 [vS a n c,.func (.func d) #[] ⟨e⟩] w λv w'=>v=vB (xs.any p)/\Gr w w':=by
 have key:ρ 386 [vS a n c,.func (.func d) #[] ⟨e⟩] w λv w'=>∃z:Int,v=iI z/\decide (0<=z)=xs.any p/\Gr w w':=by
  refine gU ⟨λz u=>∃j:Nat,z=j/\j<=n/\(xs.take j).any p=false/\Gr w u,λz _=>n-z.toNat,⟨0,rfl,agP _,σ,Gr.refl w⟩,?_⟩;rintro _ _ Y⟨j,rfl,hj,O,g⟩
  refine ae (λJ=>?_) λJ=>?_
  ·have J:j<n:=by simp_all
   obtain⟨x,ad,vs,X,Z,V,U⟩:=(hr.mono g).get J;have U:vs=[iI x.sym,iI x.to]:=U;subst U;refine aO Z J ⟨_,_,V.at sZZ rfl,a_.2 ⟨hd,(hP x (agL X) Y g).mono ?_⟩⟩;rintro _ w2⟨rfl,g2⟩;refine⟨_,rfl,ae (λW=>⟨_,rfl,?_,g.trans g2⟩) λW=>⟨ξ,⟨j+1,σ,ω,GQ O X W,g.trans g2⟩,bR J⟩⟩
   grind
  ·have J:j=n:=by grind
   subst J;rw[ag4 (by rw[hr.1];omega)] at O
   simp_all
 refine f_ (key.mono ?_);simp
theorem aen{xs:List aD}{p:aD->Bool}(hr:aX (hp w) xs a n)(hd:Fn d=true)(hP:∀x∈xs,∀u,Gr w u->ρ d (.agg ⟨bG x⟩::e) u λv u'=>v=vB (p x)/\Gr u u')(hn:n<=1000000):
  ρ 203 [vS a n c,.func (.func d) #[] ⟨e⟩] w λv w'=>v=vB (xs.any p)/\Gr w w':=by
 have key:ρ 292 [vS a n c,.func (.func d) #[] ⟨e⟩] w λv w'=>∃z:Int,v=iI z/\decide (0<=z)=xs.any p/\Gr w w':=by
  refine fQ ⟨λz u=>∃j:Nat,z=j/\j<=n/\(xs.take j).any p=false/\Gr w u,λz _=>n-z.toNat,⟨0,rfl,agP _,σ,Gr.refl w⟩,?_⟩;rintro _ _ Y⟨j,rfl,hj,O,g⟩
  refine ae (λJ=>?_) λJ=>?_
  ·have J:j<n:=by simp_all
   obtain⟨x,ad,vs,X,Z,V,U⟩:=(hr.mono g).get J;have U:vs=bG x:=U;subst U;refine aO Z J ⟨_,_,V.at sZZ rfl,a_.2 ⟨hd,(hP x (agL X) Y g).mono ?_⟩⟩;rintro _ w2⟨rfl,g2⟩;refine⟨_,rfl,ae (λW=>⟨_,rfl,?_,g.trans g2⟩) λW=>⟨ξ,⟨j+1,σ,ω,GQ O X W,g.trans g2⟩,bR J⟩⟩
   grind
  ·have J:j=n:=by grind
   subst J;rw[ag4 (by rw[hr.1];omega)] at O
   simp_all
 refine fb (key.mono ?_);simp
theorem R3{xs:List Int}{p:Int->Bool}(hr:aX (hp w) xs a n)(hd:Fn d=true)(hP:∀x∈xs,∀u,Gr w u->ρ d (iI x::e) u λv u'=>v=vB (p x)/\Gr u u')(hn:n<=1000000):
  ρ 126 [vS a n c,.func (.func d) #[] ⟨e⟩] w λv w'=>v=vB (xs.any p)/\Gr w w':=by
 have key:ρ 90 [vS a n c,.func (.func d) #[] ⟨e⟩] w λv w'=>∃z:Int,v=iI z/\decide (0<=z)=xs.any p/\Gr w w':=by
  refine bK ⟨λz u=>∃j:Nat,z=j/\j<=n/\(xs.take j).any p=false/\Gr w u,λz _=>n-z.toNat,⟨0,rfl,agP _,σ,Gr.refl w⟩,?_⟩;rintro _ _ W⟨j,rfl,hj,O,g⟩
  refine ae (λJ=>?_) λJ=>?_
  ·have J:j<n:=by simp_all
   obtain⟨x,Y,V,X,hc⟩:=(hr.mono g).dQ J;refine ax X J ⟨_,hc _ sZZ,a_.2 ⟨hd,(hP x (agL V) W g).mono ?_⟩⟩;rintro _ Z⟨rfl,g2⟩;refine⟨_,rfl,ae (λU=>⟨_,rfl,?_,g.trans g2⟩) λU=>⟨ξ,⟨j+1,σ,ω,GQ O V U,g.trans g2⟩,bR J⟩⟩
   grind
  ·have J:j=n:=by grind
   subst J;rw[ag4 (by rw[hr.1];omega)] at O
   simp_all
 refine bZ (key.mono ?_);simp
theorem abJ{xs:List (List aH)}{p:(List aH)->Bool}(hr:aX (hp w) xs a n)(hd:Fn d=true)(hP:∀x∈xs,∀u,Gr w u->∀o1 l1 c1,aX (hp u) x o1 l1->ρ d (vS o1 l1 c1::e) u λv u'=>v=vB (p x)/\Gr u u')(hn:n<=1000000):
  ρ 207 [vS a n c,.func (.func d) #[] ⟨e⟩] w λv w'=>v=vB (xs.any p)/\Gr w w':=by
 have key:ρ 293 [vS a n c,.func (.func d) #[] ⟨e⟩] w λv w'=>∃z:Int,v=iI z/\decide (0<=z)=xs.any p/\Gr w w':=by
  refine gk ⟨λz u=>∃j:Nat,z=j/\j<=n/\(xs.take j).any p=false/\Gr w u,λz _=>n-z.toNat,⟨0,rfl,agP _,σ,Gr.refl w⟩,?_⟩;rintro _ _ w1⟨j,rfl,hj,O,g⟩
  refine ae (λJ=>?_) λJ=>?_
  ·have J:j<n:=by simp_all
   obtain⟨x,ad,vs,Y,ho,U,V⟩:=(hr.mono g).get J;obtain⟨o1,l1,c1,rfl,Z,W⟩:=V;refine aO ho J ⟨o1,l1,c1,U.cell0 sZZ,a_.2 ⟨hd,(hP x (agL Y) w1 g o1 l1 c1 W).mono ?_⟩⟩;rintro _ w2⟨rfl,g2⟩;refine⟨_,rfl,ae (λX=>⟨_,rfl,?_,g.trans g2⟩) λX=>⟨ξ,⟨j+1,σ,ω,GQ O Y X,g.trans g2⟩,bR J⟩⟩
   grind
  ·have J:j=n:=by grind
   subst J;rw[ag4 (by rw[hr.1];omega)] at O
   simp_all
 refine fA (key.mono ?_);simp
end
end Go.Proofs.YtaoaemnefghnbaaGreatDoor
