/- Texts of this claim, one behind the other. -/
import Derived.Test.YtndaepmjkbmjmaaGreatDoorG4
import Derived.LaidEql
import Derived.Test.YtndaepmjkbmjmaaGreatDoorG1
import Derived.Test.YtndaepmjkbmjmaaGreatDoorG3
import Derived.Lib.AppendZerosOnto
import Derived.Lib.Overlaps
set_option linter.unusedVariables false
set_option linter.unusedSectionVars false
set_option maxRecDepth 100000
set_option maxHeartbeats 16000000
namespace Go.V
end Go.V
namespace Go.Proofs.YtndaepmjkbmjmaaGreatDoor
end Go.Proofs.YtndaepmjkbmjmaaGreatDoor
open Go.V Go.Proofs.YtndaepmjkbmjmaaGreatDoor
namespace Go.V
def En (es:List (List Int)) (n:Nat):List Nat:=(es.getD n []).map Int.toNat
def AF (es:List (List Int)):Prop:=∀ l∈es,∀ x∈l,0<=x/\x < (es.length:Int)
theorem NG {es:List (List Int)} {n:Nat} {l:List Int} (h:es[n]? = some l):En es n = l.map Int.toNat:=by
 unfold En; rw [UN,h]; rfl
theorem QR {es:List (List Int)} (hR:AF es) {n m:Nat} (h:m∈En es n):m < es.length:=by
 unfold En at h
 rw [UN] at h
 cases hl:es[n]? with
 | none=>rw [hl] at h; simp at h
 | some l =>
  rw [hl] at h
  obtain ⟨x,hx,rfl⟩:=UU.1 h
  have:=hR l (UC hl) x hx
  omega
def me (low:List Nat) (n:Nat):List bH.Sc->List Nat
 | []=>low
 | (u,_,_) :: _=>low.set u (min (lf low u) (lf low n))
def fS (x:Nat) (low:List Nat) (g:List Nat):List Nat:=g.foldl (λl m=>l.set m x) low
theorem uv (x:Nat):∀ (g low:List Nat),(fS x low g).length = low.length
 | [],_=>rfl
 | m :: g,low=>by show (fS x (low.set m x) g).length = _; rw [uv x g]; simp
theorem Gh (x:Nat) (low g:List Nat) (m:Nat):fS x low (g ++ [m]) = (fS x low g).set m x:=by simp [fS]
theorem CI (x:Nat):∀ (g low:List Nat),(∀ m∈g,m < low.length)->lf (fS x low g) = λv=>if v∈g then x else lf low v
 | [],_,_=>by funext v; simp [fS]
 | m :: g,low,h=>by
  have:=CI x g (low.set m x) (λy hy=>by rw [Vj]; exact h y (by simp [hy]))
  show lf (fS x (low.set m x) g) = _
  rw [this,mE (h m (by simp))]
  funext v
  by_cases e:v∈g
  ·simp [e]
  ·by_cases e2:v = m
   ·subst e2; simp [e,bH.yO]
   ·simp [e,e2,bH.yO]
structure WD where
 S:List bH.Sc
 low:List Nat
 gs:List (List Nat)
 mp:List (Int × Value)
 oa:Wr
 oc:Nat
 wa:Wr
 wc:Nat
end Go.V
namespace Go.Proofs.YtndaepmjkbmjmaaGreatDoor
variable {w:Ws} {L:List au} {es:List (List Int)} {a:Wr} {N c l:Nat} {d:FuncId} {e:List Value} {Q:List (List Nat)->List au}
theorem Gi {xs:List Int} (hr:aX (hp w) xs a l) (hb:xs.length * 8<=140737488355328) (hb2:xs.length<=9223372036854775807):ay Tryz.prog nh [.slice a l c] w λv w'=>∃ o c',v = .slice o xs.length c'/\St w' (own 1 o xs.length c' (iv xs) :: all w):=by
 refine lL ?_
 have hl:=hr.1
 cases a with
 | none =>
  have h0:xs = []:=by
   cases xs with
   | nil=>rfl
   | cons t ts=>obtain ⟨ad,_,e,_⟩:=hr.2 0 t rfl; cases e
  subst h0
  exact ⟨none,0,rfl,az 1 (St.all w)⟩
 | some ad =>
  refine af (St.all w) λb w1 h1=>?_
  have h2:St w1 (own 1 (some ⟨b,0,none⟩) 0 0 [] :: all w):=dR (cs:=[]) h1 rfl rfl (US _)
  have hr:=hr.mono h1.aR
  refine (iu aL (rfl:ah Ty _ = .slice _) rfl rfl rfl h2 (n:=l) (news:=iv xs) (fx aL (rfl:ah Ty _ = .slice _) (by rw [iW,hl,VA]) (by
    rcases hr.iv with h0 | ⟨ad',e,hc⟩
    ·exact .inl (by have:=congrArg List.length h0; rw [iW,hl] at this; exact this)
    ·cases e; exact .inr ⟨ad,rfl,λj u hj=>j5 (hc j u hj)⟩) (by
   intro u hu
   obtain ⟨t,_,rfl⟩:=UU.1 hu
   rfl)) (by show (0 + l) * 8<=_; omega) (by omega)).mono ?_
  rintro _ w2 ⟨a',c',rfl,h3⟩
  rw [Vr,<- hl] at h3 ⊢
  rw [Ve] at h3
  exact ⟨_,_,_,rfl,a',c',rfl,h3⟩
def SE (ko kl kw bl km N fr:Nat) (es:List (List Int)) (Q:List (List Nat)->List au) (L:List au) (x:WD) (w:Ws):Prop :=
 x.low.length = N/\bH.Inv (En es) N (lf x.low) x.S x.gs/\(∀ v,v<=fr->lf x.low v≠0)/\uu x.mp x.S /\
  St w (sO ko kl kw bl N x.oa x.oc x.wa x.wc (bH.aA x.S) x.low (cP x.S) ++ (mapA km x.mp :: (Q x.gs ++ L)))
def QS (d:FuncId) (e:List Value) (es:List (List Int)) (Q:List (List Nat)->List au):Prop :=
 ∀ (gs:List (List Nat)) (g:List Nat) (F:List au) (w:Ws) (o:Wr) (gc:Nat),bH.Good (En es) (gs ++ [g])->(∀ v∈(gs ++ [g]).flatten,v < es.length) ->
  St w (own 1 o g.length gc (nj g) :: (Q gs ++ F))->ay Tryz.prog d (.slice o g.length gc :: e) w λv w'=>v = .tuple (Array.mk [])/\St w' (Q (gs ++ [g]) ++ F)
theorem R3 (hfl:Fn d = true) (hD:QS d e es Q) (hE:∀ gs h,aG (Q gs ++ L) h->aX h es a N) (hR:AF es) (hB:∀ l∈es,l.length * 8<=140737488355328) (hb:N * 24<=140737488355328) (h:St w (Q [] ++ L)) :
  ay Tryz.prog AA [.slice a N c,.func (.func d) (Array.mk []) ⟨e⟩] w λv w'=>v = .tuple (Array.mk [])/\∃ gs,bH.Good (En es) gs/\(∀ v,v∈gs.flatten↔v < N)/\St w' (Q gs ++ L):=by
 refine @xp a N c d e w _ ?_
 have hN:es.length = N:=(hE [] _ h.l).1
 refine ⟨⟨by omega,rfl,by omega⟩,af h λbl w1 h=>af h λkl w2 h=>bC h (by simp) λw3 h=>⟨⟨by omega,by omega⟩,af h λko w4 h=>af h λkw w5 h=>?_⟩⟩
 have h:St w5 (sO ko kl kw bl N none 0 none 0 [] (List.replicate N 0) [] ++ (Q [] ++ L)):=by
  have e1:lD (Int.toNat (N:Int)) [iI 0] = nj (List.replicate N 0):=by rw [jr]; simp [nj]
  rw [e1] at h
  have h:=az 2 (az 1 h)
  exact h.pick 6 [3,1,4,5,2,0]
 refine ⟨λz w'=>∃ k:Nat,z = k/\k<=N/\∃ gs low oa oc wa wc,low.length = N/\bH.Inv (En es) N (lf low) [] gs/\(∀ v,v < k->lf low v≠0)/\St w' (sO ko kl kw bl N oa oc wa wc [] low [] ++ (Q gs ++ L)),
  λz _=>N - z.toNat,⟨0,rfl,UM _,[],List.replicate N 0,none,0,none,0,by simp,?_,λv hv=>by omega,h⟩,?_⟩
 ·have:lf (List.replicate N 0) = λ_=>0:=by
   funext v; unfold lf; rw [UN,Wf]; split <;> rfl
  rw [this]; exact bH.Inv.start _ _
 rintro _ z w6 ⟨k,rfl,hk,gs,low,oa,oc,wa,wc,hl,hI,hs,h⟩
 refine aa (λh1=>?_) λh1=>?_
 rotate_left
 ·have h1:k = N:=by have:=Uy h1; omega
  subst h1
  refine ⟨rfl,gs,hI.good,λv=>⟨λhv=>hI.lt v (by simpa [bH.aA] using hv),λhv=>?_⟩,?_⟩
  ·have:=hI.seen hv (hs v hv)
   simpa [bH.aA] using this
  ·exact h.tail.tail.tail.tail.tail.tail
 have h1:k < N:=by have:=Uz h1; omega
 refine ⟨_,_,_,(ag 2 h.l).cell0 (sub.refl _),aB rfl h1 ⟨_,(ag 3 h.l).cell (sub.refl _) (j:=k) (iA (AE (by omega))),?_⟩⟩
 refine aa (λh2=>?_) λh2=>?_
 ·have h2:=Uz h2
  refine ⟨⟨by omega,by omega⟩,⟨k + 1,rfl,h1,gs,low,oa,oc,wa,wc,hl,hI,λv hv=>?_,h⟩,bK h1⟩
  by_cases ev:v = k
  ·subst ev; omega
  ·exact hs v (by omega)
 have h2:lf low k = 0:=by have:=Uy h2; omega
 refine lY h λkm w7 h=>?_
 have h:=dz (κ:=Int) h
 refine ⟨_,_,_,(ag 1 h.l).cell0 (sub.refl _),⟨by simp,by simp⟩,(cN (κ:=Int) aL (rfl:ah Ty _ = .map _ _) bp h (k:Int) _).mono ?_⟩
 rintro _ w8 h
 refine (JE (n:=k) (h.pick 7 [1,2,3,4,5,6,0]) hl h1 (by simp; omega) (by simp; omega) hb).mono ?_
 rintro _ w9 ⟨rfl,oa,oc,wa,wc,h⟩
 refine ⟨rfl,λw'=>∃ x,SE ko kl kw bl km N k es Q L x w',λw'=>RD (SE ko kl kw bl km N k es Q L) (λx=>bH.todo (En es) N (lf x.low) x.S) w',?_,?_⟩
 ·refine ⟨⟨[(k,0,[])],low.set k 1,gs,_,oa,oc,wa,wc⟩,by simp [hl],?_,?_,?_,h⟩
  ·show bH.Inv _ _ (lf (low.set k 1)) _ _
   rw [mE (by omega)]
   exact hI.root h1 h2
  ·intro v hv
   show lf (low.set k 1) v≠0
   rw [mE (by omega)]
   by_cases ev:v = k
   ·subst ev; rw [bH.aY]; omega
   ·rw [bH.cY ev]; exact hs v (by omega)
  ·exact ⟨by show assoc _ [(_,_)] = _; simp [assoc,bH.aA],trivial⟩
 intro _ w10 hw
 obtain ⟨⟨S,low2,gs2,mp,oa,oc,wa,wc⟩,⟨hl2,hI2,hs2,hM,h⟩,hm⟩:=Jc hw
 simp only at hl2 hI2 hs2 hM h hm
 refine ⟨_,_,_,(ag 4 h.l).cell0 (sub.refl _),?_⟩
 refine aa (λh3=>?_) λh3=>?_
 rotate_left
 ·have h3:=Uy h3
  cases S with
  | cons x t=>obtain ⟨n,j,r⟩:=x; rw [bV] at h3; simp at h3
  | nil =>
   refine ⟨⟨by omega,by omega⟩,⟨k + 1,rfl,h1,gs2,low2,oa,oc,wa,wc,hl2,hI2,λv hv=>hs2 v (by omega),?_⟩,bK h1⟩
   exact h.pick 7 [0,1,2,3,4,5]
 cases S with
 | nil=>have h3:=Uz h3; simp [cP] at h3
 | cons x t =>
 obtain ⟨n,k0,r⟩:=x
 have hlen:=hI2.len
 have hwk:=AD ((n,k0,r) :: t)
 have hw1:(cP ((n,k0,r) :: t)).length = (cP t).length + 1:=by rw [bV]; simp
 have hnN:n < N:=hI2.lt n (by simp [bH.aA])
 obtain ⟨wad,hwa,_⟩:=bX (h.pick 7 [5,0,1,2,3,4,6]) (j:=(cP t).length * 2) (vO (i:=(cP t).length) (n:=n) (k:=k0) (by rw [bV]; simp)).1
 refine ⟨_,_,_,(ag 4 h.l).cell0 (sub.refl _),_,_,_,(ag 4 h.l).cell0 (sub.refl _),⟨by omega,by omega⟩,?_⟩
 have ei:((cP ((n,k0,r) :: t)).length:Int) - 1 = ((cP t).length:Int):=by omega
 rw [ei]
 refine ak hwa (by omega) ?_
 rw [aF]
 -- the steps of one node
 let P2:Nat × List Nat->Ws->Prop:=λp w'=>p.2.length = N/\bH.Inv (En es) N (lf p.2) ((n,p.1,r) :: t) gs2/\(∀ v,v<=k->lf p.2 v≠0)/\bH.todo (En es) N (lf p.2) ((n,p.1,r) :: t)<=RD (SE ko kl kw bl km N k es Q L) (λx=>bH.todo (En es) N (lf x.low) x.S) w10 /\
  St w' (sO ko kl kw bl N oa oc wa wc (bH.aA ((n,p.1,r) :: t)) p.2 (cP ((n,p.1,r) :: t)) ++ (mapA km mp :: (Q gs2 ++ L)))
 refine ⟨λw'=>∃ p,P2 p w',λw'=>RD P2 (λp=>(En es n).length - p.1) w',⟨(k0,low2),hl2,hI2,hs2,by rw [<- hm]; exact US _,h⟩,?_⟩
 intro _ w11 hw
 obtain ⟨⟨j,low3⟩,⟨hl3,hI3,hs3,ht3,h⟩,hm3⟩:=Jc (f:=λp=>(En es n).length - p.1) hw
 simp only at hl3 hI3 hs3 ht3 h hm3
 intro w12 hd
 have h:=h.eq (aE hd)
 obtain ⟨el,hel⟩ : ∃ el,es[n]? = some el:=⟨es[n]'(by omega),UB _⟩
 have hen:=NG hel
 have rE0:aX (hp w12) es a N:=hE gs2 _ h.tail.tail.tail.tail.tail.tail.tail.l
 obtain ⟨el',ead,ev,hel',hea,hrow,o6,l6,c6,rfl,hle6,hrd6⟩:=rE0.get (i:=n) hnN
 rw [hel] at hel'; cases hel'
 rw [aF,show n * nQ.n (List Int) = n from VA n] at hrow
 have hel6:el.length = l6:=hrd6.1
 have henl:(En es n).length = l6:=by rw [hen,UH]; exact hel6
 have hjle:j<=(En es n).length:=hI3.ok.1.le
 have hBl:=hB el (UC hel)
 have hwt:(cP ((n,j,r) :: t))[(cP t).length]? = some (n,j):=by rw [bV]; simp
 have hwl:(cP ((n,j,r) :: t)).length = (cP t).length + 1:=by rw [bV]; simp
 obtain ⟨wad',hwa',hc1⟩:=bX (h.pick 7 [5,0,1,2,3,4,6]) (vO hwt).1
 obtain ⟨wad'',hwa'',hc2⟩:=bX (h.pick 7 [5,0,1,2,3,4,6]) (vO hwt).2
 rw [hwa] at hwa' hwa''
 cases hwa'; cases hwa''
 rw [<- add_add] at hc2
 have cw:∀ {u:Ws} {ad:Addr} {v:Value},hp u = hp w12->w12.cell? ad = some v->u.cell? ad = some v:=λhu h=>by rw [ft hu]; exact h
 refine ⟨λu=>hp u = hp w12,rfl,(j:Int),λu hu=>cw hu hc2,(n:Int),λu hu=>cw hu hc1,aB hea hnN ⟨o6,l6,c6,λu hu=>cw hu (hrow.cell0 (sub.refl _)),?_⟩⟩
 refine aa (λh4=>?_) λh4=>?_
 ·have h4:j < l6:=by have:=Uz h4; omega
  intro w16 hd2
  have h:=h.eq (aE hd2)
  have e16:=aE hd2
  obtain ⟨mI,hmI⟩ : ∃ mI,el[j]? = some mI:=⟨el[j]'(by omega),UB _⟩
  obtain ⟨m,rfl⟩ : ∃ m:Nat,mI = (m:Int):=⟨mI.toNat,by have:=hR el (UC hel) mI (UC hmI); omega⟩
  have hmE:(En es n)[j]? = some m:=by rw [hen,UD,hmI]; rfl
  have hmN:m < N:=by have:=QR hR (UC hmE); omega
  obtain ⟨ead5,hea5,hc5⟩:=hrd6.at hmI
  have cw:∀ {u:Ws} {ad:Addr} {v:Value},hp u = hp w16->w12.cell? ad = some v->u.cell? ad = some v:=λhu h=>cw (hu.trans e16) h
  refine ⟨λu=>hp u = hp w16,rfl,(n:Int),λu hu=>cw hu hc1,aB hea hnN ⟨o6,l6,c6,λu hu=>cw hu (hrow.cell0 (sub.refl _)),(j:Int),λu hu=>cw hu hc2,aB hea5 h4 ⟨(m:Int),λu hu=>hc5 u (by rw [hu,e16]; exact sub.refl _),(j:Int),cw rfl hc2,⟨by omega,by omega⟩,?_⟩⟩⟩
  rw [add_add]
  refine j4 (h.pick 7 [5,0,1,2,3,4,6]) hwa (by rw [Eg]; omega) λw21 h=>?_
  have ej:((j:Int) + 1) = ((j + 1:Nat):Int):=by omega
  rw [ej,ND (j + 1) hwt] at h
  have h:St w21 (sO ko kl kw bl N oa oc wa wc (bH.aA ((n,j + 1,r) :: t)) low3 (cP ((n,j + 1,r) :: t)) ++ (mapA km mp :: (Q gs2 ++ L))):=by
   have e1:(cP ((n,j,r) :: t)).set (cP t).length (n,j + 1) = cP ((n,j + 1,r) :: t):=by rw [bV,bV,VE _ _ (US _)]; simp
   have e2:(cP ((n,j + 1,r) :: t)).length = (cP ((n,j,r) :: t)).length:=by rw [hwl,bV]; simp
   rw [e1] at h
   unfold sO
   rw [e2]
   exact h.pick 7 [1,2,3,4,5,0,6]
  have hlen3:=hI3.len
  have hmE2:lf low3 m = 0->m∉bH.aA ((n,j,r) :: t):=λh0 hm=>(hI3.un m hmN).1 h0 (by simp only [UF]; exact Or.inl hm)
  refine ⟨_,_,_,(ag 2 h.l).cell0 (sub.refl _),aB rfl hmN ⟨_,(ag 3 h.l).cell (sub.refl _) (j:=m) (iA (AE (by omega))),?_⟩⟩
  refine aa (λh5=>?_) λh5=>?_
  ·have h5:lf low3 m = 0:=by have:=eq_of_beq h5; omega
   have hop:(bH.aA ((n,j + 1,r) :: t)).length < N:=by
    have h6:=hI3.push hmE hmN h5
    have h7:=h6.len
    have e1:bH.aA ((m,0,[]) :: (n,j + 1,r) :: t) = bH.aA ((n,j + 1,r) :: t) ++ [m]:=rfl
    rw [e1,UG] at h7; simp at h7; omega
   have hwl2:=AD ((n,j + 1,r) :: t)
   refine ⟨_,_,_,(ag 0 h.l).cell0 (sub.refl _),⟨by omega,by omega⟩,(cN (κ:=Int) aL (rfl:ah Ty _ = .map _ _) bp (h.pick 7 [6,0,1,2,3,4,5]) (m:Int) _).mono ?_⟩
   rintro _ w22 h
   refine (JE (n:=m) (h.pick 7 [1,2,3,4,5,6,0]) hl3 hmN hop (by omega) hb).mono ?_
   rintro _ w23 ⟨rfl,oa',oc',wa',wc',h⟩
   have hnew:SE ko kl kw bl km N k es Q L ⟨(m,0,[]) :: (n,j + 1,r) :: t,low3.set m ((bH.aA ((n,j + 1,r) :: t)).length + 1),gs2,bA (m:Int) (.int .i64 (((bH.aA ((n,j + 1,r) :: t)).length:Int) + 1)) mp,oa',oc',wa',wc'⟩ w23:=by
    refine ⟨by simp [hl3],?_,?_,⟨?_,?_⟩,?_⟩
    ·show bH.Inv _ _ (lf (low3.set m _)) _ _
     rw [mE (by omega)]
     exact hI3.push hmE hmN h5
    ·intro v hv
     show lf (low3.set m _) v≠0
     rw [mE (by omega)]
     by_cases ev:v = m
     ·subst ev; rw [bH.aY]; omega
     ·rw [bH.cY ev]; exact hs3 v hv
    ·show assoc _ (bA _ _ _) = _
     rw [dy,UJ rfl]; rfl
    ·exact uu.put ((n,j + 1,r) :: t) hM λs hs e=>hmE2 h5 (by rw [<- e]; exact R0 (S:=(n,j + 1,r) :: t) s hs)
    ·have e1:cP ((m,0,[]) :: (n,j + 1,r) :: t) = cP ((n,j + 1,r) :: t) ++ [(m,0)]:=bV _ _ _ _
     show St w23 (sO _ _ _ _ _ _ _ _ _ (bH.aA ((n,j + 1,r) :: t) ++ [m]) _ (cP ((m,0,[]) :: (n,j + 1,r) :: t)) ++ _)
     rw [e1]
     exact h
   refine ⟨rfl,⟨_,hnew⟩,?_⟩
   have l1:=DK (f:=λx=>bH.todo (En es) N (lf x.low) x.S) hnew
   have l2:=bH.KV hI3 hmE hmN h5 ((bH.aA ((n,j + 1,r) :: t)).length + 1) (by omega)
   simp only at l1
   rw [mE (by omega)] at l1
   exact Nat.lt_of_le_of_lt l1 (Nat.lt_of_lt_of_le l2 ht3)
  ·have h5:lf low3 m≠0:=λe=>by rw [e] at h5; simp at h5
   intro w24 hd3
   have h:=h.eq (aE hd3)
   have cL:∀ u,hp u = hp w24->u.cell? (aM kl) = some (.slice (some (aM bl)) N N):=λu hu=>by rw [ft hu]; exact (ag 2 h.l).cell0 (sub.refl _)
   have cI:∀ u,hp u = hp w24->∀ v,v < N->u.cell? ((aM bl).add v) = some (.int .i64 (lf low3 v:Int)):=λu hu v hv=>by rw [ft hu]; exact (ag 3 h.l).cell (sub.refl _) (j:=v) (iA (AE (by omega)))
   have e24:=aE hd3
   have hwt2:(cP ((n,j + 1,r) :: t))[(cP t).length]? = some (n,j + 1):=by rw [bV]; simp
   obtain ⟨wad3,hwa3,hc3⟩:=bX (h.pick 7 [5,0,1,2,3,4,6]) (vO hwt2).1
   rw [hwa] at hwa3; cases hwa3
   refine ⟨λu=>hp u = hp w24,rfl,_,_,_,cL,(n:Int),λu hu=>by rw [ft hu]; exact hc3,_,_,_,cL,(n:Int),λu hu=>by rw [ft hu]; exact hc3,aB rfl hnN ⟨_,λu hu=>cI u hu n hnN,_,_,_,cL,aB rfl hmN ⟨_,λu hu=>cI u hu m hmN,aB rfl hnN ?_⟩⟩⟩
   rw [aV]
   have emin:(if (lf low3 m:Int) < (lf low3 n:Int) then (lf low3 m:Int) else (lf low3 n:Int)) = ((min (lf low3 n) (lf low3 m):Nat):Int):=by split <;> omega
   rw [emin]
   refine bC (h.pick 7 [3,0,1,2,4,5,6]) (by simp [nj]; omega) λw32 h=>?_
   rw [vm] at h
   have hnew:P2 (j + 1,low3.set n (min (lf low3 n) (lf low3 m))) w32:=by
    have eset:=mE (low:=low3) (i:=n) (x:=min (lf low3 n) (lf low3 m)) (by omega)
    have hlook:=hI3.look hmE hmN h5
    refine ⟨by simp [hl3],?_,?_,?_,h.pick 7 [1,2,3,0,4,5,6]⟩
    ·show bH.Inv _ _ (lf (low3.set n _)) _ _
     rw [eset]; exact hlook
    ·intro v hv
     show lf (low3.set n _) v≠0
     rw [eset]
     by_cases ev:v = n
     ·subst ev; rw [bH.aY]
      have:=hI3.ok.1.pos v (by simp)
      omega
     ·rw [bH.cY ev]; exact hs3 v hv
    ·show bH.todo _ _ (lf (low3.set n _)) _<=_
     rw [eset]
     refine U7 ?_ ht3
     unfold bH.todo
     rw [bH.xi (low:=lf low3)]
     ·simp only [Vh,List.sum_cons]; omega
     ·intro v hv
      by_cases ev:v = n
      ·subst ev; rw [bH.aY]
       have:=hI3.ok.1.pos v (by simp)
       constructor <;> intro <;> omega
      ·rw [bH.cY ev]
   refine ⟨⟨_,hnew⟩,?_⟩
   have l1:=DK (f:=λp=>(En es n).length - p.1) hnew
   have l2:(En es n).length - (j + 1) < (En es n).length - j:=by omega
   exact Nat.lt_of_le_of_lt l1 (Nat.lt_of_lt_of_le l2 (Nat.le_of_eq hm3))
 ·have h4:j = (En es n).length:=by have:=Uy h4; omega
  have hlen3:=hI3.len
  refine ⟨(n:Int),hc1,_,_,_,(ag 4 h.l).cell0 (sub.refl _),_,_,_,(ag 4 h.l).cell0 (sub.refl _),⟨by omega,by omega⟩,?_⟩
  have ei:((cP ((n,j,r) :: t)).length:Int) - 1 = ((cP t).length:Int):=by omega
  have hwle:=dj (h.pick 7 [5,0,1,2,3,4,6])
  rw [ei]
  refine l9 (by omega) (bC (h.pick 7 [4,0,1,2,3,5,6]) (by simp) λw33 h=>?_)
  have h:=za (h.pick 7 [5,0,1,2,3,4,6]) (k:=(cP t).length) (by omega)
  have etk:(GY (cP ((n,j,r) :: t))).take ((cP t).length * 2) = GY (cP t):=by
   rw [bV,<- Gg,<- Eg,List.take_left']
   rfl
  rw [etk] at h
  have h:St w33 (sO ko kl kw bl N oa oc (eJ wa 0 wc 2) wc (bH.aA ((n,j,r) :: t)) low3 (cP t) ++ (mapA km mp :: (Q gs2 ++ L))):=h.pick 7 [2,3,4,5,1,0,6]
  -- the one below takes over
  refine ⟨λw'=>St w' (sO ko kl kw bl N oa oc (eJ wa 0 wc 2) wc (bH.aA ((n,j,r) :: t)) (me low3 n t) (cP t) ++ (mapA km mp :: (Q gs2 ++ L))),⟨_,_,_,(ag 4 h.l).cell0 (sub.refl _),?_⟩,?_⟩
  ·refine aa (λh5=>?_) λh5=>?_
   rotate_left
   ·have h5:=Uy h5
    cases t with
    | nil=>exact h
    | cons x t=>obtain ⟨u,ku,ru⟩:=x; rw [bV] at h5; simp at h5
   ·cases t with
    | nil=>have h5:=Uz h5; simp [cP] at h5
    | cons x t =>
    obtain ⟨u,ku,ru⟩:=x
    have huN:u < N:=hI3.lt u (by simp [bH.aA])
    have hwu:(cP ((u,ku,ru) :: t))[(cP t).length]? = some (u,ku):=by rw [bV]; simp
    have hwul:(cP ((u,ku,ru) :: t)).length = (cP t).length + 1:=by rw [bV]; simp
    obtain ⟨wad4,hwa4,hc4⟩:=bX (h.pick 7 [5,0,1,2,3,4,6]) (vO hwu).1
    have ei2:((cP ((u,ku,ru) :: t)).length:Int) - 1 = ((cP t).length:Int):=by omega
    refine ⟨_,_,_,(ag 4 h.l).cell0 (sub.refl _),_,_,_,(ag 4 h.l).cell0 (sub.refl _),⟨by omega,by omega⟩,?_⟩
    rw [ei2]
    refine ak hwa4 (by omega) ?_
    rw [aF]
    refine ⟨(u:Int),hc4,?_⟩
    intro w34 hd5
    have h:=h.eq (aE hd5)
    have cL:∀ v,hp v = hp w34->v.cell? (aM kl) = some (.slice (some (aM bl)) N N):=λu hu=>by rw [ft hu]; exact (ag 2 h.l).cell0 (sub.refl _)
    have cI:∀ u,hp u = hp w34->∀ v,v < N->u.cell? ((aM bl).add v) = some (.int .i64 (lf low3 v:Int)):=λu hu v hv=>by rw [ft hu]; exact (ag 3 h.l).cell (sub.refl _) (j:=v) (iA (AE (by omega)))
    refine ⟨λu=>hp u = hp w34,rfl,_,_,_,cL,_,_,_,cL,aB rfl huN ⟨_,λv hv=>cI v hv u huN,_,_,_,cL,aB rfl hnN ⟨_,λv hv=>cI v hv n hnN,aB rfl huN ?_⟩⟩⟩
    rw [aV]
    have emin:(if (lf low3 n:Int) < (lf low3 u:Int) then (lf low3 n:Int) else (lf low3 u:Int)) = ((min (lf low3 u) (lf low3 n):Nat):Int):=by split <;> omega
    rw [emin]
    refine bC (h.pick 7 [3,0,1,2,4,5,6]) (by simp [nj]; omega) λw40 h=>?_
    rw [vm] at h
    exact h.pick 7 [1,2,3,0,4,5,6]
  ·intro _ w41 h w42 hd4
   have h:=h.eq (aE hd4)
   obtain ⟨nx1,nx2,nx3,nx4⟩:=hI3.RX
   have hlu:(me low3 n t).length = N:=by cases t <;> simp [me,hl3]
   have hlun:lf (me low3 n t) n = lf low3 n:=by
    cases t with
    | nil=>rfl
    | cons x t =>
     obtain ⟨u,ku,ru⟩:=x
     have huN:u < N:=hI3.lt u (by simp [bH.aA])
     show lf (low3.set u _) n = _
     rw [mE (by omega),bH.cY]
     intro e
     exact nx1 (by rw [e]; simp [bH.aA])
   obtain ⟨ma1,ma2⟩:=hM
   have lk:=λ{w' : Ws} {L' : List au} (h:St w' (mapA km mp :: L'))=>bU (κ:=Int) (P:=Tryz.prog) (z:=.int .i64 0) aL (rfl:ah Ty DI = .map _ _) bp rfl rfl h (n:Int)
   rw [ma1] at lk
   have cL:∀ v,hp v = hp w42->v.cell? (aM kl) = some (.slice (some (aM bl)) N N):=λu hu=>by rw [ft hu]; exact (ag 2 h.l).cell0 (sub.refl _)
   have cI:∀ u,hp u = hp w42->∀ v,v < N->u.cell? ((aM bl).add v) = some (.int .i64 (lf (me low3 n t) v:Int)):=λu hu v hv=>by rw [ft hu]; exact (ag 3 h.l).cell (sub.refl _) (j:=v) (iA (AE (by omega)))
   refine ⟨λu=>hp u = hp w42,rfl,_,_,_,cL,aB rfl hnN ⟨_,λv hv=>cI v hv n hnN,(lk (h.pick 7 [6,0,1,2,3,4,5])).mono ?_⟩⟩
   rintro _ w45 ⟨rfl,rfl⟩
   refine ⟨_,rfl,rfl,?_⟩
   rw [hlun]
   have hop:(bH.aA ((n,j,r) :: t)).length = (bH.aA t).length + 1 + r.length:=bH.bL
   refine aa (λh6=>?_) λh6=>?_
   ·have h6:lf low3 n = (bH.aA t).length + 1:=by have:=eq_of_beq h6; omega
    have hP:=hI3.pop h4 h6
    have hgN:∀ v∈n :: r,v < N:=λv hv=>hI3.lt v (by simp only [bH.aA,UF]; exact Or.inl (Or.inr hv))
    have hlowU:me low3 n t = low3\/lf (me low3 n t) = lf low3:=by
     cases t with
     | nil=>exact .inl rfl
     | cons x t =>
      obtain ⟨u,ku,ru⟩:=x
      have huN:u < N:=hI3.lt u (by simp [bH.aA])
      right
      show lf (low3.set u _) = _
      rw [mE (by omega),hI3.TV h6]
      funext v; unfold bH.yO; split
      ·rename_i e; rw [e]
      ·rfl
    have hlowU:lf (me low3 n t) = lf low3:=by rcases hlowU with e | e <;> rw [e]
    have hole:=dj (h.pick 7 [1,0,2,3,4,5,6])
    refine ⟨_,_,_,(ag 0 h.l).cell0 (sub.refl _),(lk (h.pick 7 [6,0,1,2,3,4,5])).mono ?_⟩
    rintro _ w46 ⟨rfl,rfl⟩
    have eb:((((bH.aA t).length + 1:Nat):Int) - 1) = ((bH.aA t).length:Int):=by omega
    refine ⟨_,rfl,⟨by omega,by omega⟩,?_⟩
    rw [eb]
    have hrO:aX (hp w46) ((bH.aA ((n,j,r) :: t)).map Int.ofNat) oa (bH.aA ((n,j,r) :: t)).length:=dO (by simp) (by rw [<- NF]; exact ee 1 h.l)
    have hrG:=hrO.drop (k:=(bH.aA t).length) (m:=oc) (by omega) hole
    have hdr:((bH.aA ((n,j,r) :: t)).map Int.ofNat).drop (bH.aA t).length = (n :: r).map Int.ofNat:=by
     rw [<- List.map_drop]; congr 1; show (bH.aA t ++ n :: r).drop _ = _; rw [List.drop_left']; rfl
    rw [hdr] at hrG
    have hgl:(bH.aA ((n,j,r) :: t)).length - (bH.aA t).length = (n :: r).length:=by rw [hop]; simp; omega
    refine cO (by omega) hole ((Gi hrG (by simp; omega) (by simp; omega)).mono ?_)
    rintro _ w47 ⟨o25,c25,rfl,h47⟩
    have h:=h47.u6 h
    have elg:((n :: r).map Int.ofNat).length = (n :: r).length:=by simp
    rw [elg,<- NF] at h
    refine ⟨_,_,_,by rw [elg],_,_,_,(ag 1 h.l).cell0 (sub.refl _),(lk (h.pick 8 [7,0,1,2,3,4,5,6])).mono ?_⟩
    rintro _ w48 ⟨rfl,rfl⟩
    refine ⟨_,rfl,⟨by omega,by omega⟩,?_⟩
    rw [eb]
    refine l9 (by omega) (bC (h.pick 8 [1,0,2,3,4,5,6,7]) (by simp) λw49 h=>?_)
    have h:=za (h.pick 8 [2,0,1,3,4,5,6,7]) (k:=(bH.aA t).length) (by omega)
    have etk:(nj (bH.aA ((n,j,r) :: t))).take ((bH.aA t).length * 1) = nj (bH.aA t):=by
     show (nj (bH.aA t ++ n :: r)).take _ = _
     unfold nj
     rw [U1,List.take_left']
     simp
    rw [etk] at h
    have h:St w49 (own 1 o25 (n :: r).length c25 (nj (n :: r)) :: (sO ko kl kw bl N (eJ oa 0 oc 1) oc (eJ wa 0 wc 2) wc (bH.aA t) (me low3 n t) (cP t) ++ (mapA km mp :: (Q gs2 ++ L)))):=h.pick 8 [2,1,0,3,4,5,6,7]
    refine ⟨λz w'=>∃ i:Nat,z = i/\i<=(n :: r).length/\St w' (own 1 o25 (n :: r).length c25 (nj (n :: r)) :: (sO ko kl kw bl N (eJ oa 0 oc 1) oc (eJ wa 0 wc 2) wc (bH.aA t) (fS (N + 1) (me low3 n t) ((n :: r).take i)) (cP t) ++ (mapA km mp :: (Q gs2 ++ L)))),
     λz _=>(n :: r).length - z.toNat,⟨0,rfl,UM _,h⟩,?_⟩
    rintro _ z w50 ⟨i,rfl,hi,h⟩
    refine aa (λh7=>?_) λh7=>?_
    ·have h7:i < (n :: r).length:=by have:=Uz h7; omega
     obtain ⟨v,hv⟩ : ∃ v,(n :: r)[i]? = some v:=⟨(n :: r)[i],UB _⟩
     have hvN:=hgN v (UC hv)
     obtain ⟨gad,hga,hgc⟩:=bX h (iA hv)
     refine aB hga h7 ⟨_,hgc,_,_,_,(ag 3 h.l).cell0 (sub.refl _),aB rfl hvN ?_⟩
     rw [aV]
     have eN:((N:Int) + 1) = ((N + 1:Nat):Int):=by omega
     rw [eN]
     refine bC (h.pick 8 [4,0,1,2,3,5,6,7]) (by simp [nj,uv]; omega) λw51 h=>⟨⟨by simp at h7 hi ⊢; omega,by simp at h7 hi ⊢; omega⟩,⟨i + 1,rfl,h7,?_⟩,bK h7⟩
     rw [vm] at h
     rw [UI,hv,VT,Gh]
     exact h.pick 8 [1,2,3,4,0,5,6,7]
    ·have h7:i = (n :: r).length:=by have:=Uy h7; omega
     subst h7
     rw [UZ] at h
     refine bz.2 ⟨hfl,?_⟩
     let M':=sO ko kl kw bl N (eJ oa 0 oc 1) oc (eJ wa 0 wc 2) wc (bH.aA t) (fS (N + 1) (me low3 n t) (n :: r)) (cP t) ++ [mapA km mp]
     have hp1:(M' ++ (Q gs2 ++ L)).Perm (Q gs2 ++ (M' ++ L)):=by
      rw [<- UK,<- UK]; exact List.perm_append_comm.append_right L
     have h8:St w50 (own 1 o25 (n :: r).length c25 (nj (n :: r)) :: (Q gs2 ++ (M' ++ L))):=h.perm (List.Perm.cons _ hp1)
     have hrun:=hD gs2 (n :: r) (M' ++ L) w50 o25 c25 hP.good (λv hv=>by rw [hN]; exact hP.lt v (List.mem_append_right _ hv)) h8
     refine hrun.mono ?_
     rintro _ w52 ⟨rfl,h⟩
     have elow:lf (fS (N + 1) (me low3 n t) (n :: r)) = λv=>if v∈n :: r then N + 1 else lf low3 v:=by
      rw [CI _ _ _ (λm hm=>by rw [hlu]; exact hgN m hm),hlowU]
     have hnew:SE ko kl kw bl km N k es Q L ⟨t,fS (N + 1) (me low3 n t) (n :: r),gs2 ++ [n :: r],mp,eJ oa 0 oc 1,oc,eJ wa 0 wc 2,wc⟩ w52:=by
      refine ⟨by show (fS _ _ _).length = _; rw [uv]; exact hlu,?_,?_,ma2,St.S8 (M:=Q (gs2 ++ [n :: r])) (Q:=M') (L:=L) h⟩
      ·show bH.Inv _ _ (lf (fS _ _ _)) _ _
       rw [elow]; exact hP
      ·intro v hv
       show lf (fS _ _ _) v≠0
       rw [elow]
       simp only
       split
       ·omega
       ·exact hs3 v hv
     refine ⟨rfl,⟨_,hnew⟩,?_⟩
     have l1:=DK (f:=λx=>bH.todo (En es) N (lf x.low) x.S) hnew
     refine Nat.lt_of_le_of_lt l1 (Nat.lt_of_lt_of_le ?_ ht3)
     show bH.todo _ _ (lf (fS _ _ _)) _ < _
     rw [elow]
     unfold bH.todo
     rw [bH.xi (low:=lf low3)]
     ·simp only [Vh,List.sum_cons]; omega
     ·intro v hv
      show (if v∈n :: r then N + 1 else lf low3 v) = 0↔lf low3 v = 0
      split
      ·rename_i e
       have h9:lf low3 v≠0:=λh0=>(hI3.un v hv).1 h0 (by simp only [bH.aA,UF]; exact Or.inl (Or.inr e))
       constructor <;> intro <;> omega
      ·exact Iff.rfl
   ·have h6:lf low3 n≠(bH.aA t).length + 1:=λe=>by rw [e] at h6; simp at h6
    cases t with
    | nil =>
     exfalso
     have h8:=hI3.ok.1.top
     have h9:=hI3.ok.1.pos n (by simp)
     simp [bH.aA] at h8 h6
     omega
    | cons x t =>
    obtain ⟨u,ku,ru⟩:=x
    have huN:u < N:=hI3.lt u (by simp [bH.aA])
    have eset:=mE (low:=low3) (i:=u) (x:=min (lf low3 u) (lf low3 n)) (by omega)
    have hmg:=hI3.merge h4 h6
    have hpu:=hI3.ok.2.2.1.pos u (by simp)
    have hpn:=hI3.ok.1.pos n (by simp)
    have hnew:SE ko kl kw bl km N k es Q L ⟨(u,ku,ru ++ n :: r) :: t,me low3 n ((u,ku,ru) :: t),gs2,mp,oa,oc,eJ wa 0 wc 2,wc⟩ w45:=by
     refine ⟨hlu,?_,?_,ma2,?_⟩
     ·show bH.Inv _ _ (lf (low3.set u _)) _ _
      rw [eset]; exact hmg
     ·intro v hv
      show lf (low3.set u _) v≠0
      rw [eset]
      by_cases ev:v = u
      ·subst ev; rw [bH.aY]; omega
      ·rw [bH.cY ev]; exact hs3 v hv
     ·have e1:bH.aA ((u,ku,ru ++ n :: r) :: t) = bH.aA ((n,j,r) :: (u,ku,ru) :: t):=by simp [bH.aA]
      show St w45 (sO _ _ _ _ _ _ _ _ _ (bH.aA ((u,ku,ru ++ n :: r) :: t)) _ _ ++ _)
      rw [e1]
      exact h
    refine ⟨⟨_,hnew⟩,?_⟩
    have l1:=DK (f:=λx=>bH.todo (En es) N (lf x.low) x.S) hnew
    refine Nat.lt_of_le_of_lt l1 (Nat.lt_of_lt_of_le ?_ ht3)
    show bH.todo _ _ (lf (low3.set u _)) _ < _
    rw [eset]
    unfold bH.todo
    rw [bH.xi (low:=lf low3)]
    ·simp only [Vh,List.sum_cons]; omega
    ·intro v hv
     by_cases ev:v = u
     ·subst ev; rw [bH.aY]
      constructor <;> intro <;> omega
     ·rw [bH.cY ev]
end Go.Proofs.YtndaepmjkbmjmaaGreatDoor
namespace Go.V
def iZ (es:List (List Int)):Bool:=!es.any λl=>l.any λx=>decide (x < 0) || decide ((es.length:Int)<=x)
theorem AG {es:List (List Int)}:iZ es = true↔AF es:=by
 unfold iZ AF
 rw [VQ,Wp]
 constructor
 ·intro h l hl x hx
  have:=h l hl
  rw [Bool.not_eq_true,Wp] at this
  have:=this x hx
  simp at this; omega
 ·intro h l hl
  rw [Bool.not_eq_true,Wp]
  intro x hx
  have:=h l hl x hx
  simp; omega
end Go.V
namespace Go.Proofs.YtndaepmjkbmjmaaGreatDoor
variable {w:Ws} {a:Wr} {l c:Nat} {d:FuncId} {e:List Value}
theorem QT {xs:List Int} {p:Int->Bool} (hfl:Fn d = true) (hr:aX (hp w) xs a l) (hb:l<=4611686018427387904)
  (hP:∀ x∈xs,∀ u,hp u = hp w->ay Tryz.prog d (.int .i64 x :: e) u λv u'=>v = .bool (p x)/\hp u' = hp w) :
  ay Tryz.prog iU [.slice a l c,.func (.func d) (Array.mk []) ⟨e⟩] w λv w'=>v = .bool (xs.any p)/\hp w' = hp w:=by
 refine db ?_
 have key:ay Tryz.prog eF [.slice a l c,.func (.func d) (Array.mk []) ⟨e⟩] w λv w'=>∃ n:Int,v = .int .i64 n/\(xs.any p = decide (0<=n))/\hp w' = hp w:=by
  refine dH ?_
  have hxl:=hr.1
  refine ⟨λz w'=>∃ j:Nat,z = j/\j<=l/\(∀ k∈xs.take j,p k = false)/\hp w' = hp w,λz _=>l - z.toNat,⟨0,rfl,UM _,λk hk=>by simp at hk,rfl⟩,?_⟩
  rintro _ z w1 ⟨j,rfl,hj,hno,e1⟩
  refine aa (λh1=>?_) λh1=>?_
  rotate_left
  ·have h1:j = l:=by have:=Uy h1; omega
   rw [UX (by omega)] at hno
   exact ⟨_,rfl,by rw [Wp.2 λx hx=>by rw [hno x hx]; simp]; rfl,e1⟩
  have h1:j < l:=by have:=Uz h1; omega
  obtain ⟨k,hk⟩ : ∃ k,xs[j]? = some k:=⟨xs[j]'(by omega),UB _⟩
  obtain ⟨ad,had,hc⟩:=hr.at hk
  refine aB had h1 ⟨k,hc w1 (Gr.of_eq e1),bz.2 ⟨hfl,(hP k (UC hk) w1 e1).mono ?_⟩⟩
  rintro _ w2 ⟨rfl,e2⟩
  refine ⟨_,rfl,aa (λhb=>?_) λhb=>?_⟩
  ·exact ⟨_,rfl,by rw [V4.2 ⟨k,UC hk,hb⟩]; exact (U4 (Vs j)).symm,e2⟩
  ·refine ⟨⟨by omega,by omega⟩,⟨j + 1,by simp,by omega,λy hy=>?_,e2⟩,bK h1⟩
   rw [UI,hk] at hy
   rcases UF.1 hy with hy | hy
   ·exact hno y hy
   ·simp at hy; subst hy; exact hb
 refine key.mono ?_
 rintro _ w' ⟨n,rfl,h1,h2⟩
 exact ⟨n,rfl,by rw [h1],h2⟩
theorem S9 {xs:List (List Int)} {p:List Int->Bool} (hfl:Fn d = true) (hr:aX (hp w) xs a l) (hb:l<=4611686018427387904)
  (hP:∀ x∈xs,∀ u o l c,hp u = hp w->aX (hp w) x o l->ay Tryz.prog d (.slice o l c :: e) u λv u'=>v = .bool (p x)/\hp u' = hp w) :
  ay Tryz.prog iz [.slice a l c,.func (.func d) (Array.mk []) ⟨e⟩] w λv w'=>v = .bool (xs.any p)/\hp w' = hp w:=by
 refine gJ ?_
 have key:ay Tryz.prog jq [.slice a l c,.func (.func d) (Array.mk []) ⟨e⟩] w λv w'=>∃ n:Int,v = .int .i64 n/\(xs.any p = decide (0<=n))/\hp w' = hp w:=by
  refine iM ?_
  have hxl:=hr.1
  refine ⟨λz w'=>∃ j:Nat,z = j/\j<=l/\(∀ k∈xs.take j,p k = false)/\hp w' = hp w,λz _=>l - z.toNat,⟨0,rfl,UM _,λk hk=>by simp at hk,rfl⟩,?_⟩
  rintro _ z w1 ⟨j,rfl,hj,hno,e1⟩
  refine aa (λh1=>?_) λh1=>?_
  rotate_left
  ·have h1:j = l:=by have:=Uy h1; omega
   rw [UX (by omega)] at hno
   exact ⟨_,rfl,by rw [Wp.2 λx hx=>by rw [hno x hx]; simp]; rfl,e1⟩
  have h1:j < l:=by have:=Uz h1; omega
  obtain ⟨k,ad,vs,hk,had,hrow,o,l1,c1,rfl,hle,hrd⟩:=hr.get h1
  rw [aF,show j * nQ.n (List Int) = j from VA j] at hrow
  refine aB had h1 ⟨o,l1,c1,hrow.cell0 (Gr.of_eq e1),bz.2 ⟨hfl,(hP k (UC hk) w1 o l1 c1 e1 hrd).mono ?_⟩⟩
  rintro _ w2 ⟨rfl,e2⟩
  refine ⟨_,rfl,aa (λhb=>?_) λhb=>?_⟩
  ·exact ⟨_,rfl,by rw [V4.2 ⟨k,UC hk,hb⟩]; exact (U4 (Vs j)).symm,e2⟩
  ·refine ⟨⟨by omega,by omega⟩,⟨j + 1,by simp,by omega,λy hy=>?_,e2⟩,bK h1⟩
   rw [UI,hk] at hy
   rcases UF.1 hy with hy | hy
   ·exact hno y hy
   ·simp at hy; subst hy; exact hb
 refine key.mono ?_
 rintro _ w' ⟨n,rfl,h1,h2⟩
 exact ⟨n,rfl,by rw [h1],h2⟩
theorem P5 {es:List (List Int)} (hr:aX (hp w) es a l) (hb:l<=4611686018427387904) (hB:∀ x∈es,x.length<=4611686018427387904) :
  ay Tryz.prog yQ [.slice a l c] w λv w'=>v = .bool (iZ es)/\Gr w w':=by
 refine vM ?_
 have hl:=hr.1
 refine af (St.all w) λk1 w1 h1=>?_
 have g1:Gr w w1:=h1.aR
 have hcel:=(ag 0 h1.l).cell0 (sub.refl _)
 refine ⟨_,_,_,hcel,(S9 (p:=λl=>l.any λx=>decide (x < 0) || decide ((es.length:Int)<=x)) (d:=ur) (e:=[vP (some (aM k1))]) rfl (hr.mono g1) hb ?_).mono ?_⟩
 ·intro x hx u o l' c' hu hrx
  refine qM ((QT (p:=λx=>decide (x < 0) || decide ((es.length:Int)<=x)) (d:=pz) (e:=[vP (some (aM k1))]) rfl (by rw [hu]; exact hrx) (by have:=hrx.1; have:=hB x hx; omega) ?_).mono ?_)
  ·intro y hy u2 hu2
   refine nI (aa (λh=>?_) λh=>?_)
   ·exact ⟨by rw [show decide (y < 0) = true from h]; rfl,hu2⟩
   ·refine ⟨_,_,_,by rw [ft (hu2.trans hu)]; exact hcel,by rw [show decide (y < 0) = false from h,Bool.false_or,hl],hu2⟩
  ·rintro _ w2 ⟨rfl,h2⟩
   exact ⟨_,rfl,rfl,h2.trans hu⟩
 ·rintro _ w2 ⟨rfl,h2⟩
  exact ⟨_,rfl,rfl,g1.trans (Gr.of_eq h2)⟩
end Go.Proofs.YtndaepmjkbmjmaaGreatDoor
namespace Go.V
theorem KW {P:Program} {w:Ws} (d:Nat) {t e:TypeId} {a b:Addr} {q:Bool} {i:TypeInfo} (h:P.underlying t = some (.pointer e)) (hi:P.info? e = some i) (hz:i.size≠0) (hs:(sameAddr a b).run P w = .ok q w) :
  (Op.equalIn (d + 1) t (.pointer (some a)) (.pointer (some b))).run P w = .ok q w:=by
 simp [Op.equalIn,aK h,sizeOf,typeInfo,hi,hz,hs]
theorem H9 {P:Program} {w:Ws} {t e:TypeId} {a b:Addr} {q:Bool} {i:TypeInfo} (h:P.underlying t = some (.pointer e)) (hi:P.info? e = some i) (hz:i.size≠0) (hs:(sameAddr a b).run P w = .ok q w) :
  (Op.equal t (.pointer (some a)) (.pointer (some b))).run P w = .ok q w:=KW 9999 h hi hz hs
theorem yc {P:Program} {w:Ws} {t e:TypeId} {xo yo:Operand} {a b:Addr} {q:Bool} {i:TypeInfo} (h:P.underlying t = some (.pointer e)) (hi:P.info? e = some i) (hz:i.size≠0) (hs:(sameAddr a b).run P w = .ok q w) :
  (fu .neq t xo yo (.pointer (some a)) (.pointer (some b))).run P w = .ok (.bool (!q)) w:=by
 unfold fu
 have hg:(eqGuard .neq t xo yo (.pointer (some a)) (.pointer (some b))).run P w = .ok () w:=zx (by simp) (by simp)
 simp [hg,Go.binOp,H9 h hi hz hs]
theorem KX {P:Program} {w:Ws} {L:List au} {Ty:TypeId->Option cB} (hT:di P Ty) {t e:TypeId} {i:cB} {xo yo:Operand} {k1 k2:Nat} {v1 v2:List Value} (hk:ah Ty t = .ptr e) (hi:Ty e = some i) (hz:i.size≠0) (h:St w (aS k1 v1 :: aS k2 v2 :: L)) :
  (fu .neq t xo yo (.pointer (some ⟨k1,0,none⟩)) (.pointer (some ⟨k2,0,none⟩))).run P w = .ok (.bool true) w:=by
 obtain ⟨d,hd,hd'⟩:=cD hT hk (by simp)
 rw [Hb hd'] at hd
 obtain ⟨info,d2,ha⟩:=mP hT hi
 obtain ⟨e1,h1⟩:=gH.1 h
 obtain ⟨e2,h2⟩:=gH.1 h.swap
 have hne:(⟨k1,0,none⟩ : Addr)≠⟨k2,0,none⟩:=by
  intro e
  cases e
  obtain ⟨g1,g2,dd,s1,s2,⟨_,x1⟩,g3,g4,dd',s3,s4,⟨_,x2⟩,_⟩:=h
  rcases dd k1 with h | h
  ·rw [h] at x1; cases x1
  ·rw [s3 k1 _ x2] at h; cases h
 exact yc hd ha.inf (by rw [<- ha.size]; exact hz) (run_sameAddr_other w hne h1.get h2.get)
theorem KY {P:Program} {w:Ws} {Ty:TypeId->Option cB} (hT:di P Ty) {t e:TypeId} {i:cB} {xo yo:Operand} {a:Addr} (hk:ah Ty t = .ptr e) (hi:Ty e = some i) (hz:i.size≠0) :
  (fu .neq t xo yo (.pointer (some a)) (.pointer (some a))).run P w = .ok (.bool false) w:=by
 obtain ⟨d,hd,hd'⟩:=cD hT hk (by simp)
 rw [Hb hd'] at hd
 obtain ⟨info,d2,ha⟩:=mP hT hi
 exact yc hd ha.inf (by rw [<- ha.size]; exact hz) (run_sameAddr_same w a)
def i_ (es ow:List (List Int)) (v:Nat) (x:Nat):Prop:=∃ u,bH.Rc (En es) v u/\(x:Int)∈ow.getD u []
structure NH (es ow:List (List Int)) (v:Nat) (bs:List Bool):Prop where
 ln:bs.length = 1024
 fn:∀ x,cj bs x = true↔x < 1024/\i_ es ow v x
theorem i_.mutual {es ow:List (List Int)} {v u x:Nat} (h:bH.Rc (En es) v u) (hx:i_ es ow u x):i_ es ow v x:=by
 obtain ⟨y,h1,h2⟩:=hx
 exact ⟨y,h.trans h1,h2⟩
theorem i_.step {es ow:List (List Int)} {g:List Nat} {v:Nat} (hv:v∈g) (hg:∀ a∈g,∀ b∈g,bH.Rc (En es) a b) {x:Nat} :
  i_ es ow v x↔(∃ n∈g,(x:Int)∈ow.getD n [])\/∃ n∈g,∃ m∈En es n,m∉g/\i_ es ow m x:=by
 constructor
 ·rintro ⟨u,h1,h2⟩
  have key:∀ a b,bH.Rc (En es) a b->a∈g->(x:Int)∈ow.getD b []->(∃ n∈g,(x:Int)∈ow.getD n [])\/∃ n∈g,∃ m∈En es n,m∉g/\i_ es ow m x:=by
   intro a b h
   induction h with
   | refl a=>intro ha hx; exact .inl ⟨a,ha,hx⟩
   | @step a m b hm hr ih =>
    intro ha hx
    by_cases hmg:m∈g
    ·exact ih hmg hx
    ·exact .inr ⟨a,ha,m,hm,hmg,b,hr,hx⟩
  exact key v u h1 hv h2
 ·rintro (⟨n,hn,hx⟩ | ⟨n,hn,m,hm,_,hx⟩)
  ·exact ⟨n,hg v hv n hn,hx⟩
  ·exact ((hg v hv n hn).trans (bH.Rc.one hm)) |> λh=>hx.mutual h
def JF (l:List (Wr)):List Value:=l.map λp=>Value.pointer p
theorem P6 (l:List (Wr)) (i:Nat) (p:Wr):(JF l).set i (.pointer p) = JF (l.set i p):=by simp only [JF,VL]
theorem Eh {l:List (Wr)} {i:Nat} {p:Wr} (h:l[i]? = some p):(JF l)[i]? = some (.pointer p):=by simp [JF,h]
def sQ (p:Wr) (l:List (Wr)) (g:List Nat):List (Wr):=g.foldl (λl m=>l.set m p) l
theorem AH (p:Wr):∀ (g:List Nat) (l:List (Wr)),(sQ p l g).length = l.length
 | [],_=>rfl
 | m :: g,l=>by show (sQ p (l.set m p) g).length = _; rw [AH p g]; simp
theorem KZ (p:Wr) (l:List (Wr)) (g:List Nat) (m:Nat):sQ p l (g ++ [m]) = (sQ p l g).set m p:=by simp [sQ]
theorem Gj (p:Wr):∀ (g:List Nat) (l:List (Wr)),(∀ m∈g,m < l.length)->∀ v,(sQ p l g)[v]? = if v∈g then some p else l[v]?
 | [],l,_,v=>by simp [sQ]
 | m :: g,l,h,v=>by
  have:=Gj p g (l.set m p) (λy hy=>by rw [Vj]; exact h y (by simp [hy])) v
  show (sQ p (l.set m p) g)[v]? = _
  rw [this]
  by_cases e:v∈g
  ·simp [e]
  ·have hm:=h m (by simp)
   by_cases e2:v = m
   ·subst e2; simp [e,hm]
   ·rw [UE e,List.getElem?_set_ne (Ne.symm e2),UE (by simp [e,e2])]
theorem NI {L:List au} {h:Hp} {A:au} (i:Nat) (hl:aG L h) (e:sc L i = A:=by rfl) (hi:Nat.blt i (zV L) = true:=by rfl):∃ h1,sub h1 h/\A h1:=by
 have:=dV i (by simpa [j7] using hi) hl
 rwa [e] at this
structure S_ (es ow:List (List Int)) (N:Nat) (gs:List (List Nat)) (sets:List (Wr)) (ps:List Go.Proofs.YtndaepmjkbmjmaaGreatDoor.Ls) (gr:List (Nat × List Bool)):Prop where
 ls:sets.length = N
 lp:ps.length = N
 lg:gr.length = gs.length
 st:∀ (i:Nat) g b B,gs[i]? = some g->gr[i]? = some (b,B)->∀ v∈g,sets[v]? = some (some ⟨b,0,none⟩)/\NH es ow v B/\∃ p,ps[v]? = some p/\p.2 = fG B
end Go.V
namespace Go.Proofs.YtndaepmjkbmjmaaGreatDoor
variable {w:Ws} {L:List au} {a oa:Wr} {N c oc l ks bs ko bo ke kn:Nat} {es ow:List (List Int)} {h0:Hp}
def xr (gr:List (Nat × List Bool)):List au:=gr.map λp=>dY (some ⟨p.1,0,none⟩) p.2
def K1 (es ow:List (List Int)) (ks bs ko bo N:Nat) (gs:List (List Nat)):au:=V.ex λy:List (Wr) × List Ls × List (Nat × List Bool) =>
 aT [V.pu (S_ es ow N gs y.1 y.2.1 y.2.2),aS ks [.slice (some ⟨bs,0,none⟩) N N],aS bs (JF y.1),aS ko [.slice (some ⟨bo,0,none⟩) N N],aS bo (y.2.1.map AB),aT (y.2.1.map xq),aT (xr y.2.2)]
theorem vQ {gs:List (List Nat)}:St w (K1 es ow ks bs ko bo N gs :: L)↔∃ (sets:List (Wr)) (ps:List Ls) (gr:List (Nat × List Bool)),S_ es ow N gs sets ps gr /\
  St w (aS ks [.slice (some ⟨bs,0,none⟩) N N] :: aS bs (JF sets) :: aS ko [.slice (some ⟨bo,0,none⟩) N N] :: aS bo (ps.map AB) :: aT (ps.map xq) :: aT (xr gr) :: L):=by
 unfold K1
 rw [St.ex]
 constructor
 ·rintro ⟨⟨sets,ps,gr⟩,h⟩
  have h:=St.pu.1 (St.flat.1 h)
  exact ⟨sets,ps,gr,h.1,h.2⟩
 ·rintro ⟨sets,ps,gr,h1,h2⟩
  exact ⟨⟨sets,ps,gr⟩,St.flat.2 (St.pu.2 ⟨h1,h2⟩)⟩
theorem NJ {k1 k2:Nat} {B1 B2:List Bool} {xo yo:Operand} (h:St w (dY (some ⟨k1,0,none⟩) B1 :: dY (some ⟨k2,0,none⟩) B2 :: L)) :
  (fu .neq mw xo yo (.pointer (some ⟨k1,0,none⟩)) (.pointer (some ⟨k2,0,none⟩))).run Tryz.prog w = .ok (.bool true) w:=by
 rcases iV h with ⟨e,_⟩ | ⟨b,a,c,ws,e,_,h⟩
 ·cases e
 ·cases e
  rcases iV (h.pick 3 [2,0,1]) with ⟨e,_⟩ | ⟨b',a',c',ws',e,_,h⟩
  ·cases e
  ·cases e
   exact KX aL (rfl:ah Ty mw = .ptr _) rfl (by decide) (h.pick 4 [2,0,1,3])
structure Ta (es ow:List (List Int)) (h0:Hp) (ke kn N:Nat) (a oa:Wr) (c oc:Nat):Prop where
 ce:av h0 ⟨ke,0,none⟩ [.slice a N c]
 cn:av h0 ⟨kn,0,none⟩ [.slice oa N oc]
 re:aX h0 es a N
 rn:aX h0 ow oa N
 tab:dG h0
 bE:∀ x∈es,x.length * 8<=140737488355328
 bO:∀ x∈ow,x.length * 8<=140737488355328
 bN:N * 24<=140737488355328
 rO:∀ x∈ow,∀ y∈x,0<=y/\y < 1024
theorem R4 (hR:AF es) (C:Ta es ow h0 ke kn N a oa c oc):QS uq [.pointer (some (aM ks)),.pointer (some (aM kn)),.pointer (some (aM ke)),.pointer (some (aM ko))] es λgs=>[K1 es ow ks bs ko bo N gs,has h0]:=by
 intro gs g F w o gc hG hlt h
 have hN:es.length = N:=C.re.1
 have hgN:∀ v∈g,v < N:=λv hv=>by have:=hlt v (by simp [hv]); omega
 have hgl:g.length<=N:=(hG.len hlt).2 g (by simp) |> λh=>by omega
 have hgm:∀ x∈g,∀ y∈g,bH.Rc (En es) x y:=(hG.2 gs g [] rfl).2.1
 have hge:∀ x∈g,∀ y∈En es x,y∈g\/y∈gs.flatten:=(hG.2 gs g [] rfl).2.2
 have hgd:∀ x∈g,x∉gs.flatten:=λx hx=>(bH.Gd hG.1 rfl hx).1
 have bN:=C.bN
 obtain ⟨sets,ps,gr,hF,h⟩:=vQ.1 (h.pick 3 [1,0,2])
 refine qK ((Ru 1024 (xs:=[]) aX.nil (by decide)).mono ?_)
 rintro _ w1 ⟨b,rfl,h1⟩
 have h:=h1.u6 h
 -- [0 set,1 ks,2 bs,3 ko,4 bo,5 lists,6 sets,7 group,8 has]
 refine ⟨_,rfl,λz w'=>∃ i:Nat,z = i/\i<=g.length/\St w' (dY (some ⟨b,0,none⟩) (Bz 1024 []) :: aS ks [.slice (some ⟨bs,0,none⟩) N N] :: aS bs (JF (sQ (some ⟨b,0,none⟩) sets (g.take i))) :: aS ko [.slice (some ⟨bo,0,none⟩) N N] :: aS bo (ps.map AB) :: aT (ps.map xq) :: aT (xr gr) :: own 1 o g.length gc (nj g) :: has h0 :: F),
  λz _=>g.length - z.toNat,⟨0,rfl,UM _,h⟩,?_⟩
 rintro _ z w2 ⟨i,rfl,hi,h⟩
 refine aa (λh1=>?_) λh1=>?_
 ·have h1:i < g.length:=by have:=Uz h1; omega
  obtain ⟨v,hv⟩ : ∃ v,g[i]? = some v:=⟨g[i],UB _⟩
  have hvN:=hgN v (UC hv)
  obtain ⟨gad,hga,hgc⟩:=bX (h.pick 9 [7,0,1,2,3,4,5,6,8]) (iA hv)
  refine aB hga h1 ⟨_,hgc,_,_,_,(ag 1 h.l).cell0 (sub.refl _),aB rfl hvN ?_⟩
  rw [aV]
  refine bC (h.pick 9 [2,0,1,3,4,5,6,7,8]) (by simp [JF,AH,hF.ls]; omega) λw3 h=>⟨⟨by omega,by omega⟩,⟨i + 1,rfl,h1,?_⟩,bK h1⟩
  rw [P6] at h
  rw [UI,hv,VT,KZ]
  exact h.pick 9 [1,2,0,3,4,5,6,7,8]
 have h1:i = g.length:=by have:=Uy h1; omega
 subst h1
 rw [UZ] at h
 have hmax:∀ x:Nat,(Bz 1024 []).length = 1024/\cj (Bz 1024 []) x = false:=λx=>⟨by unfold Bz; rw [bF,V8]; decide,by unfold Bz; rw [gE]; simp [fL,vb]⟩
 have hsets:∀ v,(sQ (some ⟨b,0,none⟩) sets g)[v]? = if v∈g then some (some (⟨b,0,none⟩ : Addr)) else sets[v]?:=Gj _ g sets λm hm=>by rw [hF.ls]; exact hgN m hm
 -- the numbers come together
 let Part:Nat->Nat->Prop:=λi x=>(∃ n∈g.take i,(x:Int)∈ow.getD n [])\/∃ n∈g.take i,∃ m∈En es n,m∉g/\i_ es ow m x
 refine ⟨λz w'=>∃ (i:Nat) (B:List Bool),z = i/\i<=g.length/\B.length = 1024/\(∀ x,cj B x = true↔x < 1024/\Part i x)/\St w' (dY (some ⟨b,0,none⟩) B :: aS ks [.slice (some ⟨bs,0,none⟩) N N] :: aS bs (JF (sQ (some ⟨b,0,none⟩) sets g)) :: aS ko [.slice (some ⟨bo,0,none⟩) N N] :: aS bo (ps.map AB) :: aT (ps.map xq) :: aT (xr gr) :: own 1 o g.length gc (nj g) :: has h0 :: F),
  λz _=>g.length - z.toNat,⟨0,_,rfl,UM _,(hmax 0).1,λx=>?_,h⟩,?_⟩
 ·rw [(hmax x).2]
  constructor
  ·intro h; cases h
  ·rintro ⟨_,⟨n,hn,_⟩ | ⟨n,hn,_⟩⟩ <;> simp at hn
 rintro _ z w4 ⟨i,B,rfl,hi,hBl,hBf,h⟩
 refine aa (λh1=>?_) λh1=>?_
 ·have h1:i < g.length:=by have:=Uz h1; omega
  obtain ⟨n,hn⟩ : ∃ n,g[i]? = some n:=⟨g[i],UB _⟩
  have hng:=UC hn
  have hnN:=hgN n hng
  have s0:=bj 8 h.l
  obtain ⟨gad,hga,hgc⟩:=bX (h.pick 9 [7,0,1,2,3,4,5,6,8]) (iA hn)
  obtain ⟨xo,oad,ov,hxo,hoa,horow,o4,l4,c4,rfl,hle4,hrd4⟩:=C.rn.get (i:=n) hnN
  rw [aF,show n * nQ.n (List Int) = n from VA n] at horow
  obtain ⟨xe,ead,ev,hxe,hea,herow,o6,l6,c6,rfl,hle6,hrd6⟩:=C.re.get (i:=n) hnN
  rw [aF,show n * nQ.n (List Int) = n from VA n] at herow
  have hlo:=hrd4.1
  have hle:=hrd6.1
  have hxoB:=C.bO xo (UC hxo)
  have hxeB:=C.bE xe (UC hxe)
  refine aB hga h1 ⟨_,hgc,_,_,_,C.cn.cell0 s0,aB hoa hnN ⟨o4,l4,c4,horow.cell0 s0,(Mm (xs:=xo) h (λhh hl=>hrd4.mono (bj 7 hl)) (by omega)).mono ?_⟩⟩
  rintro _ w5 ⟨rfl,h⟩
  have s0:=bj 8 h.l
  refine ⟨_,rfl,_,_,_,C.ce.cell0 s0,aB hea hnN ⟨o6,l6,c6,herow.cell0 s0,?_⟩⟩
  have hen:=NG hxe
  have how:ow.getD n [] = xo:=by rw [UN,hxo]; rfl
  refine ⟨λz w'=>∃ (j:Nat) (B' : List Bool),z = j/\j<=l6/\B'.length = 1024/\(∀ x,cj B' x = true↔x < 1024/\(Part i x\/(x:Int)∈xo\/∃ m∈(En es n).take j,m∉g/\i_ es ow m x))/\St w' (dY (some ⟨b,0,none⟩) B' :: aS ks [.slice (some ⟨bs,0,none⟩) N N] :: aS bs (JF (sQ (some ⟨b,0,none⟩) sets g)) :: aS ko [.slice (some ⟨bo,0,none⟩) N N] :: aS bo (ps.map AB) :: aT (ps.map xq) :: aT (xr gr) :: own 1 o g.length gc (nj g) :: has h0 :: F),
   λz _=>l6 - z.toNat,⟨0,_,rfl,UM _,by rw [bF]; exact hBl,λx=>?_,h⟩,?_⟩
  ·rw [gE,fL,hBl,VH,hBf,UT,UO,V1]
   constructor
   ·rintro (⟨p1,p2⟩ | ⟨p1,p2⟩)
    ·exact ⟨p1,.inl p2⟩
    ·exact ⟨p1,.inr (.inl p2)⟩
   ·rintro ⟨p1,p2 | p2 | ⟨m,hm,_⟩⟩
    ·exact .inl ⟨p1,p2⟩
    ·exact .inr ⟨p1,p2⟩
    ·simp at hm
  rintro _ z w6 ⟨j,B',rfl,hj,hBl',hBf',h⟩
  have s0:=bj 8 h.l
  refine aa (λh2=>?_) λh2=>?_
  ·have h2:j < l6:=by have:=Uz h2; omega
   obtain ⟨mI,hmI⟩ : ∃ mI,xe[j]? = some mI:=⟨xe[j]'(by omega),UB _⟩
   obtain ⟨m,hmE,rfl⟩ : ∃ m:Nat,(En es n)[j]? = some m/\mI = (m:Int):=by
    refine ⟨mI.toNat,by rw [hen,UD,hmI]; rfl,?_⟩
    have:=hR xe (UC hxe) mI (UC hmI)
    omega
   have hmN:m < N:=by have:=QR hR (UC hmE); omega
   have htk:∀ {B'' : List Bool},(∀ x,cj B'' x = true↔cj B' x = true\/(x < 1024/\m∉g/\i_ es ow m x))->∀ x,cj B'' x = true↔x < 1024/\(Part i x\/(x:Int)∈xo\/∃ m∈(En es n).take (j + 1),m∉g/\i_ es ow m x):=by
    intro B'' hB x
    rw [hB,hBf',UI,hmE,VT]
    constructor
    ·rintro (⟨p1,p2 | p2 | ⟨y,q1,q2⟩⟩ | ⟨p1,p2⟩)
     ·exact ⟨p1,.inl p2⟩
     ·exact ⟨p1,.inr (.inl p2)⟩
     ·exact ⟨p1,.inr (.inr ⟨y,List.mem_append_left _ q1,q2⟩)⟩
     ·exact ⟨p1,.inr (.inr ⟨m,by simp,p2⟩)⟩
    ·rintro ⟨p1,p2 | p2 | ⟨y,q1,q2⟩⟩
     ·exact .inl ⟨p1,.inl p2⟩
     ·exact .inl ⟨p1,.inr (.inl p2)⟩
     ·rcases UF.1 q1 with q1 | q1
      ·exact .inl ⟨p1,.inr (.inr ⟨y,q1,q2⟩)⟩
      ·simp at q1; subst q1; exact .inr ⟨p1,q2⟩
   obtain ⟨ead2,hea2,hc2⟩:=hrd6.at hmI
   have rowS:=(ag 2 h.l)
   refine aB hea2 h2 ⟨(m:Int),hc2 w6 s0,_,_,_,(ag 1 h.l).cell0 (sub.refl _),aB rfl hmN ?_⟩
   by_cases hmg:m∈g
   ·have hsm:(sQ (some ⟨b,0,none⟩) sets g)[m]? = some (some (⟨b,0,none⟩ : Addr)):=by rw [hsets,UJ hmg]
    refine ⟨some ⟨b,0,none⟩,rowS.cell (sub.refl _) (Eh hsm),⟨_,KY aL (rfl:ah Ty mw = .ptr _) rfl (by decide),false,rfl,?_⟩⟩
    refine ⟨⟨by omega,by omega⟩,⟨j + 1,B',rfl,h2,hBl',htk λx=>⟨.inl,λh=>h.resolve_right λh=>h.2.1 hmg⟩,h⟩,bK h2⟩
   ·have hmf:m∈gs.flatten:=(hge n hng m (UC hmE)).resolve_left hmg
    obtain ⟨g2,hg2,hmg2⟩:=List.mem_flatten.1 hmf
    obtain ⟨k2,hk2⟩:=Vf hg2
    obtain ⟨⟨b2,B2⟩,hb2⟩ : ∃ y,gr[k2]? = some y:=⟨gr[k2]'(by rw [hF.lg]; exact (UA.1 hk2).1),UB _⟩
    obtain ⟨f1,f2,_⟩:=hF.st k2 g2 b2 B2 hk2 hb2 m hmg2
    have hsm:(sQ (some ⟨b,0,none⟩) sets g)[m]? = some (some (⟨b2,0,none⟩ : Addr)):=by rw [hsets,UE hmg,f1]
    have hgr:(xr gr)[k2]? = some (dY (some ⟨b2,0,none⟩) B2):=by unfold xr; rw [UD,hb2]; rfl
    have hcmp:=NJ (xo:=Operand.tmp 52) (yo:=Operand.tmp 53) ((St.MC (h.pick 9 [6,0,1,2,3,4,5,7,8]) hgr).pick 3 [0,2])
    refine ⟨some ⟨b2,0,none⟩,rowS.cell (sub.refl _) (Eh hsm),⟨_,hcmp,true,rfl,?_⟩⟩
    refine ⟨_,_,_,(ag 1 h.l).cell0 (sub.refl _),aB rfl hmN ⟨some ⟨b2,0,none⟩,rowS.cell (sub.refl _) (Eh hsm),af h λk15 w7 h=>?_⟩⟩
    have h:=h.pick 10 [1,0,2,3,4,5,6,7,8,9]
    refine (I0 (os:=[some ⟨b2,0,none⟩]) (vss:=[B2]) h (λhh hl=>dN rfl (.inr ⟨_,rfl,(show av hh ⟨k15,0,none⟩ [.pointer (some ⟨b2,0,none⟩)] from ag 0 hl)⟩)) rfl (λhh hl y q v hq hv=>?_) (λhh hl=>fp.mono (bj 8 hl) C.tab) (by simp)).mono ?_
    ·obtain ⟨h1,s1,ha⟩:=NI 6 hl (A:=aT (xr gr))
     obtain ⟨h3,s3,h4⟩:=qh (UC hgr) ha
     cases y with
     | zero=>cases hq; cases hv; exact .inl ((DB h4).mono (s3.trans s1))
     | succ y=>simp at hq
    rintro _ w8 ⟨rfl,h⟩
    refine ⟨_,rfl,⟨by omega,by omega⟩,⟨j + 1,cr B' [B2],rfl,h2,by rw [tN]; exact hBl',htk λx=>?_,h.pick 10 [0,2,3,4,5,6,7,8,9]⟩,bK h2⟩
    show cj (dm B' (fG B2)) x = true↔_
    rw [fa,hBl',VH,UT,UO,f2.fn]
    constructor
    ·rintro (p | ⟨p1,_,p2⟩)
     ·exact .inl p
     ·exact .inr ⟨p1,hmg,p2⟩
    ·rintro (p | ⟨p1,_,p2⟩)
     ·exact .inl p
     ·exact .inr ⟨p1,p1,p2⟩
  ·have h2:j = l6:=by have:=Uy h2; omega
   subst h2
   refine ⟨⟨by omega,by omega⟩,⟨i + 1,B',rfl,h1,hBl',λx=>?_,h⟩,bK h1⟩
   have hjl:(En es n).take j = En es n:=UX (by rw [hen,UH]; omega)
   rw [hBf',hjl]
   refine and_congr_right λ_=>?_
   show _↔(∃ n∈g.take (i + 1),_)\/∃ n∈g.take (i + 1),_
   rw [UI,hn,VT]
   constructor
   ·rintro ((⟨y,q1,q2⟩ | ⟨y,q1,q2⟩) | q | q)
    ·exact .inl ⟨y,List.mem_append_left _ q1,q2⟩
    ·exact .inr ⟨y,List.mem_append_left _ q1,q2⟩
    ·exact .inl ⟨n,by simp,by rw [how]; exact q⟩
    ·exact .inr ⟨n,by simp,q⟩
   ·rintro (⟨y,q1,q2⟩ | ⟨y,q1,q2⟩)
    ·rcases UF.1 q1 with q1 | q1
     ·exact .inl (.inl ⟨y,q1,q2⟩)
     ·simp at q1; subst q1; exact .inr (.inl (by rw [how] at q2; exact q2))
    ·rcases UF.1 q1 with q1 | q1
     ·exact .inl (.inr ⟨y,q1,q2⟩)
     ·simp at q1; subst q1; exact .inr (.inr q2)
 have h1:i = g.length:=by have:=Uy h1; omega
 subst h1
 have hSol:∀ v∈g,NH es ow v B:=λv hv=>⟨hBl,λx=>by
  rw [hBf]
  refine and_congr_right λ_=>?_
  show (∃ n∈g.take g.length,_)\/(∃ n∈g.take g.length,_)↔_
  rw [UZ,i_.step hv hgm]⟩
 refine (Co (h.nm) (fp.mono (bj 8 h.l) C.tab)).mono ?_
 rintro _ w9 ⟨a5,c5,rfl,h5⟩
 have h:=h5.u6 h
 have hml:(fG B).length = bn B:=y_ B
 have hmb:bn B<=1024:=by have:=jd B; omega
 refine ⟨_,_,_,rfl,λz w'=>∃ (i:Nat) (ps' : List Ls),z = i/\i<=g.length/\ps'.length = N/\(∀ v∈g.take i,∃ p,ps'[v]? = some p/\p.2 = fG B)/\(∀ v,v∉g->ps'[v]? = ps[v]?) /\
   St w' (own 1 a5 (bn B) c5 (iv (fG B)) :: dY (some ⟨b,0,none⟩) B :: aS ks [.slice (some ⟨bs,0,none⟩) N N] :: aS bs (JF (sQ (some ⟨b,0,none⟩) sets g)) :: aS ko [.slice (some ⟨bo,0,none⟩) N N] :: aS bo (ps'.map AB) :: aT (ps'.map xq) :: aT (xr gr) :: own 1 o g.length gc (nj g) :: has h0 :: F),
  λz _=>g.length - z.toNat,⟨0,ps,rfl,UM _,hF.lp,λv hv=>by simp at hv,λ_ _=>rfl,h⟩,?_⟩
 rintro _ z w10 ⟨i,ps',rfl,hi,hpl,hp1,hp2,h⟩
 refine aa (λh1=>?_) λh1=>?_
 ·have h1:i < g.length:=by have:=Uz h1; omega
  obtain ⟨v,hv⟩ : ∃ v,g[i]? = some v:=⟨g[i],UB _⟩
  have hvN:=hgN v (UC hv)
  obtain ⟨gad,hga,hgc⟩:=bX (h.pick 10 [8,0,1,2,3,4,5,6,7,9]) (iA hv)
  refine aB hga h1 ⟨_,hgc,λw11 hd=>?_⟩
  have h:=h.eq (aE hd)
  have rko:=ag 4 h.l
  refine ⟨λu=>Gr w11 u,Gr.refl _,_,_,_,λu hu=>rko.cell0 hu,(Gi (xs:=fG B) (dO hml (ee 0 h.l)) (by omega) (by omega)).mono ?_⟩
  rintro _ w13 ⟨o13,c13,rfl,h13⟩
  have g13:Gr w11 w13:=h13.aR
  have h:=h13.u6 h
  refine ⟨_,_,_,rfl,g13,aB rfl hvN ?_⟩
  rw [aV]
  refine bC (h.pick 11 [6,0,1,2,3,4,5,7,8,9,10]) (by simp; omega) λw14 h=>⟨⟨by omega,by omega⟩,⟨i + 1,ps'.set v ((o13,c13),fG B),rfl,h1,by rw [Vj]; exact hpl,λu hu=>?_,λu hu=>?_,?_⟩,bK h1⟩
  ·by_cases e:u = v
   ·subst e; exact ⟨_,by rw [List.getElem?_set_self (by omega)],rfl⟩
   ·rw [UI,hv,VT] at hu
    rcases UF.1 hu with hu | hu
    ·obtain ⟨p,q1,q2⟩:=hp1 u hu
     exact ⟨p,by rw [List.getElem?_set_ne (Ne.symm e)]; exact q1,q2⟩
    ·simp at hu; exact absurd hu e
  ·have e:u≠v:=λe=>hu (e ▸ UC hv)
   rw [List.getElem?_set_ne (Ne.symm e)]; exact hp2 u hu
  ·have h:=St.MB (A:=own 1 o13 (fG B).length c13 (iv (fG B))) (M:=ps'.map xq) (h.pick 11 [1,7,0,2,3,4,5,6,8,9,10]) (n:=v) (by simp; omega)
   have e1:(ps'.map AB).set v (.slice o13 (fG B).length c13) = (ps'.set v ((o13,c13),fG B)).map AB:=by rw [VL]; rfl
   have e2:(ps'.map xq).set v (own 1 o13 (fG B).length c13 (iv (fG B))) = (ps'.set v ((o13,c13),fG B)).map xq:=by rw [VL]; rfl
   rw [e1,e2] at h
   exact h.pick 10 [2,3,4,5,6,1,0,7,8,9]
 have h1:i = g.length:=by have:=Uy h1; omega
 subst h1
 rw [UZ] at hp1
 refine ⟨rfl,?_⟩
 show St w10 (K1 es ow ks bs ko bo N (gs ++ [g]) :: has h0 :: F)
 refine vQ.2 ⟨sQ (some ⟨b,0,none⟩) sets g,ps',gr ++ [(b,B)],⟨by rw [AH]; exact hF.ls,hpl,by simp [hF.lg],λi g' b' B' hi1 hi2 v hv=>?_⟩,?_⟩
 ·by_cases e:i < gs.length
  ·rw [UQ e] at hi1
   rw [UQ (by rw [hF.lg]; exact e)] at hi2
   have hvf:v∈gs.flatten:=List.mem_flatten.2 ⟨g',UC hi1,hv⟩
   have hvg:v∉g:=λh=>hgd v h hvf
   obtain ⟨q1,q2,q3⟩:=hF.st i g' b' B' hi1 hi2 v hv
   exact ⟨by rw [hsets,UE hvg]; exact q1,q2,by rw [hp2 v hvg]; exact q3⟩
  ·have hil:=(UA.1 hi1).1
   simp at hil
   have e:i = gs.length:=by omega
   subst e
   rw [UP (US _),Vu] at hi1
   rw [UP (by rw [hF.lg]; exact US _),hF.lg,Vu] at hi2
   cases hi1; cases hi2
   exact ⟨by rw [hsets,UJ hv],hSol v hv,hp1 v hv⟩
 ·have e1:xr (gr ++ [(b,B)]) = xr gr ++ [dY (some ⟨b,0,none⟩) B]:=by simp [xr]
  rw [e1]
  exact (St.snoc (h.pick 10 [1,7,2,3,4,5,6,9])).pick 7 [1,2,3,4,5,0,6]
end Go.Proofs.YtndaepmjkbmjmaaGreatDoor
namespace Go.V
def K2 (l:List Int):Bool:=!l.any λx=>decide (x < 0) || decide (1024<=x)
theorem Gk {l:List Int}:K2 l = true↔∀ x∈l,0<=x/\x < 1024:=by
 unfold K2
 rw [VQ,Wp]
 refine forall_congr' λx=>forall_congr' λhx=>?_
 simp
def yd (es ow:List (List Int)):Bool:=iZ es && ow.length == es.length && ow.all K2
end Go.V
namespace Go.Proofs.YtndaepmjkbmjmaaGreatDoor
variable {w:Ws} {L:List au} {a oa:Wr} {N M c oc l:Nat} {es ow:List (List Int)}
def JG (es ow:List (List Int)) (ps:List Ls):Prop:=ps.length = es.length/\∀ v,v < es.length->∃ B p,NH es ow v B/\ps[v]? = some p/\p.2 = fG B
theorem P7 (hr:aX (hp w) es a N) (ho:aX (hp w) ow oa M) (ht:dG (hp w)) (hB:∀ l∈es,l.length * 8<=140737488355328) (hO:∀ l∈ow,l.length * 8<=140737488355328) (hb:N * 24<=140737488355328) (hM:M * 24<=140737488355328) :
  ay Tryz.prog yP [.slice a N c,.slice oa M oc] w λv w'=>(yd es ow = false/\v = .tuple (Array.mk [.slice none 0 0,.int .i64 1])/\Gr w w') \/
   (yd es ow = true/\∃ (bo:Nat) (ps:List Ls),JG es ow ps/\v = .tuple (Array.mk [.slice (some ⟨bo,0,none⟩) N N,.int .i64 0])/\St w' (own 1 (some ⟨bo,0,none⟩) N N (ps.map AB) :: aT (ps.map xq) :: all w)):=by
 have hN:=hr.1
 have hMl:=ho.1
 refine vK ?_
 refine af (St.all w) λke w1 h=>af h λkn w2 h=>?_
 have g2:Gr w w2:=h.tail.aR
 refine ⟨λb w'=>b = !(iZ es && M == N)/\Gr w2 w',⟨_,_,_,(ag 1 h.l).cell0 (sub.refl _),(P5 (hr.mono g2) (by omega) λx hx=>by have:=hB x hx; omega).mono ?_⟩,?_⟩
 ·rintro _ w3 ⟨rfl,g3⟩
  have h:=h.gr g3
  refine ⟨_,rfl,aa (λh1=>?_) λh1=>?_⟩
  ·have h1:iZ es = false:=by simpa using h1
   exact ⟨by rw [h1]; rfl,g3⟩
  ·have h1:iZ es = true:=by simpa using h1
   refine ⟨_,_,_,(ag 0 h.l).cell0 (sub.refl _),_,_,_,(ag 1 h.l).cell0 (sub.refl _),?_,g3⟩
   rw [h1,Bool.true_and]
   by_cases e:M = N
   ·subst e; simp
   ·have:((M:Int) != (N:Int)) = true:=by simp; omega
    rw [this]; simp [e]
 rintro _ b2 w4 ⟨rfl,g4⟩
 refine aa (λh1=>?_) λh1=>?_
 ·refine .inl ⟨?_,rfl,g2.trans g4⟩
  have h1:(iZ es && M == N) = false:=by cases hq:(iZ es && M == N) with
   | false=>rfl
   | true=>rw [hq] at h1; cases h1
  unfold yd
  rw [hMl,hN,h1]; rfl
 have h1:(iZ es && M == N) = true:=by cases hq:(iZ es && M == N) with
  | true=>rfl
  | false=>rw [hq] at h1; cases h1
 obtain ⟨h2,h3⟩:=Bool.and_eq_true_iff.1 h1
 have h3:M = N:=by simpa using h3
 subst h3
 have h:=h.gr g4
 have hre:=hr.mono (g2.trans g4)
 have hro:=ho.mono (g2.trans g4)
 refine ⟨_,_,_,(ag 0 h.l).cell0 (sub.refl _),λz w'=>∃ i:Nat,z = i/\i<=M/\(∀ x∈ow.take i,K2 x = true)/\hp w' = hp w4,λz _=>M - z.toNat,⟨0,rfl,UM _,λx hx=>by simp at hx,rfl⟩,?_⟩
 rintro _ z w5 ⟨i,rfl,hi,hme,e5⟩
 refine aa (λh4=>?_) λh4=>?_
 ·have h4:i < M:=by have:=Uz h4; omega
  obtain ⟨x,ad,vs,hx,had,hrow,o,l1,c1,rfl,hle,hrd⟩:=hro.get h4
  rw [aF,show i * nQ.n (List Int) = i from VA i] at hrow
  have hxB:=hO x (UC hx)
  have hxl:=hrd.1
  refine aB had h4 ⟨o,l1,c1,hrow.cell0 (Gr.of_eq e5),(QT (p:=λx=>decide (x < 0) || decide (1024<=x)) (d:=uo) (e:=[]) rfl (by rw [e5]; exact hrd) (by omega) ?_).mono ?_⟩
  ·intro y hy u hu
   refine qI (aa (λh=>?_) λh=>?_)
   ·exact ⟨by rw [show decide (y < 0) = true from h]; rfl,hu⟩
   ·exact ⟨by rw [show decide (y < 0) = false from h,Bool.false_or],hu⟩
  rintro _ w6 ⟨rfl,e6⟩
  refine ⟨_,rfl,aa (λh5=>?_) λh5=>?_⟩
  ·refine .inl ⟨?_,rfl,(g2.trans g4).trans (Gr.of_eq (e6.trans e5))⟩
   unfold yd
   rw [Bool.and_eq_false_iff]
   right
   rw [List.all_eq_false]
   exact ⟨x,UC hx,by unfold K2; rw [h5]; decide⟩
  ·refine ⟨⟨by omega,by omega⟩,⟨i + 1,rfl,h4,λy hy=>?_,e6.trans e5⟩,bK h4⟩
   rw [UI,hx] at hy
   rcases UF.1 hy with hy | hy
   ·exact hme y hy
   ·simp at hy; subst hy; unfold K2; rw [h5]; rfl
 have h4:i = M:=by have:=Uy h4; omega
 subst h4
 rw [UX (by omega)] at hme
 have h:=h.eq e5
 have hok:yd es ow = true:=by
  unfold yd
  rw [h2,hMl,hN]
  simp
  exact hme
 refine ⟨_,_,_,(ag 1 h.l).cell0 (sub.refl _),⟨by omega,rfl,by omega⟩,?_⟩
 -- from here on what there is stays as it is
 have hall:=St.all w5
 refine af hall λbs w7 h7=>af h7 λks w8 h8=>bC h8 (by simp) λw9 h9=>?_
 have c1:∀ {u:Ws} {v:List Value} {L' : List au} {b:Nat},Gr w5 u->u.cell? (aM ke) = some (.slice a i c):=λg=>(ag 1 h.l).cell0 g
 refine ⟨_,_,_,c1 (v:=[]) (L':=[]) (b:=0) h9.tail.tail.has,⟨by omega,rfl,by omega⟩,af h9 λbo w10 h10=>af h10 λko w11 h11=>bC h11 (by simp) λw12 h12=>?_⟩
 refine ⟨_,_,_,c1 (v:=[]) (L':=[]) (b:=0) h12.tail.tail.tail.tail.has,?_⟩
 have hre5:aX (hp w5) es a i:=by rw [e5]; exact hre
 have hro5:aX (hp w5) ow oa i:=by rw [e5]; exact hro
 have C:Ta es ow (hp w5) ke kn i a oa c oc:=⟨ag 1 h.l,ag 0 h.l,hre5,hro5,by rw [e5]; exact fp.mono (g2.trans g4) ht,hB,hO,hb,λx hx=>Gk.1 (hme x hx)⟩
 have hR:=AG.1 h2
 have hst:St w12 ([K1 es ow ks bs ko bo i [],has (hp w5)] ++ []):=by
  have q1:lD (Int.toNat (i:Int)) [vP none] = JF (List.replicate i none):=by rw [jr]; simp [JF]
  have q2:lD (Int.toNat (i:Int)) [vS none 0 0] = (List.replicate i (((none,0),[]):Ls)).map AB:=by rw [jr]; simp [AB]
  rw [q1,q2] at h12
  have h13:=(St.flat (M:=xr [])).2 (Aa (A:=xq ((none,0),[])) (λw L h=>az 1 h) i h12)
  have q3:List.replicate i (xq ((none,0),[])) = (List.replicate i (((none,0),[]):Ls)).map xq:=by simp
  rw [q3] at h13
  exact vQ.2 ⟨_,_,[],⟨by simp,by simp,rfl,λk g b B hk=>by simp at hk⟩,h13.pick 7 [4,5,2,3,1,0,6]⟩
 refine (R3 (Q:=λgs=>[K1 es ow ks bs ko bo i gs,has (hp w5)]) (L:=[]) rfl (R4 hR C) (λgs hh hs=>hre5.mono (bj 1 hs)) hR hB hb hst).mono ?_
 rintro _ w13 ⟨rfl,gs,hG,hall2,h⟩
 obtain ⟨sets,ps,gr,hF,h⟩:=vQ.1 h
 refine ⟨rfl,_,_,_,(ag 2 h.l).cell0 (sub.refl _),.inr ⟨hok,bo,ps,⟨by rw [hF.lp,hN],λv hv=>?_⟩,rfl,?_⟩⟩
 ·have hvf:=(hall2 v).2 (by omega)
  obtain ⟨g,hg,hvg⟩:=List.mem_flatten.1 hvf
  obtain ⟨k,hk⟩:=Vf hg
  obtain ⟨⟨b,B⟩,hb2⟩ : ∃ y,gr[k]? = some y:=⟨gr[k]'(by rw [hF.lg]; exact (UA.1 hk).1),UB _⟩
  obtain ⟨_,q2,p,q3,q4⟩:=hF.st k g b B hk hb2 v hvg
  exact ⟨B,p,q2,q3,q4⟩
 ·have h:=h.pick 7 [3,4,6]
  have h:=dR (sz:=1) (l:=i) (c:=i) (cs:=[]) (by rw [U3]; exact h) (by simp [hF.lp]) (by simp [hF.lp]) (US _)
  have g5:Gr w w5:=(g2.trans g4).trans (Gr.of_eq e5)
  exact ((h.pick 3 [2,0,1]).head (B:=has (hp w)) λhh hs=>sub.trans g5 hs).pick 3 [1,2,0]
end Go.Proofs.YtndaepmjkbmjmaaGreatDoor

namespace Go.V
section
variable {es ow:List (List Int)}
open Classical in
noncomputable def qN (es ow:List (List Int)) (v:Nat):List Int:=cd 1024 λx=>decide (i_ es ow v x)
noncomputable def xt (es ow:List (List Int)):List (List Int):=(List.range es.length).map (qN es ow)
theorem vR:(xt es ow).length = es.length:=by unfold xt; simp
theorem Gl {v:Nat} (h:v < es.length):(xt es ow)[v]? = some (qN es ow v):=by unfold xt; simp [h]
theorem AJ {v:Nat} {z:Int}:z∈qN es ow v↔∃ x:Nat,z = x/\x < 1024/\i_ es ow v x:=by
 unfold qN; rw [ju]; simp
theorem ye {v:Nat}:jO (qN es ow v):=nE _ _
theorem H_ {v:Nat}:(qN es ow v).length<=1024:=jv _ _
theorem i_.iff {v x:Nat}:i_ es ow v x↔(x:Int)∈ow.getD v []\/∃ m∈En es v,i_ es ow m x:=by
 constructor
 ·rintro ⟨u,h,hx⟩
  cases h with
  | refl=>exact .inl hx
  | step h1 h2=>exact .inr ⟨_,h1,_,h2,hx⟩
 ·rintro (h | ⟨m,h1,u,h2,hx⟩)
  ·exact ⟨v,.refl v,h⟩
  ·exact ⟨u,.step h1 h2,hx⟩
theorem i_.least {Q:Nat->Nat->Prop} (h1:∀ v x:Nat,(x:Int)∈ow.getD v []->Q v x) (h2:∀ v m x:Nat,m∈En es v->Q m x->Q v x) {v x:Nat} (h:i_ es ow v x):Q v x:=by
 obtain ⟨u,h,hx⟩:=h
 induction h with
 | refl a=>exact h1 a x hx
 | step ha hb ih=>exact h2 _ _ _ ha (ih hx)
theorem JH (B:List Bool):fG B = cd B.length (cj B):=by
 unfold fG cd
 rfl
theorem uw {n:Nat} {f f' : Nat->Bool} (h:∀ k,k < n->f k = f' k):cd n f = cd n f':=by
 unfold cd
 rw [VZ λk hk=>h k (U8.1 hk)]
open Classical in
theorem NH.row {v:Nat} {B:List Bool} (h:NH es ow v B):fG B = qN es ow v:=by
 rw [JH,h.ln]
 unfold qN
 refine uw λk hk=>?_
 have:=h.fn k
 cases hb:cj B k with
 | true=>rw [hb] at this; exact (U4 (this.1 rfl).2).symm
 | false=>rw [hb] at this; exact (U5 λhh=>by have:=this.2 ⟨hk,hh⟩; cases this).symm
theorem JG.rows {ps:List Ls} (h:JG es ow ps):ps.map (·.2) = xt es ow:=by
 apply Vq
 intro v
 by_cases hv:v < es.length
 ·obtain ⟨B,p,q1,q2,q3⟩:=h.2 v hv
  rw [UD,q2,Gl hv]
  simp only [VM]
  rw [q3,q1.row]
 ·rw [UW (by rw [UH,h.1]; omega),UW (by rw [vR]; omega)]
theorem R5 {rs:List (List Int)} (hl:rs.length = es.length) (h:∀ (v:Nat) row,rs[v]? = some row->jO row/\∀ z,z∈row↔∃ x:Nat,z = x/\x < 1024/\i_ es ow v x):rs = xt es ow:=by
 apply Vq
 intro v
 by_cases hv:v < es.length
 ·have hr:rs[v]? = some (rs[v]'(by omega)):=UB _
  obtain ⟨h1,h2⟩:=h v _ hr
  rw [hr,Gl hv,zf h1 ye λz=>(h2 z).trans AJ.symm]
 ·rw [UW (by omega),UW (by rw [vR]; omega)]
end
section
variable {g:ae} {nn nn' : List Bool} {ss ss' : List SQ}
def BO (g:ae) (ss:List SQ):List (List Int):=(bG g ss).map (iD g ss)
noncomputable def OO (g:ae) (nn:List Bool) (ss:List SQ):List (List Int):=xt (Ax g nn ss) (BO g ss)
noncomputable def JI (g:ae) (nn:List Bool) (ss:List SQ):List (List Int):=xt (yN g nn ss) (OO g nn ss)
theorem JJ (h:bm ss = bm ss'):BO g ss = BO g ss':=by
 unfold BO; rw [qB h]; exact VO λt _=>M_ h t
theorem NK (h:bm ss = bm ss'):OO g nn ss = OO g nn ss':=by unfold OO; rw [JB h,JJ h]
theorem R6 (h:bm ss = bm ss'):JI g nn ss = JI g nn ss':=by unfold JI; rw [JC h,NK h]
theorem Gm:(Ax g nn ss).length = (bG g ss).length:=by unfold Ax; simp
theorem Gn:(yN g nn ss).length = (bG g ss).length:=by unfold yN; simp
theorem NL:(BO g ss).length = (bG g ss).length:=by unfold BO; simp
theorem P8:(OO g nn ss).length = (bG g ss).length:=by unfold OO; rw [vR,Gm]
theorem P9:(JI g nn ss).length = (bG g ss).length:=by unfold JI; rw [vR,Gn]
structure eI where
 st:Int
 prod:Int
 tm:List Int
deriving DecidableEq
instance:Inhabited eI:=⟨⟨0,0,[]⟩⟩
open Classical in
noncomputable def lh (g:ae) (fs:List (List Int)) (b:iP):eI:=⟨b.st,b.prod,cd g.T λx=>decide (∃ t∈b.tr,(x:Int)∈fs.getD t.toNat [])⟩
noncomputable def cf (g:ae) (nn:List Bool) (ss:List SQ):List eI:=(oh g ss).map (lh g (JI g nn ss))
theorem CJ (h:bm ss = bm ss'):cf g nn ss = cf g nn ss':=by unfold cf; rw [JD h,R6 h]
end
section
variable {g:ae} {nn:List Bool} {ss:List SQ}
theorem Tb (hc:aq g):∃ nn,uf g nn:=by
 refine ⟨(List.range g.N).map λi=>@decide (Nf g ((g.T + i:Nat):Int)) (Classical.propDecidable _),by simp,λi=>?_⟩
 unfold cj
 rw [UN,UD]
 by_cases hi:i < g.N
 ·rw [VN hi]
  simp
 ·rw [UW (by simp; omega)]
  simp only [Option.map_none,Option.getD_none,Wa,false_iff]
  intro h
  have:((g.T + i:Nat):Int) < g.T + g.N:=by
   cases hs:((g.T + i:Nat):Int) with
   | ofNat n =>
    rw [hs] at h
    generalize hz:(Int.ofNat n) = z at h
    cases h with
    | mk p hp _ =>
     have:=(TR (.inr hc)).1 p hp |>.1
     omega
   | negSucc n=>omega
  omega
structure Gp (F:ae->List Bool->List SQ->List (List Int)):Prop where
 es:∀ {g nn ss ss'},bm ss = bm ss'->F g nn ss = F g nn ss'
 ln:∀ {g nn ss},(F g nn ss).length = (bG g ss).length
def yf (F:ae->List Bool->List SQ->List (List Int)) (g:ae) (w:Ws) (v:Value) (w' : Ws):Prop:=∃ (ss:List SQ) (ask int f:Int) (nn:List Bool) (o:Wr) (c:Nat) (ds:List (Lq Int)),v = .tuple #[.slice o ds.length c,.int .i64 f]/\rK g ss ask int f/\(f = 0->uf g nn)/\ds.map (·.2) = F g nn ss/\St w' (own 1 o ds.length c (ds.map cF) :: aT (ds.map (b_ 1 iv)) :: all w)
theorem Gp.nil {F:ae->List Bool->List SQ->List (List Int)} (h:Gp F):F g nn [] = []:=by
 have:=h.ln (g:=g) (nn:=nn) (ss:=[])
 exact UL (by rw [this]; simp [bG,rM])
theorem R7:Gp λg _ ss=>BO g ss:=⟨λh=>JJ h,NL⟩
theorem R8:Gp Ax:=⟨λh=>JB h,Gm⟩
theorem R9:Gp yN:=⟨λh=>JC h,Gn⟩
theorem Tc:Gp OO:=⟨λh=>NK h,P8⟩
theorem rK.nil {a i f:Int} (h:rK g ss a i f) (hf:f≠0):ss = []:=by
 rcases h with ⟨_,e,_⟩ | ⟨_,_,e,_⟩ | ⟨_,_,_,_,e⟩ <;> first | exact e | exact absurd e hf
theorem P_ (hc:aq g) (hA:dh g ss) {l:List Int} (hl:l∈BO g ss):l.length<=66/\jO l/\∀ z∈l,0<=z/\z < g.T:=by
 obtain ⟨t,ht,rfl⟩:=UU.1 hl
 obtain ⟨hT,hN,_⟩:=hc.gB
 obtain ⟨i,q,k,e,hi,hq,he,hge,rfl⟩:=jg ht
 obtain ⟨_,_,j,r,hj,hj1,hr,hrk,_⟩:=kS hc hA hq he
 rw [FZ (j:=j) (q:=r) (by rw [<- hj]; exact An hA hq he) hr,PT hc hA hr]
 refine ⟨?_,nE _ _,λz hz=>?_⟩
 ·have:=jv g.T (RO g ss ⟨(i:Int),e.sym⟩ j)
  unfold cd at this
  omega
 ·obtain ⟨n,rfl,h1,_⟩:=ju.1 (show z∈cd g.T (RO g ss ⟨(i:Int),e.sym⟩ j) from hz)
  omega
theorem CK {n:Nat} {f:Nat->Nat->Bool}:iZ ((List.range n).map λi=>cd n (f i)) = true:=by
 rw [AG]
 intro l hl x hx
 obtain ⟨i,_,rfl⟩:=UU.1 hl
 obtain ⟨k,rfl,h1,_⟩:=ju.1 hx
 simp; omega
theorem JK {es ow:List (List Int)} {l:List Int} (h:l∈xt es ow):l.length<=1024/\jO l/\∀ z∈l,0<=z/\z < 1024:=by
 unfold xt at h
 obtain ⟨v,_,rfl⟩:=UU.1 h
 refine ⟨H_,ye,λz hz=>?_⟩
 obtain ⟨x,rfl,h1,_⟩:=AJ.1 hz
 omega
end
end Go.V
namespace Go.Proofs.YtndaepmjkbmjmaaGreatDoor
variable {w:Ws} {L:List au} {g:ae} {x:GA}
theorem AK {f1 f2:FuncId} {E O:ae->List Bool->List SQ->List (List Int)} (hE:Gp E) (hO:Gp O) (hf1:Fn f1 = true) (hf2:Fn f2 = true) (hg:gR (hp w) g x) (ht:dG (hp w))
  (C1:∀ u,Gr w u->ay Tryz.prog f1 [.agg ⟨x.cells⟩] u (yf O g u)) (C2:∀ u,Gr w u->ay Tryz.prog f2 [.agg ⟨x.cells⟩] u (yf E g u))
  (hOb:∀ {nn ss},aq g->dh g ss->∀ l∈O g nn ss,l.length<=33280/\∀ z∈l,0<=z/\z < 1024) (hEb:∀ {nn ss},aq g->dh g ss->iZ (E g nn ss) = true/\∀ l∈E g nn ss,l.length<=33280) :
  ay Tryz.prog oz [.agg #[.func (.func f1) #[] #[],.func (.func f2) #[] #[]],.agg ⟨x.cells⟩] w (yf (λg nn ss=>xt (E g nn ss) (O g nn ss)) g w):=by
 refine mD (af (St.all w) λk1 w1 h=>?_)
 have g01:Gr w w1:=h.aR
 have r1:av (hp w1) (aM k1) _:=ag 0 h.l
 clear h
 refine cQ (hg.mono g01) λk2 w2 g12 hg2 B=>?_
 have g02:Gr w w2:=g01.trans g12
 refine ⟨_,_,r1.cell g12 (j:=0) rfl,_,_,_,_,_,_,_,_,_,_,_,_,_,B.row (sub.refl _),bz.2 ⟨hf1,(C1 w2 g02).mono ?_⟩⟩
 rintro _ w3 ⟨ss,ask,int,f,nn,o,c,ds,rfl,hR,hn,hds,h⟩
 have g23:Gr w2 w3:=bj 2 h.l
 have g03:=g02.trans g23
 refine ⟨_,_,_,_,rfl,aa (λh1=>?_) λh1=>?_⟩
 ·have h1:f≠0:=by simpa using h1
  have hz:=hR.nil h1
  subst hz
  refine ⟨[],ask,int,f,nn,none,0,[],rfl,hR,hn,?_,az 1 ((St.flat (M:=[])).2 (St.here g03))⟩
  show [] = xt (E g nn []) (O g nn [])
  rw [hE.nil,hO.nil]; rfl
 have h1:f = 0:=by simpa using h1
 subst h1
 obtain ⟨hc,hA⟩:=hR.FW rfl
 have hnn:=hn rfl
 have rO:=RV h
 rw [hds] at rO
 have hdl:ds.length = (bG g ss).length:=by have:=congrArg List.length hds; rw [UH,hO.ln] at this; exact this
 have hnl:=qF hc hA
 clear h
 refine ⟨_,_,r1.cell (g12.trans g23) (j:=1) rfl,_,_,_,_,_,_,_,_,_,_,_,_,_,B.row g23,bz.2 ⟨hf2,(C2 w3 g03).mono ?_⟩⟩
 rintro _ w4 ⟨ss2,ask2,int2,f2',nn2,o2,c2,ds2,rfl,hR2,hn2,hds2,h⟩
 have g34:Gr w3 w4:=bj 2 h.l
 have g04:=g03.trans g34
 obtain ⟨ef,hes⟩ : f2' = 0/\bm ss = bm ss2:=by
  obtain ⟨e1,e2,_⟩:=hR.one hR2
  exact ⟨by omega,e2⟩
 subst ef
 have en:=(hn2 rfl).inj hnn
 subst en
 rw [<- hE.es hes] at hds2
 have rE2:=RV h
 rw [hds2] at rE2
 have hdl2:ds2.length = (bG g ss).length:=by have:=congrArg List.length hds2; rw [UH,hE.ln] at this; exact this
 clear h
 obtain ⟨q1,q2⟩:=hEb (nn:=nn2) hc hA
 have q3:=hOb (nn:=nn2) hc hA
 refine ⟨_,_,_,_,rfl,aa (λh1=>by simp at h1) λ_=>?_⟩
 refine (P7 rE2 (rO.mono g34) (fp.mono g04 ht) (λl hl=>by have:=q2 l hl; omega) (λl hl=>by have:=(q3 l hl).1; omega) (by omega) (by omega)).mono ?_
 have hok:yd (E g nn2 ss) (O g nn2 ss) = true:=by
  unfold yd
  rw [q1,hO.ln,hE.ln,Bool.true_and]
  simp only [beq_self_eq_true,Bool.true_and,V3]
  exact λl hl=>Gk.2 (q3 l hl).2
 rintro _ w5 (⟨h1,_⟩ | ⟨_,bo,ps,hps,rfl,h⟩)
 ·rw [hok] at h1; cases h1
 have hpl:ps.length = ds2.length:=by rw [hps.1,hE.ln,hdl2]
 refine ⟨_,_,_,_,rfl,ss,ask,int,0,nn2,some ⟨bo,0,none⟩,ds2.length,ps,by rw [hpl],hR,hn,JG.rows hps,?_⟩
 rw [hpl]
 exact St.IV h (bY g04)
variable {w:Ws} {L:List au} {g:ae} {x:GA}
theorem yg:ay Tryz.prog xk [] w λv w'=>∃ k:Nat,v = .slice (some (aM k)) 2 2/\St w' (aS k [.func (.func kT) #[] #[],.func (.func kZ) #[] #[],.func (.func qG) #[] #[],.func (.func iE) #[] #[]] :: all w) :=
 um (af (St.all w) λk1 w1 h=>⟨k1,rfl,h⟩)
theorem NM (hg:gR (hp w) g x) (hb:iK g):ay Tryz.prog kT [.agg ⟨x.cells⟩] w (yf (λg _ ss=>BO g ss) g w):=by
 refine (HT hg hb).mono ?_
 rintro _ w1 ⟨ss,ask,int,f,o,c,ds,rfl,hR,hds,h⟩
 by_cases hf:f = 0
 ·obtain ⟨nn,hn⟩:=Tb (hR.FW hf).1
  exact ⟨ss,ask,int,f,nn,o,c,ds,rfl,hR,λ_=>hn,hds,h⟩
 ·exact ⟨ss,ask,int,f,[],o,c,ds,rfl,hR,λh=>absurd h hf,hds,h⟩
theorem Qa (hg:gR (hp w) g x) (hb:iK g) (ht:dG (hp w)):ay Tryz.prog kZ [.agg ⟨x.cells⟩] w (yf Ax g w):=PZ hg hb ht
theorem Ia (hg:gR (hp w) g x) (hb:iK g) (ht:dG (hp w)):ay Tryz.prog iE [.agg ⟨x.cells⟩] w (yf yN g w):=H7 hg hb ht
theorem K3 (hg:gR (hp w) g x) (hb:iK g) (ht:dG (hp w)):ay Tryz.prog qG [.agg ⟨x.cells⟩] w (yf OO g w):=by
 refine xm (cQ hg λk1 w1 gw hg1 B=>?_)
 intro w2 hd
 have g12:Gr w1 w2:=Gr.of_eq (aE hd)
 refine ⟨λu=>Gr w1 u,g12,_,_,_,_,_,_,_,_,_,_,_,_,_,λu g=>B.row g,yg.mono ?_⟩
 rintro _ w3 ⟨k,rfl,h⟩
 have g23:Gr w2 w3:=bj 1 h.l
 have g13:=g12.trans g23
 have r:av (hp w3) (aM k) _:=ag 0 h.l
 clear h
 have gw3:Gr w w3:=sub.trans gw g13
 refine ⟨_,_,_,rfl,λu=>Gr w3 u,Gr.refl _,λu g=>g13.trans g,ak (i:=0) rfl (by decide) ⟨_,_,_,_,λu g=>(r.part 0 2).at g rfl,?_⟩⟩
 refine (AK R8 R7 rfl rfl (hg1.mono g13) (fp.mono gw3 ht) (λu g=>NM (hg1.mono (g13.trans g)) hb) (λu g=>Qa (hg1.mono (g13.trans g)) hb (fp.mono (sub.trans gw3 g) ht)) (λhc hA l hl=>?_) λhc hA=>⟨CK,λl hl=>?_⟩).mono ?_
 ·obtain ⟨h1,_,h2⟩:=P_ hc hA hl
  obtain ⟨hT,_⟩:=hc.gB
  exact ⟨by omega,λz hz=>by have:=h2 z hz; omega⟩
 ·unfold Ax at hl
  obtain ⟨j,_,rfl⟩:=UU.1 hl
  exact U7 (jv _ _) (qF hc hA)
 ·rintro _ w4 ⟨ss,ask,int,f,nn,o,c,ds,rfl,hR,hn,hds,h⟩
  exact ⟨_,_,_,_,rfl,bj 2 h.l,ss,ask,int,f,nn,o,c,ds,rfl,hR,hn,hds,St.IV h (bY gw3)⟩
theorem Gq (hg:gR (hp w) g x) (hb:iK g) (ht:dG (hp w)):ay Tryz.prog xj [.agg ⟨x.cells⟩] w (yf JI g w):=by
 refine uj (cQ hg λk1 w1 gw hg1 B=>?_)
 intro w2 hd
 have g12:Gr w1 w2:=Gr.of_eq (aE hd)
 refine ⟨λu=>Gr w1 u,g12,_,_,_,_,_,_,_,_,_,_,_,_,_,λu g=>B.row g,yg.mono ?_⟩
 rintro _ w3 ⟨k,rfl,h⟩
 have g23:Gr w2 w3:=bj 1 h.l
 have g13:=g12.trans g23
 have r:av (hp w3) (aM k) _:=ag 0 h.l
 clear h
 have gw3:Gr w w3:=sub.trans gw g13
 refine ⟨_,_,_,rfl,λu=>Gr w3 u,Gr.refl _,λu g=>g13.trans g,ak (i:=1) rfl (by decide) ⟨_,_,_,_,λu g=>(r.part 1 2).at g rfl,?_⟩⟩
 refine (AK R9 Tc rfl rfl (hg1.mono g13) (fp.mono gw3 ht) (λu g=>K3 (hg1.mono (g13.trans g)) hb (fp.mono (sub.trans gw3 g) ht)) (λu g=>Ia (hg1.mono (g13.trans g)) hb (fp.mono (sub.trans gw3 g) ht)) (λhc hA l hl=>?_) λhc hA=>⟨CK,λl hl=>?_⟩).mono ?_
 ·obtain ⟨h1,_,h2⟩:=JK hl
  exact ⟨by omega,h2⟩
 ·unfold yN at hl
  obtain ⟨j,_,rfl⟩:=UU.1 hl
  exact U7 (jv _ _) (qF hc hA)
 ·rintro _ w4 ⟨ss,ask,int,f,nn,o,c,ds,rfl,hR,hn,hds,h⟩
  exact ⟨_,_,_,_,rfl,bj 2 h.l,ss,ask,int,f,nn,o,c,ds,rfl,hR,hn,hds,St.IV h (bY gw3)⟩
end Go.Proofs.YtndaepmjkbmjmaaGreatDoor
namespace Go.V
section
variable {g:ae} {nn:List Bool} {ss:List SQ}
theorem Ei {b:iP} (h:b∈oh g ss):∃ q m:Nat,q < ss.length/\m < g.prods.length/\b = ⟨(q:Int),(m:Int),cd (bG g ss).length (dS g ss q m)⟩/\cd (bG g ss).length (dS g ss q m)≠[]:=by
 unfold oh at h
 obtain ⟨q,hq,h⟩:=VP.1 h
 unfold eH at h
 obtain ⟨m,hm,h⟩:=VP.1 h
 unfold qC at h
 split at h
 ·simp at h
 ·rename_i hne
  rw [U2] at h
  exact ⟨q,m,U8.1 hq,U8.1 hm,h,hne⟩
theorem R_ {b:iP} (h:b∈oh g ss) {t:Int} (ht:t∈b.tr):∃ j:Nat,t = j/\j < (bG g ss).length:=by
 obtain ⟨q,m,_,_,rfl,_⟩:=Ei h
 obtain ⟨j,rfl,h1,_⟩:=ju.1 ht
 exact ⟨j,rfl,h1⟩
theorem JL (hc:aq g) (hA:dh g ss):(oh g ss).length<=24832/\∀ b∈oh g ss,b.tr.length<=33280:=by
 refine ⟨?_,λb hb=>?_⟩
 ·have h1:=vI g ss ss.length
  have h256:=hA.dn.2.1
  obtain ⟨sT,sN,sP,_⟩:=hc.gB
  have h2:ss.length * g.prods.length<=256 * 97:=Nat.mul_le_mul h256 sP
  show (Az g ss ss.length).length<=_
  omega
 ·obtain ⟨q,m,_,_,rfl,_⟩:=Ei hb
  exact U7 (jv _ _) (qF hc hA)
def qO (b:k_):eI:=⟨b.1.1,b.1.2,b.2.2⟩
def Qb (g:ae) (fs:List (List Int)) (tr:List Int) (B:List Bool):Prop:=B.length = g.T/\∀ y,cj B y = true↔y < g.T/\∃ t∈tr,(y:Int)∈fs.getD t.toNat []
theorem Qb.nil (hT:g.T<=1024) (fs:List (List Int)):Qb g fs [] (Bz (g.T:Int) []):=by
 have e:GW (g.T:Int) = g.T:=Pa hT
 refine ⟨by rw [Pf,e],λy=>?_⟩
 unfold Bz
 rw [gE]; unfold fL
 rw [vb]; simp
theorem Qb.snoc {fs:List (List Int)} {tr row:List Int} {t:Int} {B:List Bool} (h:Qb g fs tr B) (hr:fs.getD t.toNat [] = row):Qb g fs (tr ++ [t]) (dm B row):=by
 refine ⟨by rw [bF]; exact h.1,λy=>?_⟩
 rw [gE]; unfold fL
 rw [VH,UT,UO,h.2,h.1,V1]
 constructor
 ·rintro (⟨h1,t',h2,h3⟩ | ⟨h1,h2⟩)
  ·exact ⟨h1,t',by simp [h2],h3⟩
  ·exact ⟨h1,t,by simp,by rw [hr]; exact h2⟩
 ·rintro ⟨h1,t',h2,h3⟩
  rcases UF.1 h2 with h2 | h2
  ·exact .inl ⟨h1,t',h2,h3⟩
  ·rw [U2] at h2
   subst h2
   exact .inr ⟨h1,by rw [<- hr]; exact h3⟩
open Classical in
theorem Qb.row {fs:List (List Int)} {b:iP} {B:List Bool} (h:Qb g fs b.tr B):lh g fs b = ⟨b.st,b.prod,fG B⟩:=by
 unfold lh
 rw [JH,h.1]
 congr 1
 refine uw λk hk=>?_
 have:=h.2 k
 cases hb:cj B k with
 | true=>rw [hb] at this; exact U4 (this.1 rfl).2
 | false=>rw [hb] at this; exact U5 λhh=>by have:=this.2 ⟨hk,hh⟩; cases this
theorem Ib:(cf g nn ss).length = (oh g ss).length:=by unfold cf; simp
end
end Go.V
namespace Go.Proofs.YtndaepmjkbmjmaaGreatDoor
variable {w:Ws} {L:List au} {g:ae} {x:GA}
theorem Sa (hg:gR (hp w) g x) (hb:iK g) (ht:dG (hp w)):ay Tryz.prog Gf [.agg ⟨x.cells⟩] w λv w'=>∃ (ss:List SQ) (ask int f:Int) (nn:List Bool) (o:Wr) (c:Nat) (ds:List k_),v = .tuple #[.slice o ds.length c,.int .i64 f]/\rK g ss ask int f/\(f = 0->uf g nn)/\ds.map qO = cf g nn ss/\St w' (own 3 o ds.length c (eh ds) :: aT (uE ds) :: all w):=by
 refine BN (cQ hg λk1 w1 gw hg1 B=>?_)
 have zero:∀ {ss:List SQ} {ask int f:Int} {w' : Ws},rK g ss ask int f->f≠0->Gr w w'->∃ (ss:List SQ) (ask int f' : Int) (nn:List Bool) (o:Wr) (c:Nat) (ds:List k_),(.tuple #[.slice none 0 0,.int .i64 f] : Value) = .tuple #[.slice o ds.length c,.int .i64 f']/\rK g ss ask int f'/\(f' = 0->uf g nn)/\ds.map qO = cf g nn ss/\St w' (own 3 o ds.length c (eh ds) :: aT (uE ds) :: all w):=λ{ss ask int f w'} hR h1 hw=>by
  have hz:=hR.nil h1
  subst hz
  exact ⟨[],ask,int,f,[],none,0,[],rfl,hR,λh=>absurd h h1,rfl,az 3 ((St.flat (M:=[])).2 (St.here hw))⟩
 refine ⟨_,_,_,_,_,_,_,_,_,_,_,_,_,B.row (sub.refl _),(Gq hg1 hb (fp.mono gw ht)).mono ?_⟩
 rintro _ w2 ⟨ss,ask,int,f,nn,o,c,fs,rfl,hR,hn,hfs,h⟩
 have g12:Gr w1 w2:=bj 2 h.l
 refine ⟨_,_,_,_,rfl,aa (λh1=>zero hR (by simpa using h1) (gw.trans g12)) λh1=>?_⟩
 have h1:f = 0:=by simpa using h1
 subst h1
 obtain ⟨hc,hA⟩:=hR.FW rfl
 have hnn:=hn rfl
 have rF:=RV h
 rw [hfs] at rF
 have hfl:fs.length = (bG g ss).length:=by have:=congrArg List.length hfs; rw [UH,P9] at this; exact this
 rw [hfl] at rF ⊢
 have hnl:=qF hc hA
 clear h hfs
 refine ⟨_,_,_,_,_,_,_,_,_,_,_,_,_,B.row g12,(H8 (hg1.mono g12) hb (fp.mono (gw.trans g12) ht)).mono ?_⟩
 rintro _ w3 ⟨ss2,ask2,int2,f2,o2,c2,ds2,rfl,hR2,hds2,h⟩
 have g23:Gr w2 w3:=bj 2 h.l
 obtain ⟨_,hes,_,_,ef,_⟩:=hR.one hR2
 subst ef
 rw [<- JD hes] at hds2
 have rB:=TU h
 rw [hds2] at rB
 have hdl:ds2.length = (oh g ss).length:=by have:=congrArg List.length hds2; rw [UH] at this; exact this
 rw [hdl] at rB ⊢
 clear h hds2
 obtain ⟨hbl,htl⟩:=JL hc hA
 obtain ⟨sT,_⟩:=hc.gB
 have g13:=g12.trans g23
 have gw3:Gr w w3:=gw.trans g13
 have rF:=rF.mono g23
 have tl:=hg.t.1
 refine ⟨_,_,_,_,rfl,aa (λh1=>by simp at h1) λ_=>?_⟩
 refine ⟨λo n c z w'=>∃ (i:Nat) (bs:List k_),z = i/\i<=(oh g ss).length/\n = bs.length/\bs.map qO = ((oh g ss).take i).map (lh g (JI g nn ss))/\St w' (own 3 o n c (eh bs) :: aT (uE bs) :: all w3),λ_ _ _ z _=>(oh g ss).length - z.toNat,
  ⟨0,[],rfl,UM _,rfl,rfl,az 3 ((St.flat (M:=[])).2 (St.all w3))⟩,?_⟩
 rintro _ o4 _ c4 _ w4 ⟨i,bs,rfl,hi,rfl,hbs,h⟩
 have s34:sub (hp w3) (hp w4):=bj 2 h.l
 have hbsl:bs.length = i:=by have:=congrArg List.length hbs; rw [UH,UH,U0] at this; omega
 refine aa (λh1=>?_) λh1=>?_
 rotate_left
 ·have h1:i = (oh g ss).length:=by have:=Uy h1; omega
  rw [h1,UZ] at hbs
  refine gU (fh (dj h) ⟨_,_,_,rfl,ss,ask,int,0,nn,_,_,bs,rfl,hR,hn,hbs,?_⟩)
  have h:=ff h
  exact St.IV h (bY gw3)
 have h1:i < (oh g ss).length:=by have:=Uz h1; omega
 obtain ⟨b,ad,ta,tc,hb1,rfl,rb,rt⟩:=Nx rB h1
 have hbm:=UC hb1
 have htb:=htl b hbm
 refine ak rfl h1 ⟨_,_,_,_,_,rb.at s34 rfl,af h λkb w5 h=>aI h rfl (by simp [aH]) λw6 h=>?_⟩
 have s36:sub (hp w3) (hp w6):=bj 3 h.l
 refine ⟨_,_,_,B.c0 (sub.trans g13 s36),?_⟩
 rw [<- tl]
 refine (Ru (xs:=[]) (l:=0) (a:=none) (g.T:Int) aX.nil (by omega)).mono ?_
 rintro _ w7 ⟨kp,rfl,h7⟩
 have h:=h7.u6 h
 clear h7
 refine ⟨_,rfl,_,_,_,(ag 1 h.l).cell (sub.refl _) (j:=2) rfl,λz w'=>∃ (k:Nat) (Bs:List Bool),z = k/\k<=b.tr.length/\Qb g (JI g nn ss) (b.tr.take k) Bs/\St w' (dY (some ⟨kp,0,none⟩) Bs :: aS kb [.int .i64 b.st,.int .i64 b.prod,.slice ta b.tr.length tc] :: own 3 o4 bs.length c4 (eh bs) :: aT (uE bs) :: all w3),λz _=>b.tr.length - z.toNat,
  ⟨0,_,rfl,UM _,Qb.nil (by omega) _,h⟩,?_⟩
 clear h
 rintro _ _ w8 ⟨k,Bs,rfl,hk,hB,h⟩
 have s38:sub (hp w3) (hp w8):=bj 4 h.l
 refine aa (λh2=>?_) λh2=>?_
 ·have h2:k < b.tr.length:=by have:=Uz h2; omega
  obtain ⟨t,tad,ht1,hta,ht2⟩:=rt.dM h2
  obtain ⟨j,rfl,hj⟩:=R_ hbm (UC ht1)
  obtain ⟨row,rad,ra,rc,hr1,rfl,hr2,hr3⟩:=Nw rF hj
  have hrl:=(JK (es:=yN g nn ss) (ow:=OO g nn ss) (UC hr1)).1
  refine aB hta h2 ⟨_,ht2 _ s38,aB rfl hj ⟨_,_,_,hr2 _ s38,(Mm h (λhh hl=>hr3.mono (bj 3 hl)) (by omega)).mono ?_⟩⟩
  rintro _ w9 ⟨rfl,h⟩
  refine ⟨_,rfl,⟨by omega,by omega⟩,⟨k + 1,_,by simp,h2,?_,h⟩,bK h2⟩
  rw [cJ ht1]
  exact hB.snoc (by rw [U9,UN,hr1]; rfl)
 have h2:k = b.tr.length:=by have:=Uy h2; omega
 rw [h2,UZ] at hB
 intro w10 hd
 have h:=h.eq (aE hd)
 have rk:av (hp w10) (aM kb) _:=ag 1 h.l
 have hset:nm (hp w10) (some ⟨kp,0,none⟩) Bs:=by
  obtain ⟨g1,g2,_,s1,_,ha,_⟩:=h
  exact (DB ha).mono s1
 refine ⟨λu=>av (hp u) (aM kb) [.int .i64 b.st,.int .i64 b.prod,.slice ta b.tr.length tc],rk,_,λu r=>r.cell0 (sub.refl _),_,λu r=>r.cell (sub.refl _) (j:=1) rfl,(Co hset (fp.mono (sub.trans gw3 (bj 4 h.l)) ht)).mono ?_⟩
 rintro _ w13 ⟨a',c',rfl,h13⟩
 have h:=h13.u6 h
 clear h13
 refine ⟨_,_,_,rfl,ag 2 h.l,af h λkn w14 h=>⟨ag 3 h.l,?_⟩⟩
 refine (aW (us:=eh bs) aL (rfl:ah Ty _ = .slice _) (rfl:ah Ty _ = .slice _) rfl rfl rfl (h.pick 6 [0,4,1,2,3,5]) rfl (by simp [aH]) (by show (bs.length + 1) * 40<=_; omega) (by omega)).mono ?_
 rintro _ w15 ⟨o',c5,rfl,h⟩
 refine ⟨_,_,_,rfl,ag 4 h.l,⟨by omega,by omega⟩,⟨i + 1,bs ++ [((b.st,b.prod),((a',c'),fG Bs))],by simp,h1,by simp,?_,?_⟩,bK h1⟩
 ·rw [U1,hbs,UI,hb1,U1]
  show _ ++ [(⟨b.st,b.prod,fG Bs⟩ : eI)] = _ ++ [lh g (JI g nn ss) b]
  rw [hB.row]
 ·have e1:eh (bs ++ [((b.st,b.prod),((a',c'),fG Bs))]) = eh bs ++ [.int .i64 b.st,.int .i64 b.prod,.slice a' (bn Bs) c']:=by
   rw [JA]
   unfold eh RU cF
   simp [y_]
  have e2:uE (bs ++ [((b.st,b.prod),((a',c'),fG Bs))]) = uE bs ++ [own 1 a' (bn Bs) c' (iv (fG Bs))]:=by
   unfold uE b_
   simp [y_]
  rw [e1,e2]
  have h:=St.snoc (h.pick 6 [2,5,0,1,3,4])
  exact h.pick 6 [1,0,5]
end Go.Proofs.YtndaepmjkbmjmaaGreatDoor


namespace Go.V
instance:nQ eI:={ n:=3,rd:=λh x vs=>∃ (a:Wr) (c:Nat),vs = [.int .i64 x.st,.int .i64 x.prod,.slice a x.tm.length c]/\aX h x.tm a x.tm.length,mono:=λs ⟨a,c,e,r⟩=>⟨a,c,e,r.mono s⟩,len:=λ⟨_,_,e,_⟩=>by rw [e]; rfl }
def Qc (es ow:List (List Int)):Nat->Nat->Nat->Bool
 | 0,v,x=>(ow.getD v []).contains (x:Int)
 | k + 1,v,x=>(ow.getD v []).contains (x:Int) || (En es v).any λm=>Qc es ow k m x
theorem AM {es ow:List (List Int)} {x:Nat}:∀ k v,Qc es ow k v x = true->i_ es ow v x
 | 0,v,h=>i_.iff.2 (.inl (V1.1 h))
 | k + 1,v,h=>by
  rw [Qc,VH,V4] at h
  rcases h with h | ⟨m,h1,h2⟩
  ·exact i_.iff.2 (.inl (V1.1 h))
  ·exact i_.iff.2 (.inr ⟨m,h1,AM k m h2⟩)
def JM:List Int->Bool
 | []=>true
 | a :: l=>l.all (λb=>decide (a < b)) && JM l
theorem CM:∀ {l:List Int},JM l = true->jO l
 | [],_=>.nil
 | a :: l,h=>by
  rw [JM,UT,V3] at h
  exact .cons (λb hb=>Uz (h.1 b hb)) (CM h.2)
def Qd (es ow rs:List (List Int)) (K:Nat):Bool:=decide (rs.length = es.length) && decide (ow.length = es.length) && (List.range es.length).all λv=>JM (rs.getD v []) && (rs.getD v []).all (λz=>decide (0<=z) && decide (z < 1024) && Qc es ow K v z.toNat) && (ow.getD v []).all (λz=>(rs.getD v []).contains z) && (En es v).all λm=>(rs.getD m []).all λz=>(rs.getD v []).contains z
theorem JN {es ow rs:List (List Int)} {K:Nat} (h:Qd es ow rs K = true):rs = xt es ow:=by
 unfold Qd at h
 simp only [UT,UO,V3,U8,V1] at h
 obtain ⟨⟨h1,h2⟩,h3⟩:=h
 have key:∀ v x,i_ es ow v x->(x:Int)∈rs.getD v []:=λv x hh=>by
  refine i_.least (Q:=λv x=>(x:Int)∈rs.getD v []) (λv x hx=>?_) (λv m x hm hx=>?_) hh
  ·by_cases hv:v < es.length
   ·exact (h3 v hv).1.2 _ hx
   ·rw [UN,UW (by omega)] at hx
    simp at hx
  ·by_cases hv:v < es.length
   ·exact (h3 v hv).2 m hm _ hx
   ·unfold En at hm
    rw [UN,UW (by omega)] at hm
    simp at hm
 refine R5 h1 λv row hr=>?_
 have hv:v < es.length:=by rw [<- h1]; exact (UA.1 hr).1
 have e:rs.getD v [] = row:=by rw [UN,hr]; rfl
 obtain ⟨⟨⟨q1,q2⟩,_⟩,_⟩:=h3 v hv
 rw [e] at q1 q2
 refine ⟨CM q1,λz=>⟨λhz=>?_,?_⟩⟩
 ·obtain ⟨⟨q3,q4⟩,q5⟩:=q2 z hz
  exact ⟨z.toNat,by omega,by omega,AM K v q5⟩
 ·rintro ⟨x,rfl,_,hx⟩
  have:=key v x hx
  rwa [e] at this
def NN (g:ae) (fs:List (List Int)) (b:iP):eI:=⟨b.st,b.prod,cd g.T λx=>b.tr.any λt=>(fs.getD t.toNat []).contains (x:Int)⟩
open Classical in
theorem NO (g:ae) (fs:List (List Int)) (b:iP):lh g fs b = NN g fs b:=by
 unfold lh NN
 congr 1
 refine uw λk _=>?_
 rw [Vn,UO,V4]
 exact exists_congr λt=>and_congr_right λ_=>V1.symm
section
variable {g:ae} {ss:List SQ}
theorem CN {q m:Nat} {b:iP} (h:b∈qC g ss q m):b = ⟨(q:Int),(m:Int),cd (bG g ss).length (dS g ss q m)⟩/\cd (bG g ss).length (dS g ss q m)≠[]:=by
 unfold qC at h
 split at h
 ·simp at h
 ·rename_i hn
  rw [U2] at h
  exact ⟨h,hn⟩
theorem CO {q j:Nat} {b:iP}:b∈eH g ss q j↔∃ m,m < j/\cd (bG g ss).length (dS g ss q m)≠[]/\b = ⟨(q:Int),(m:Int),cd (bG g ss).length (dS g ss q m)⟩:=by
 unfold eH
 rw [VP]
 constructor
 ·rintro ⟨m,hm,h⟩
  obtain ⟨h1,h2⟩:=CN h
  exact ⟨m,U8.1 hm,h2,h1⟩
 ·rintro ⟨m,hm,h2,rfl⟩
  refine ⟨m,U8.2 hm,?_⟩
  unfold qC
  rw [UE h2]; simp
theorem AN (q:Nat):∀ j,jO ((eH g ss q j).map (·.prod))
 | 0=>by simp [eH,jO]
 | j + 1=>by
  rw [uh,U1]
  unfold jO
  rw [List.pairwise_append]
  refine ⟨AN q j,?_,λa ha b hb=>?_⟩
  ·unfold qC
   split <;> simp
  ·obtain ⟨x,hx,rfl⟩:=UU.1 ha
   obtain ⟨y,hy,rfl⟩:=UU.1 hb
   obtain ⟨m,hm,_,rfl⟩:=CO.1 hx
   obtain ⟨rfl,_⟩:=CN hy
   show (m:Int) < j
   omega
end
section
variable {g:ae} {nn:List Bool} {ss:List SQ} {w w' : Ws} {v:Value} {a i f:Int}
theorem K4 {fs:List (List Int)} {b:iP}:jO (lh g fs b).tm:=nE _ _
theorem NP {fs:List (List Int)} {b:iP}:(lh g fs b).tm.length<=g.T:=jv _ _
end
section
variable {n k i j:Nat} {f f0:Nat->List Int} {L:List au} {A:au} {w w' w0:Ws}
theorem Qe {l:List Int} (h:jO l):l.Nodup:=Vz.2 (h.imp λh e=>by omega)
theorem Ic {l:List Int} {B:Nat} (h:jO l) (hb:∀ z∈l,0<=z/\z < B):l.length<=B:=by
 have e:l = cd B λk=>decide ((k:Int)∈l):=by
  refine zf h (nE _ _) λz=>?_
  rw [ju]
  constructor
  ·intro hz
   have:=hb z hz
   exact ⟨z.toNat,by omega,by omega,by rw [UO,show ((z.toNat:Nat):Int) = z by omega]; exact hz⟩
  ·rintro ⟨k,rfl,_,hk⟩
   exact Uz hk
 rw [e]
 exact jv _ _
end
section
variable {α : Type} {k:α->Int} {l m:List α}
abbrev jG (k:α->Int) (l:List α):Prop:=l.Pairwise λx y=>k x<=k y
theorem fC:jG k (l ++ m)↔jG k l/\jG k m/\∀ x∈l,∀ y∈m,k x<=k y:=List.pairwise_append
theorem NQ (h:jG k l) {z:α} (hz:l.getLast? = some z):∀ x∈l,k x<=k z:=λx hx=>by
 obtain ⟨i,hi⟩:=Vf hx
 rw [Wn] at hz
 have h1:=(UA.1 hi).1
 by_cases e:i = l.length - 1
 ·subst e; rw [hi] at hz; cases hz; omega
 ·obtain ⟨h2,rfl⟩:=UA.1 hi
  obtain ⟨h3,rfl⟩:=UA.1 hz
  exact Wm.1 h i _ h2 h3 (by omega)
theorem NR (h:jG k l) {z:α} (hz:l.head? = some z):∀ x∈l,k z<=k x:=λx hx=>by
 cases l with
 | nil=>cases hx
 | cons a l =>
  cases hz
  rcases UR.1 hx with rfl | hx
  ·omega
  ·exact (VD.1 h).1 x hx
theorem rV (hl:jG k l) (hm:jG k m) (h:∀ x y,l.getLast? = some x->m.head? = some y->k x<=k y):∀ x∈l,∀ y∈m,k x<=k y:=λx hx y hy=>by
 obtain ⟨a,ha⟩ : ∃ a,l.getLast? = some a:=⟨_,List.getLast?_eq_some_getLast (List.ne_nil_of_mem hx)⟩
 obtain ⟨b,hb⟩ : ∃ b,m.head? = some b:=⟨_,List.head?_eq_some_head (List.ne_nil_of_mem hy)⟩
 have h1:=NQ hl ha x hx
 have h2:=NR hm hb y hy
 have h3:=h a b ha hb
 omega
theorem Ie {L1 L2 R1 R2 S1 S2:List α} (hL:jG k (L1 ++ L2)) (hR:jG k (R1 ++ R2)) (h1:∀ x y,L1.getLast? = some x->R2.head? = some y->k x<=k y) (h2:∀ x y,R1.getLast? = some x->L2.head? = some y->k x<=k y)
  (p1:S1.Perm (L1 ++ R1)) (s1:jG k S1) (p2:S2.Perm (L2 ++ R2)) (s2:jG k S2):jG k (S1 ++ S2)/\(S1 ++ S2).Perm ((L1 ++ L2) ++ (R1 ++ R2)):=by
 obtain ⟨a1,a2,a3⟩:=fC.1 hL
 obtain ⟨b1,b2,b3⟩:=fC.1 hR
 have c1:=rV a1 b2 h1
 have c2:=rV b1 a2 h2
 refine ⟨fC.2 ⟨s1,s2,λx hx y hy=>?_⟩,?_⟩
 ·rcases UF.1 (p1.mem_iff.1 hx) with hx | hx <;> rcases UF.1 (p2.mem_iff.1 hy) with hy | hy
  ·exact a3 x hx y hy
  ·exact c1 x hx y hy
  ·exact c2 x hx y hy
  ·exact b3 x hx y hy
 ·refine (p1.append p2).trans ?_
  rw [UK,UK]
  refine V9 _ ?_
  rw [<- UK,<- UK]
  exact List.Perm.append_right _ List.perm_append_comm
theorem Ej {R1 R2:List α} {x:α} (hR:jG k (R1 ++ R2)) (h1:∀ y,R1.getLast? = some y->k y<=k x) (h2:∀ y,R2.head? = some y->k x<=k y):jG k (R1 ++ x :: R2):=by
 obtain ⟨b1,b2,b3⟩:=fC.1 hR
 refine fC.2 ⟨b1,VD.2 ⟨λy hy=>?_,b2⟩,λy hy z hz=>?_⟩
 ·exact rV (l:=[x]) (List.pairwise_singleton _ _) b2 (λa b ha hb=>by cases ha; exact h2 b hb) x (by simp) y hy
 ·rcases UR.1 hz with rfl | hz
  ·exact rV b1 (m:=[z]) (List.pairwise_singleton _ _) (λa b ha hb=>by cases hb; exact h1 a ha) y hy z (by simp)
  ·exact b3 y hy z hz
theorem vV {P M Q:List α} {x y:α} {i j:Nat} (hi:i = P.length) (hj:j = P.length + 1 + M.length):((P ++ x :: (M ++ y :: Q)).set i y).set j x = P ++ y :: (M ++ x :: Q):=by
 subst hi hj
 rw [VE _ _ (US _),Vu,Wb,VE _ _ (by omega),show P.length + 1 + M.length - P.length = M.length + 1 by omega,Wl,VE _ _ (US _),Vu,Wb]
theorem mf {P Q:List α} {x:α} {i:Nat} (hi:i = P.length):(P ++ x :: Q)[i]? = some x:=by
 subst hi; rw [UP (US _),Vu]; rfl
end
structure ax where
 kind:Int
 to:Int
deriving DecidableEq
instance:Inhabited ax:=⟨⟨0,0⟩⟩
structure ew where
 st:Int
 tm:Int
deriving DecidableEq
structure bI where
 st:Int
 tm:Int
 acts:List ax
deriving DecidableEq
instance:Inhabited bI:=⟨⟨0,0,[]⟩⟩
section
variable {g:ae} {nn:List Bool} {ss ss' : List SQ} {α : Type}
def JO (ss:List SQ) (q t:Nat):List ax:=match lC ss q (t:Int) with
 | some j=>[⟨1,j⟩]
 | none=>[]
def K5 (ss:List SQ) (q t:Nat):List ax:=match ss[q]? with
 | some r=>if t = 0/\(⟨0,1⟩ : ai)∈r.1.2 then [⟨3,0⟩] else []
 | none=>[]
def Gs (ls:List eI) (q t:Nat):List ax:=(ls.filter λl=>decide (l.st = (q:Int)) && decide ((t:Int)∈l.tm)).map λl=>⟨2,l.prod⟩
noncomputable def bf (g:ae) (nn:List Bool) (ss:List SQ) (q t:Nat):List ax:=JO ss q t ++ K5 ss q t ++ Gs (cf g nn ss) q t
noncomputable def cellAt (g:ae) (nn:List Bool) (ss:List SQ) (least q t:Nat):List bI:=if least<=(bf g nn ss q t).length then [⟨(q:Int),(t:Int),bf g nn ss q t⟩] else []
noncomputable def fk (g:ae) (nn:List Bool) (ss:List SQ) (least q n:Nat):List bI:=(List.range n).flatMap (cellAt g nn ss least q)
noncomputable def dJ (g:ae) (nn:List Bool) (ss:List SQ) (least n:Nat):List bI:=(List.range n).flatMap λq=>fk g nn ss least q g.T
noncomputable def bR (g:ae) (nn:List Bool) (ss:List SQ) (least:Nat):List bI:=dJ g nn ss least ss.length
theorem ja {least q n:Nat}:fk g nn ss least q (n + 1) = fk g nn ss least q n ++ cellAt g nn ss least q n:=by unfold fk; rw [VX,U_]; simp
theorem jb {least n:Nat}:dJ g nn ss least (n + 1) = dJ g nn ss least n ++ fk g nn ss least n g.T:=by unfold dJ; rw [VX,U_]; simp
abbrev xu:=List (ew × ax)
def mg (g:ae) (q:Nat) (es:List aN):xu:=(es.filter λe=>decide (e.sym < (g.T:Int))).map λe=>(⟨(q:Int),e.sym⟩,⟨1,e.to⟩)
def qP (q:Nat) (K:List ai):xu:=if (⟨0,1⟩ : ai)∈K then [(⟨(q:Int),0⟩,⟨3,0⟩)] else []
def vW (g:ae) (ss:List SQ) (q:Nat):xu:=match ss[q]? with
 | some r=>mg g q r.2.2 ++ qP q r.1.2
 | none=>[]
def lj (g:ae) (ss:List SQ) (n:Nat):xu:=(List.range n).flatMap (vW g ss)
def qQ (l:eI) (n:Nat):xu:=(l.tm.take n).map λt=>(⟨l.st,t⟩,⟨2,l.prod⟩)
def nJ (ls:List eI) (n:Nat):xu:=(ls.take n).flatMap λl=>qQ l l.tm.length
theorem AO {n:Nat}:lj g ss (n + 1) = lj g ss n ++ vW g ss n:=by unfold lj; rw [VX,U_]; simp
theorem AP {q:Nat} {es:List aN} {e:aN}:mg g q (es ++ [e]) = if e.sym < (g.T:Int) then mg g q es ++ [(⟨(q:Int),e.sym⟩,⟨1,e.to⟩)] else mg g q es:=by
 unfold mg
 rw [Vi,U1]
 by_cases h:e.sym < (g.T:Int) <;> simp [h]
theorem Ig {l:eI} {n:Nat} {t:Int} (h:l.tm[n]? = some t):qQ l (n + 1) = qQ l n ++ [(⟨l.st,t⟩,⟨2,l.prod⟩)]:=by
 unfold qQ; rw [UI,h]; simp
theorem AQ {ls:List eI} {n:Nat} {l:eI} (h:ls[n]? = some l):nJ ls (n + 1) = nJ ls n ++ qQ l l.tm.length:=by
 unfold nJ; rw [UI,h,U_]; simp
def Bk (ps:xu) (p:ew):List ax:=(ps.filter λx=>decide (x.1 = p)).map (·.2)
theorem zj {ps qs:xu} {p:ew}:Bk (ps ++ qs) p = Bk ps p ++ Bk qs p:=by unfold Bk; rw [Vi,U1]
theorem AR {ps:xu} {p:ew} (h:∀ x∈ps,x.1≠p):Bk ps p = []:=by
 unfold Bk; rw [V5.2 λx hx=>by simpa using h x hx]; rfl
theorem Gt {β : Type} {l:List β} {f:β->xu} {p:ew}:Bk (l.flatMap f) p = l.flatMap λx=>Bk (f x) p:=by
 induction l with
 | nil=>rfl
 | cons a l ih=>rw [U6,U6,zj,ih]
theorem Gu {f:Nat->List α} {q:Nat} (h:∀ i,i≠q->f i = []):∀ n,q < n->(List.range n).flatMap f = f q
 | 0,hq=>by omega
 | n + 1,hq=>by
  rw [VX,U_]
  by_cases e:q = n
  ·subst e
   have:(List.range q).flatMap f = []:=List.flatMap_eq_nil_iff.2 λi hi=>h i (by have:=U8.1 hi; omega)
   rw [this]; simp
  ·rw [Gu h n (by omega)]
   simp [h n (Ne.symm e)]
theorem NS {q:Nat} {r:SQ} {s:Int} (hr:ss[q]? = some r):lC ss q s = (r.2.2.find? λe=>decide (e.sym = s)).map (·.to):=nC hr s
theorem CP:∀ {es:List aN} {s:Int},(es.map (·.sym)).Nodup->(es.filter λe=>decide (e.sym = s)) = (es.find? λe=>decide (e.sym = s)).toList
 | [],s,_=>rfl
 | e :: es,s,h=>by
  rw [Vh,Vy] at h
  by_cases he:e.sym = s
  ·rw [VF (by simpa using he),List.find?_cons_of_pos (by simpa using he)]
   have:(es.filter λe=>decide (e.sym = s)) = []:=V5.2 λx hx=>by
    simp only [UO]
    intro e2
    exact h.1 (by rw [he,<- e2]; exact List.mem_map_of_mem hx)
   rw [this]; rfl
  ·rw [VG (by simpa using he),List.find?_cons_of_neg (by simpa using he)]
   exact CP h.2
theorem Um (hA:dh g ss) {q t:Nat} {r:SQ} (hr:ss[q]? = some r) (ht:t < g.T):Bk (mg g q r.2.2) ⟨(q:Int),(t:Int)⟩ = JO ss q t:=by
 unfold JO
 rw [NS hr]
 have hnd:=wV hA hr
 unfold Bk mg
 rw [List.filter_map,List.filter_filter,V_]
 have e:(r.2.2.filter λe=>(((λx:ew × ax=>decide (x.1 = ⟨(q:Int),(t:Int)⟩)) ∘ λe:aN=>((⟨(q:Int),e.sym⟩ : ew),(⟨1,e.to⟩ : ax))) e) && decide (e.sym < (g.T:Int))) = r.2.2.filter λe=>decide (e.sym = (t:Int)):=by
  refine VZ λe _=>?_
  show (decide ((⟨(q:Int),e.sym⟩ : ew) = ⟨(q:Int),(t:Int)⟩) && _) = _
  by_cases h:e.sym = (t:Int)
  ·rw [h,U4 rfl,U4 (by omega),U4 rfl]; rfl
  ·rw [U5 (by simp [h]),U5 h]; rfl
 rw [e,CP hnd]
 cases r.2.2.find? λe=>decide (e.sym = (t:Int)) with
 | none=>rfl
 | some e=>rfl
theorem Un (hA:dh g ss) {q t:Nat} {r:SQ} (hr:ss[q]? = some r) (ht:t < g.T):Bk (vW g ss q) ⟨(q:Int),(t:Int)⟩ = JO ss q t ++ K5 ss q t:=by
 unfold vW K5
 rw [hr]
 show Bk (mg g q r.2.2 ++ qP q r.1.2) _ = _
 rw [zj,Um hA hr ht]
 congr 1
 show _ = if t = 0/\(⟨0,1⟩ : ai)∈r.1.2 then [(⟨3,0⟩ : ax)] else []
 unfold qP
 by_cases h:(⟨0,1⟩ : ai)∈r.1.2
 ·rw [UJ h]
  by_cases h2:t = 0
  ·subst h2; rw [UJ ⟨rfl,h⟩]; simp [Bk]
  ·rw [UE (λhh=>h2 hh.1)]; exact AR λx hx=>by simp at hx; subst hx; simp; omega
 ·rw [UE h,UE (λhh=>h hh.2)]; rfl
theorem NT {q:Nat} {x:ew × ax} (h:x∈vW g ss q):x.1.st = (q:Int):=by
 unfold vW at h
 split at h
 ·rcases UF.1 h with h | h
  ·unfold mg at h
   obtain ⟨e,_,rfl⟩:=UU.1 h
   rfl
  ·unfold qP at h
   split at h
   ·simp at h; subst h; rfl
   ·simp at h
 ·simp at h
theorem Uo (hA:dh g ss) {q t:Nat} (hq:q < ss.length) (ht:t < g.T):Bk (lj g ss ss.length) ⟨(q:Int),(t:Int)⟩ = JO ss q t ++ K5 ss q t:=by
 unfold lj
 rw [Gt,Gu (q:=q) (λi hi=>AR λx hx e=>hi (by have:=NT hx; rw [e] at this; simp at this; omega)) _ hq]
 exact Un hA (UB hq) ht
theorem Up {l:eI} {q t:Nat} (hr:jO l.tm):Bk (qQ l l.tm.length) ⟨(q:Int),(t:Int)⟩ = if l.st = (q:Int)/\(t:Int)∈l.tm then [⟨2,l.prod⟩] else []:=by
 unfold Bk qQ
 rw [UZ,List.filter_map,V_]
 by_cases h:l.st = (q:Int)/\(t:Int)∈l.tm
 ·rw [UJ h]
  have e:(l.tm.filter ((λx:ew × ax=>decide (x.1 = ⟨(q:Int),(t:Int)⟩)) ∘ λt=>((⟨l.st,t⟩ : ew),(⟨2,l.prod⟩ : ax)))) = [(t:Int)]:=by
   have key:∀ {l:List Int},l.Nodup->(t:Int)∈l->(l.filter λx=>decide (x = (t:Int))) = [(t:Int)]:=by
    intro l
    induction l with
    | nil=>intro _ h; cases h
    | cons a l ih =>
     intro hn hm
     obtain ⟨h1,h2⟩:=Vy.1 hn
     by_cases ea:a = (t:Int)
     ·subst ea
      rw [VF (by simp),V5.2 λx hx=>by simp; intro e; exact h1 (e ▸ hx)]
     ·rw [VG (by simpa using ea)]
      exact ih h2 ((UR.1 hm).resolve_left (Ne.symm ea))
   rw [<- key (Qe hr) h.2]
   refine VZ λx _=>?_
   show decide ((⟨l.st,x⟩ : ew) = ⟨(q:Int),(t:Int)⟩) = _
   rw [h.1]; simp
  rw [e]; rfl
 ·rw [UE h,V5.2 λx hx=>?_]; rfl
  show ¬ decide ((⟨l.st,x⟩ : ew) = ⟨(q:Int),(t:Int)⟩) = true
  simp only [ew.mk.injEq,UO]
  rintro ⟨h1,h2⟩
  exact h ⟨h1,h2 ▸ hx⟩
theorem Uq {ls:List eI} {q t:Nat} (hr:∀ l∈ls,jO l.tm):Bk (nJ ls ls.length) ⟨(q:Int),(t:Int)⟩ = Gs ls q t:=by
 unfold nJ Gs
 rw [UZ,Gt]
 induction ls with
 | nil=>rfl
 | cons l ls ih =>
  rw [U6,Up (hr l (by simp)),ih λl hl=>hr l (by simp [hl])]
  by_cases h:l.st = (q:Int)/\(t:Int)∈l.tm
  ·rw [UJ h,VF (by simp [h.1,h.2])]; rfl
  ·rw [UE h,VG (by simpa using h)]; rfl
theorem Gv {k:α->Int}:∀ {l m:List α},l.Perm m->(l.Pairwise λx y=>k x < k y)->(m.Pairwise λx y=>k x < k y)->l = m
 | [],m,p,_,_=>(p.symm.eq_nil).symm
 | a :: l,[],p,_,_=>absurd p.eq_nil (by simp)
 | a :: l,b :: m,p,hl,hm=>by
  obtain ⟨h1,h2⟩:=VD.1 hl
  obtain ⟨h3,h4⟩:=VD.1 hm
  have e:a = b:=by
   rcases UR.1 (p.mem_iff.1 (Wc)) with h | h
   ·exact h
   ·rcases UR.1 (p.mem_iff.2 (Wc)) with h' | h'
    ·exact h'.symm
    ·have:=h3 a h; have:=h1 b h'; omega
  subst e
  rw [Gv ((List.perm_cons a).1 p) h2 h4]
theorem CQ (q:Nat):((cf g nn ss).filter λl=>decide (l.st = (q:Int))).Pairwise λx y=>x.prod < y.prod:=by
 have key:∀ n,((Az g ss n).filter λb=>decide (b.st = (q:Int))) = if q < n then eH g ss q g.prods.length else []:=by
  intro n
  induction n with
  | zero=>rw [UE (by omega)]; rfl
  | succ n ih =>
   rw [xh,Vi,ih]
   have hst:∀ b∈eH g ss n g.prods.length,b.st = (n:Int):=λb hb=>by obtain ⟨m,_,_,rfl⟩:=CO.1 hb; rfl
   by_cases e:q = n
   ·subst e
    rw [UE (by omega),UJ (by omega),Ve,List.filter_eq_self.2 λb hb=>by simpa using hst b hb]
   ·have:((eH g ss n g.prods.length).filter λb=>decide (b.st = (q:Int))) = []:=V5.2 λb hb=>by rw [hst b hb]; simp; omega
    rw [this,U3]
    by_cases h:q < n
    ·rw [UJ h,UJ (by omega)]
    ·rw [UE h,UE (by omega)]
 have hk:=key ss.length
 have e:((cf g nn ss).filter λl=>decide (l.st = (q:Int))) = (((oh g ss).filter λb=>decide (b.st = (q:Int)))).map (lh g (JI g nn ss)):=by
  unfold cf
  rw [List.filter_map]; rfl
 rw [e,Vx]
 show List.Pairwise _ ((Az g ss ss.length).filter _)
 rw [hk]
 by_cases h:q < ss.length
 ·rw [UJ h]
  have h2:=AN (g:=g) (ss:=ss) q g.prods.length
  unfold jO at h2
  rw [Vx] at h2
  exact h2
 ·rw [UE h]; exact .nil
theorem Qf {ls:List eI} (p:ls.Perm (cf g nn ss)) (h:jG (·.prod) ls) (q t:Nat):Gs ls q t = Gs (cf g nn ss) q t:=by
 have e:∀ m:List eI,Gs m q t = ((m.filter λl=>decide (l.st = (q:Int))).filter λl=>decide ((t:Int)∈l.tm)).map λl=>⟨2,l.prod⟩:=λm=>by
  unfold Gs
  rw [List.filter_filter]
  congr 1
  refine VZ λl _=>?_
  rw [Bool.and_comm]
 rw [e,e]
 congr 2
 have hp:=p.filter λl=>decide (l.st = (q:Int))
 have hS:=CQ (g:=g) (nn:=nn) (ss:=ss) q
 refine Gv (k:=(·.prod)) hp ?_ hS
 have h1:(ls.filter λl=>decide (l.st = (q:Int))).Pairwise λx y=>x.prod<=y.prod:=List.Pairwise.filter _ h
 have h2:((ls.filter λl=>decide (l.st = (q:Int))).map (·.prod)).Nodup:=by
  refine (hp.map (·.prod)).nodup_iff.2 ?_
  rw [Vz,Vx]
  exact hS.imp λh e=>by omega
 rw [Vz,Vx] at h2
 exact h1.imp₂ (λ_ _ a b=>by omega) h2
theorem Td (hA:dh g ss) {ls:List eI} (p:ls.Perm (cf g nn ss)) (h:jG (·.prod) ls) {q t:Nat} (hq:q < ss.length) (ht:t < g.T):Bk (lj g ss ss.length ++ nJ ls ls.length) ⟨(q:Int),(t:Int)⟩ = bf g nn ss q t:=by
 rw [zj,Uo hA hq ht,Uq,Qf p h]
 ·rfl
 ·intro l hl
  obtain ⟨b,_,rfl⟩:=UU.1 (p.mem_iff.1 hl)
  exact K4
end
section
variable {g:ae} {nn:List Bool} {ss:List SQ} {least:Nat}
theorem AU {q t:Nat} {c:bI}:c∈cellAt g nn ss least q t↔least<=(bf g nn ss q t).length/\c = ⟨(q:Int),(t:Int),bf g nn ss q t⟩:=by
 unfold cellAt
 split
 ·rename_i h; simp [h]
 ·rename_i h; simp [h]
theorem rW {q n:Nat} {c:bI}:c∈fk g nn ss least q n↔∃ t,t < n/\least<=(bf g nn ss q t).length/\c = ⟨(q:Int),(t:Int),bf g nn ss q t⟩:=by
 unfold fk
 rw [VP]
 exact exists_congr λt=>by rw [U8,AU]
theorem ia {n:Nat} {c:bI}:c∈dJ g nn ss least n↔∃ q t,q < n/\t < g.T/\least<=(bf g nn ss q t).length/\c = ⟨(q:Int),(t:Int),bf g nn ss q t⟩:=by
 unfold dJ
 rw [VP]
 constructor
 ·rintro ⟨q,hq,h⟩
  obtain ⟨t,h1,h2,h3⟩:=rW.1 h
  exact ⟨q,t,U8.1 hq,h1,h2,h3⟩
 ·rintro ⟨q,t,hq,h1,h2,h3⟩
  exact ⟨q,U8.2 hq,rW.2 ⟨t,h1,h2,h3⟩⟩
def bI.lt (a b:bI):Prop:=a.st < b.st\/a.st = b.st/\a.tm < b.tm
theorem CR {q:Nat}:∀ n,(fk g nn ss least q n).Pairwise bI.lt
 | 0=>by simp [fk]
 | n + 1=>by
  rw [ja,List.pairwise_append]
  refine ⟨CR n,?_,λa ha b hb=>?_⟩
  ·unfold cellAt; split <;> simp
  ·obtain ⟨t,h1,_,rfl⟩:=rW.1 ha
   obtain ⟨_,rfl⟩:=AU.1 hb
   exact .inr ⟨rfl,by show (t:Int) < n; omega⟩
theorem xv:∀ n,(dJ g nn ss least n).Pairwise bI.lt
 | 0=>by simp [dJ]
 | n + 1=>by
  rw [jb,List.pairwise_append]
  refine ⟨xv n,CR _,λa ha b hb=>?_⟩
  obtain ⟨q,t,h1,_,_,rfl⟩:=ia.1 ha
  obtain ⟨t',_,_,rfl⟩:=rW.1 hb
  exact .inl (by show (q:Int) < n; omega)
theorem CS {q n:Nat}:(fk g nn ss least q n).length<=n:=by
 induction n with
 | zero=>simp [fk]
 | succ n ih =>
  rw [ja,UG]
  have:(cellAt g nn ss least q n).length<=1:=by unfold cellAt; split <;> simp
  omega
theorem CT {n:Nat}:(dJ g nn ss least n).length<=n * g.T:=by
 induction n with
 | zero=>simp [dJ]
 | succ n ih =>
  rw [jb,UG,V0]
  have:=CS (g:=g) (nn:=nn) (ss:=ss) (least:=least) (q:=n) (n:=g.T)
  omega
theorem NU {n i j:Nat} {a b:bI} (ha:(dJ g nn ss least n)[i]? = some a) (hb:(dJ g nn ss least n)[j]? = some b) (h1:a.st = b.st) (h2:a.tm = b.tm):i = j:=by
 have hs:=Wm.1 (xv (g:=g) (nn:=nn) (ss:=ss) (least:=least) n)
 obtain ⟨hi,rfl⟩:=UA.1 ha
 obtain ⟨hj,rfl⟩:=UA.1 hb
 rcases Nat.lt_trichotomy i j with h | h | h
 ·have:=hs i j hi hj h; unfold bI.lt at this; omega
 ·exact h
 ·have:=hs j i hj hi h; unfold bI.lt at this; omega
theorem NV:(bR g nn ss 1).filter (λc=>decide (1 < c.acts.length)) = bR g nn ss 2:=by
 unfold bR dJ
 rw [List.filter_flatMap]
 congr 1; funext q
 unfold fk
 rw [List.filter_flatMap]
 congr 1; funext t
 unfold cellAt
 by_cases h:2<=(bf g nn ss q t).length
 ·rw [UJ (by omega),UJ h,VF (by rw [UO]; show 1 < (bf g nn ss q t).length; omega)]; rfl
 ·rw [UE h]
  by_cases h1:1<=(bf g nn ss q t).length
  ·rw [UJ h1,VG (by rw [UO]; show ¬ 1 < (bf g nn ss q t).length; omega)]; rfl
  ·rw [UE h1]; rfl
theorem JP (q t:Nat):(JO ss q t).length<=1:=by unfold JO; split <;> simp
theorem JQ (q t:Nat):(K5 ss q t).length<=1:=by unfold K5; split; split <;> simp; simp
theorem JR {q t:Nat}:(Gs (cf g nn ss) q t).Pairwise λx y=>x.to < y.to:=by
 have e:Gs (cf g nn ss) q t = (((cf g nn ss).filter λl=>decide (l.st = (q:Int))).filter λl=>decide ((t:Int)∈l.tm)).map λl=>⟨2,l.prod⟩:=by
  unfold Gs
  rw [List.filter_filter]
  congr 1
  refine VZ λl _=>?_
  rw [Bool.and_comm]
 rw [e,Vx]
 exact List.Pairwise.filter _ (CQ q)
theorem AV {l:eI} (h:l∈cf g nn ss):∃ q m:Nat,q < ss.length/\m < g.prods.length/\m≠0/\l = lh g (JI g nn ss) ⟨(q:Int),(m:Int),cd (bG g ss).length (dS g ss q m)⟩:=by
 obtain ⟨b,hb,rfl⟩:=UU.1 h
 obtain ⟨q,m,hq,hm,rfl,hne⟩:=Ei hb
 refine ⟨q,m,hq,hm,λe=>?_,rfl⟩
 subst e
 obtain ⟨z,hz⟩:=List.exists_mem_of_ne_nil _ hne
 obtain ⟨u,_,hu,hb⟩:=ju.1 hz
 have ht:(bG g ss)[u]? = some (bG g ss)[u]:=UB hu
 obtain ⟨hmm,_⟩:=(CH ht).1 hb
 have:=(rQ.1 hmm).1
 omega
theorem Qg {q t:Nat}:(Gs (cf g nn ss) q t).length<=g.prods.length:=by
 have h:=JR (g:=g) (nn:=nn) (ss:=ss) (q:=q) (t:=t)
 have h1:jO ((Gs (cf g nn ss) q t).map (·.to)):=by unfold jO; rw [Vx]; exact h
 have h2:=Ic (B:=g.prods.length) h1 λz hz=>by
  obtain ⟨x,hx,rfl⟩:=UU.1 hz
  unfold Gs at hx
  obtain ⟨l,hl,rfl⟩:=UU.1 hx
  obtain ⟨_,m,_,hm,_,rfl⟩:=AV (Vo.1 hl).1
  exact ⟨Vs _,by show (m:Int) < _; omega⟩
 rwa [UH] at h2
theorem Gw {q t:Nat}:(bf g nn ss q t).length<=g.prods.length + 2:=by
 unfold bf
 have h1:=JP (ss:=ss) q t
 have h2:=JQ (ss:=ss) q t
 have h3:=Qg (g:=g) (nn:=nn) (ss:=ss) (q:=q) (t:=t)
 simp only [UG]
 omega
theorem NW {q t:Nat} {x:ax} (h:x∈JO ss q t):x.kind = 1/\lC ss q (t:Int) = some x.to:=by
 unfold JO at h
 split at h
 ·rename_i j hj; simp at h; subst h; exact ⟨rfl,hj⟩
 ·simp at h
theorem NX {q t:Nat} {x:ax} (h:x∈K5 ss q t):x = ⟨3,0⟩/\t = 0/\∃ r,ss[q]? = some r/\(⟨0,1⟩ : ai)∈r.1.2:=by
 unfold K5 at h
 split at h
 ·rename_i r hr
  split at h
  ·rename_i h2; simp at h; exact ⟨h,h2.1,r,hr,h2.2⟩
  ·simp at h
 ·simp at h
theorem NY {ls:List eI} {q t:Nat} {x:ax} (h:x∈Gs ls q t):x.kind = 2/\∃ l∈ls,l.st = (q:Int)/\l.prod = x.to/\(t:Int)∈l.tm:=by
 unfold Gs at h
 obtain ⟨l,hl,rfl⟩:=UU.1 h
 obtain ⟨h1,h2⟩:=Vo.1 hl
 simp only [UT,UO] at h2
 exact ⟨rfl,l,h1,h2.1,rfl,h2.2⟩
end
section
variable {g:ae} {nn:List Bool} {ss:List SQ}
def uF (g:ae) (p:Nat):Int:=match g.prods[p]? with
 | some x=>x.level
 | none=>0
def Ih (g:ae) (t:Nat):Int:=match g.terms[t]? with
 | some x=>x.level
 | none=>0
def K6 (g:ae) (l:Int):Int:=match g.levels[(l - 1).toNat]? with
 | some x=>x
 | none=>0
def bu (g:ae) (p t:Nat):Int :=
 if uF g p = 0\/Ih g t = 0 then 0 else if Ih g t < uF g p then 2 else if uF g p < Ih g t then 1
 else if K6 g (uF g p) = 1 then 2 else if K6 g (uF g p) = 2 then 1 else 3
theorem Ek (hc:aq g) {p:Nat} {x:aO} (h:g.prods[p]? = some x):0<=x.level/\x.level<=g.levels.length:=by
 obtain ⟨_,_,h3,p0,hp0,_,_,hl⟩:=hc
 cases p with
 | zero =>
  rw [hp0] at h; cases h
  omega
 | succ p =>
  have hm:x∈g.prods.drop 1:=by
   refine UC (i:=p) ?_
   rw [Vb,Nat.add_comm]; exact h
  exact (h3.2.2.1 x hm).1.2.2
theorem AW (hc:aq g) {l:Int} (h1:1<=l) (h2:l<=g.levels.length):∃ v,g.levels[(l - 1).toNat]? = some v/\K6 g l = v/\1<=v/\v<=3:=by
 obtain ⟨_,h3,_⟩:=hc
 obtain ⟨v,hv⟩ : ∃ v,g.levels[(l - 1).toNat]? = some v:=⟨_,UB (by omega)⟩
 have:=h3.2.2.2.2.2.2.1 _ v hv
 exact ⟨v,hv,by unfold K6; rw [hv],this.1,this.2.1⟩
theorem AX (p t:Nat):0<=bu g p t/\bu g p t<=3:=by
 unfold bu
 split
 ·omega
 ·split
  ·omega
  ·split
   ·omega
   ·split
    ·omega
    ·split <;> omega
def jH (n:Nat) (a:ax):Int:=if a.kind = 1/\0<=a.to then 0 else if a.kind = 3/\a.to = 0 then 1 else if a.kind = 2/\0 < a.to/\a.to < n then 1 + a.to else -1
def vX (n:Nat):Int->List ax->Prop
 | _,[]=>True
 | last,a :: l=>last < jH n a/\vX n (jH n a) l
def lq (n:Nat) (l:List ax):Prop:=vX n (-1) l
instance ordF_dec (n:Nat):∀ (last:Int) (l:List ax),Decidable (vX n last l)
 | _,[]=>isTrue trivial
 | last,a :: l=>match (inferInstance:Decidable (last < jH n a)),ordF_dec n (jH n a) l with
  | isTrue h,isTrue h2=>isTrue ⟨h,h2⟩
  | isFalse h,_=>isFalse λhh=>h hh.1
  | _,isFalse h=>isFalse λhh=>h hh.2
instance (n:Nat) (l:List ax):Decidable (lq n l):=ordF_dec n (-1) l
theorem CU {n i:Nat} {last:Int} {l:List ax} {a:ax} (h:l[i]? = some a):vX n last (l.drop i)↔last < jH n a/\vX n (jH n a) (l.drop (i + 1)):=by
 have hi:=(UA.1 h)
 obtain ⟨hlt,e⟩:=hi
 rw [Vk hlt,e]
 exact Iff.rfl
theorem AY {n:Nat}:∀ {l:List ax} {last:Int},vX n last l->∀ x∈l,last < jH n x
 | [],_,_,x,h=>by cases h
 | a :: l,last,ho,x,h=>by
  rcases UR.1 h with rfl | h
  ·exact ho.1
  ·have:=AY ho.2 x h
   have:=ho.1
   omega
theorem Ii {n:Nat} {l:List ax} (h:lq n l) {x:ax} (hx:x∈l):x.kind = 1/\0<=x.to\/x.kind = 3/\x.to = 0\/x.kind = 2/\0 < x.to/\x.to < n:=by
 have h:=AY h x hx
 unfold jH at h
 split at h
 ·exact .inl ‹_›
 ·split at h
  ·exact .inr (.inl ‹_›)
  ·split at h
   ·exact .inr (.inr ‹_›)
   ·omega
theorem NZ {n:Nat} {a:ax} {l:List ax} (h:lq n (a :: l)) {x:ax} (hx:x∈l):x.kind≠1:=by
 intro hk
 have h1:=h.1
 have h2:=AY h.2 x hx
 have:jH n x<=0:=by
  unfold jH
  split
  ·omega
  ·rw [UE (by omega),UE (by omega)]; omega
 omega
theorem El {n:Nat}:∀ {l m:List ax} {last:Int},vX n last l->(∀ x∈l,∀ y∈m,jH n x < jH n y)->(∀ y∈m,last < jH n y)->vX n last m->vX n last (l ++ m)
 | [],m,last,_,_,_,hm=>hm
 | a :: l,m,last,hl,h,h2,hm=>⟨hl.1,El hl.2 (λx hx=>h x (by simp [hx])) (λy hy=>h a (by simp) y hy) (by
   cases m with
   | nil=>trivial
   | cons b m=>exact ⟨h a (by simp) b (by simp),hm.2⟩)⟩
theorem zk {n:Nat}:∀ {l:List ax} {last:Int},(∀ x∈l,last < jH n x)->l.Pairwise (λx y=>jH n x < jH n y)->vX n last l
 | [],_,_,_=>trivial
 | a :: l,last,h,hp=>by
  obtain ⟨h1,h2⟩:=VD.1 hp
  exact ⟨h a (by simp),zk h1 h2⟩
theorem Gx (hc:aq g) (hA:dh g ss) (q t:Nat):lq g.prods.length (bf g nn ss q t):=by
 unfold lq bf
 have hs:∀ x∈JO ss q t,jH g.prods.length x = 0:=λx hx=>by
  obtain ⟨h1,h2⟩:=NW hx
  have:=(vy hc hA h2).1
  unfold jH
  rw [UJ ⟨h1,this⟩]
 have ha:∀ x∈K5 ss q t,jH g.prods.length x = 1:=λx hx=>by
  obtain ⟨rfl,_⟩:=NX hx
  unfold jH
  rw [UE (by simp),UJ (by simp)]
 have hr:∀ x∈Gs (cf g nn ss) q t,1 < jH g.prods.length x/\jH g.prods.length x = 1 + x.to:=λx hx=>by
  obtain ⟨h1,l,hl,_,h2,_⟩:=NY hx
  obtain ⟨q',m,_,hm,hm0,rfl⟩:=AV hl
  have h2:(m:Int) = x.to:=h2
  unfold jH
  rw [UE (by omega),UE (by omega),UJ (by omega)]
  omega
 have pw:∀ {l:List ax},l.length<=1->l.Pairwise (λx y=>jH g.prods.length x < jH g.prods.length y):=λ{l} h=>by
  match l,h with
  | [],_=>exact .nil
  | [a],_=>simp
 rw [UK]
 refine El (zk (λx hx=>by have:=hs x hx; omega) (pw (JP q t))) (λx hx y hy=>?_) (λy hy=>?_) (El (zk (λx hx=>by have:=ha x hx; omega) (pw (JQ q t))) (λx hx y hy=>?_) (λy hy=>?_) (zk (λx hx=>?_) ?_))
 ·have:=hs x hx
  rcases UF.1 hy with hy | hy
  ·have:=ha y hy; omega
  ·have:=hr y hy; omega
 ·rcases UF.1 hy with hy | hy
  ·have:=ha y hy; omega
  ·have:=hr y hy; omega
 ·have:=ha x hx; have:=hr y hy; omega
 ·have:=hr y hy; omega
 ·have:=hr x hx; omega
 ·refine List.Pairwise.imp_of_mem ?_ JR
  intro x y hx hy h
  have:=hr x hx; have:=hr y hy; omega
def nK (g:ae) (t:Nat) (x:ax):Int:=if x.kind = 2 then bu g x.to.toNat t else 0
theorem N0 (t:Nat) (x:ax):0<=nK g t x/\nK g t x<=3:=by
 unfold nK
 split
 ·exact AX _ _
 ·omega
def oB (g:ae) (t:Nat) (x:ax):Bool:=decide (nK g t x≠2/\nK g t x≠3)
def nR (g:ae) (t:Nat) (x:ax):Bool:=decide (nK g t x = 0\/nK g t x = 2)
def sR (g:ae) (t:Nat) (x:ax):Bool:=decide (nK g t x = 3)
def aZ (g:ae) (t:Nat):List ax->List ax × Bool
 | []=>([],false)
 | a :: r=>if a.kind = 1 then ((if r.all (oB g t) = true then [a] else []) ++ r.filter (nR g t),r.any (sR g t)) else (a :: r,false)
def iQ:List ax × Bool->ax
 | (a :: _,_)=>a
 | ([],true)=>⟨4,0⟩
 | ([],false)=>⟨0,0⟩
def ib (l:List ax):List ax:=if 2<=l.length then l else []
theorem ic {t:Nat} {a:ax} {r:List ax} (h:a.kind = 1):aZ g t (a :: r) = ((if r.all (oB g t) = true then [a] else []) ++ r.filter (nR g t),r.any (sR g t)):=by
 show (if a.kind = 1 then _ else _) = _
 rw [UJ h]
theorem kF {t:Nat} {a:ax} {r:List ax} (h:¬ a.kind = 1):aZ g t (a :: r) = (a :: r,false):=by
 show (if a.kind = 1 then _ else _) = _
 rw [UE h]
theorem xw {t:Nat} {l:List ax}:(aZ g t l).1.length<=l.length:=by
 cases l with
 | nil=>exact US _
 | cons a r =>
  by_cases h:a.kind = 1
  ·rw [ic h]
   show ((if r.all (oB g t) = true then [a] else []) ++ r.filter (nR g t)).length<=_
   have:=Vm (nR g t) r
   rw [UG,Vc]
   split <;> simp <;> omega
  ·rw [kF h]; exact US _
theorem CV {t:Nat} {l:List ax} {x:ax} (h:x∈(aZ g t l).1):x∈l:=by
 cases l with
 | nil=>exact h
 | cons a r =>
  by_cases hk:a.kind = 1
  ·rw [ic hk] at h
   rcases UF.1 h with h | h
   ·split at h
    ·simp at h; subst h; exact Wc
    ·cases h
   ·exact Wd _ (Vo.1 h).1
  ·rw [kF hk] at h; exact h
noncomputable def Em (g:ae) (nn:List Bool) (ss:List SQ) (q t:Nat):ax:=iQ (aZ g t (bf g nn ss q t))
noncomputable def Eo (g:ae) (nn:List Bool) (ss:List SQ):List (List ax):=(List.range ss.length).map λq=>(List.range g.T).map (Em g nn ss q)
def N1 (g:ae) (ss:List SQ):List (List Int):=(List.range ss.length).map λq=>(List.range g.N).map λj=>Jq ss q ((g.T + j:Nat):Int)
def yh (g:ae) (c:bI):List bI:=if 2<=(aZ g c.tm.toNat c.acts).1.length then [⟨c.st,c.tm,(aZ g c.tm.toNat c.acts).1⟩] else []
noncomputable def lU (g:ae) (nn:List Bool) (ss:List SQ):List bI:=(bR g nn ss 1).flatMap (yh g)
def Ep (g:ae) (n:Nat) (cs:List bI) (A:List (List ax)):Prop:=A.length = n/\∀ (q:Nat) r,A[q]? = some r->r.length = g.T/\∀ (t:Nat) a,r[t]? = some a->(∀ c∈cs,c.st = (q:Int)->c.tm = (t:Int)->a = iQ (aZ g t c.acts))/\((∀ c∈cs,¬(c.st = (q:Int)/\c.tm = (t:Int)))->a = ⟨0,0⟩)
theorem Ep.zero {n:Nat}:Ep g n [] (List.replicate n (List.replicate g.T ⟨0,0⟩)):=by
 refine ⟨by simp,λq r hr=>?_⟩
 rw [Wf] at hr
 split at hr
 ·cases hr
  refine ⟨by simp,λt a ha=>⟨λc hc=>absurd hc (by simp),λ_=>?_⟩⟩
  rw [Wf] at ha
  split at ha
  ·cases ha; rfl
  ·cases ha
 ·cases hr
theorem Ep.put {n q t:Nat} {cs:List bI} {A:List (List ax)} {r:List ax} {c:bI} (h:Ep g n cs A) (hr:A[q]? = some r) (h1:c.st = (q:Int)) (h2:c.tm = (t:Int)) (hn:∀ d∈cs,¬(d.st = (q:Int)/\d.tm = (t:Int))):Ep g n (cs ++ [c]) (A.set q (r.set t (iQ (aZ g t c.acts)))):=by
 obtain ⟨h3,h4⟩:=h
 have hql:=(UA.1 hr).1
 refine ⟨by simp [h3],λq' r' hr'=>?_⟩
 rw [VC] at hr'
 by_cases e:q = q'
 ·subst e
  rw [UJ rfl,UJ hql] at hr'
  cases hr'
  obtain ⟨h5,h6⟩:=h4 q r hr
  refine ⟨by simp [h5],λt' a ha=>?_⟩
  rw [VC] at ha
  by_cases e2:t = t'
  ·subst e2
   rw [UJ rfl] at ha
   split at ha
   ·cases ha
    refine ⟨λd hd h7 h8=>?_,λh7=>absurd ⟨h1,h2⟩ (h7 c (by simp))⟩
    rcases UF.1 hd with hd | hd
    ·exact absurd ⟨h7,h8⟩ (hn d hd)
    ·simp at hd; subst hd; rfl
   ·cases ha
  ·rw [UE e2] at ha
   obtain ⟨h7,h8⟩:=h6 t' a ha
   refine ⟨λd hd h9 h0=>?_,λh9=>h8 λd hd=>h9 d (by simp [hd])⟩
   rcases UF.1 hd with hd | hd
   ·exact h7 d hd h9 h0
   ·simp at hd; subst hd; omega
 ·rw [UE e] at hr'
  obtain ⟨h5,h6⟩:=h4 q' r' hr'
  refine ⟨h5,λt' a ha=>?_⟩
  obtain ⟨h7,h8⟩:=h6 t' a ha
  refine ⟨λd hd h9 h0=>?_,λh9=>h8 λd hd=>h9 d (by simp [hd])⟩
  rcases UF.1 hd with hd | hd
  ·exact h7 d hd h9 h0
  ·simp at hd; subst hd; omega
theorem Ep.all {A:List (List ax)} (h:Ep g ss.length (bR g nn ss 1) A):A = Eo g nn ss:=by
 obtain ⟨h1,h2⟩:=h
 unfold Eo
 refine Vq λq=>?_
 rw [UD]
 by_cases hq:q < ss.length
 ·rw [VN hq]
  obtain ⟨r,hr⟩ : ∃ r,A[q]? = some r:=⟨_,UB (by omega)⟩
  rw [hr]
  obtain ⟨h3,h4⟩:=h2 q r hr
  show some r = some _
  congr 1
  refine Vq λt=>?_
  rw [UD]
  by_cases ht:t < g.T
  ·rw [VN ht]
   obtain ⟨a,ha⟩ : ∃ a,r[t]? = some a:=⟨_,UB (by omega)⟩
   rw [ha]
   obtain ⟨h5,h6⟩:=h4 t a ha
   show some a = some (Em g nn ss q t)
   congr 1
   unfold Em
   by_cases hl:1<=(bf g nn ss q t).length
   ·exact h5 ⟨(q:Int),(t:Int),bf g nn ss q t⟩ (ia.2 ⟨q,t,hq,ht,hl,rfl⟩) rfl rfl
   ·have e:bf g nn ss q t = []:=UL (by omega)
    rw [h6 λc hc hh=>?_,e]; rfl
    obtain ⟨q',t',_,_,h7,rfl⟩:=ia.1 hc
    obtain ⟨h8,h9⟩:=hh
    have h8:(q' : Int) = q:=h8
    have h9:(t' : Int) = t:=h9
    obtain rfl:q' = q:=by omega
    obtain rfl:t' = t:=by omega
    exact hl h7
  ·rw [UW (by omega),UW (by simp; omega)]; rfl
 ·rw [UW (by omega),UW (by simp; omega)]; rfl
end
section
variable {P:Program} {w w' : Ws} {L:List au} {b:Nat} {us vs:List Value} {e e' : TypeId} {A B C D:au} {Ty:TypeId->Option cB}
theorem Qh (hT:di P Ty) {t ty:TypeId} (hk:ah Ty t = .slice e) (a:Wr) (l c:Nat) (w:Ws):(Builtin.cap_ (Array.mk [t]) ty (Array.mk [.slice a l c])).run P w = .ok (.int .i64 (c:Int)) w:=by
 obtain ⟨d,hd,hd'⟩:=cD hT hk (by simp)
 rw [du hd'] at hd
 simp [Builtin.cap_,run_underlying hd,goInt]
theorem Gy {a:Wr} {len cap sz:Nat} {k:Wr->Nat->Nat->Prop} (h2:len<=cap) (hk:k a len cap):lV a len cap (some (0:Int)) none none sz k:=by
 refine cO (lo:=0) (UM _) h2 ?_
 rw [PL]; exact hk
theorem zl (hT:di P Ty) {t tx ty:TypeId} {i:cB} (hk:ah Ty t = .slice e) (hi:Ty e = some i) (hs:0 < i.size)
  {a a2:Wr} {l c k n sl c2 dl dc:Nat} {news:List Value} (h:St w (own i.size a l c us :: L)) (hn:news.length = n * i.size) (hx:fp a2 news (hp w)) (h1:∀ u∈news,aH u = true) (h0:0 < n) (hle:k + n<=l) (hd:Nat.min sl dl = n) :
  aU P (Builtin.copy_ (Array.mk [t,tx]) ty (Array.mk [.slice (eJ a k c i.size) dl dc,.slice a2 sl c2])) w λv w'=>v = .int .i64 (n:Int)/\St w' (own i.size a l c (us.take (k * i.size) ++ news ++ us.drop (k * i.size + news.length)) :: L):=by
 obtain ⟨d,hu,hd'⟩:=cD hT hk (by simp)
 rw [du hd'] at hu
 obtain ⟨info,d2,ha⟩:=mP hT hi
 have hnp:0 < news.length:=by rw [hn]; exact Nat.mul_pos h0 hs
 rcases cq h with ⟨_,rfl,_,_⟩ | ⟨b,pre,cs,post,rfl,hc,h2,h3,h4⟩
 ·omega
 obtain ⟨ad,rfl,hr⟩ : ∃ ad,a2 = some ad/\∀ j v,news[j]? = some v->oN (hp w) (ad.add j) = some v:=by
  rcases hx with hx | ⟨ad,e,hx⟩
  ·subst hx; simp at hnp
  ·exact ⟨ad,e,hx⟩
 have hkc:k * i.size + news.length<=us.length:=by
  rw [hn,h2,<- Nat.add_mul]; exact VW _ hle
 obtain ⟨K,hK⟩ : ∃ K,K = k * i.size:=⟨_,rfl⟩
 have hsl:eJ (some ⟨b,pre.length,none⟩) k c i.size = some ⟨b,pre.length + K,none⟩:=by
  unfold eJ
  rw [UE (by omega)]
  show some (Addr.add ⟨b,pre.length,none⟩ (cR k i.size)) = _
  rw [aF,add_lit,hK]
 rw [hsl]
 rw [<- hK] at hkc ⊢
 have hln:(pre ++ (us ++ (cs ++ post))).length = pre.length + us.length + (cs ++ post).length:=by simp only [UG]; omega
 have hfc:(Builtin.firstCells info.size n (.slice (some ad) sl c2)).run P w = .ok news.toArray w:=run_firstCells_some (P:=P) w _ n ad sl c2 news (by rw [hn,ha.size]) (λj v hj=>j5 (hr j v hj))
 have hst:=run_storeCells_cells (P:=P) b (pre.length + K) news 0 w (λj hj=>by
   rw [hc.cell,UB (by omega)]; rfl) (λj hj=>hc.frozen _ _) (λv hv=>by rw [<- Dj]; exact h1 v hv)
 have ev:∀ (news:List Value) (w0 w:Ws) (o:Nat),Ev w0 w->Ev w0 (w.setCells b o news):=by
  intro news
  induction news with
  | nil=>exact λ_ _ _ h=>h
  | cons v r ih=>exact λw0 w o h=>ih w0 _ (o + 1) (h.trans (Ev.setCell w _ v))
 refine ⟨.int .i64 (n:Int),w.setCells b (pre.length + K) news,?_,ev news w w _ (Ev.refl w),rfl,?_⟩
 ·simp [Builtin.copy_,run_underlying hu,Builtin.lenOf,sizeOf,typeInfo,ha.inf,hd,hfc,hst,goInt]
 ·have e0:pre ++ (us ++ (cs ++ post)) = (pre ++ us.take K) ++ (us.drop K ++ (cs ++ post)):=by
   rw [UK,<- UK (us.take K),UY]
  rw [e0] at hc
  have h5:=hc.setCells news (pre ++ us.take K) (us.drop K ++ (cs ++ post)) (by rw [UG,VU]; omega)
  rw [UG,U0,V2 (by omega)] at h5
  have e1:pre ++ us.take K ++ news ++ (us.drop K ++ (cs ++ post)).drop news.length = pre ++ ((us.take K ++ news ++ us.drop (K + news.length)) ++ (cs ++ post)):=by
   rw [List.drop_append_of_le_length (by rw [VU]; omega),List.drop_drop]
   simp only [UK]
  rw [e1] at h5
  have el:(us.take K ++ news ++ us.drop (K + news.length)).length = us.length:=by simp only [UG,U0,VU]; omega
  exact dx h5 (by rw [el]; exact h2) (by rw [UG,el,<- UG]; exact h3) h4
theorem K7 (hT:di P Ty) {t tn ty:TypeId} {i:cB} {z:Value} (hk:ah Ty t = .slice e) (hkn:ah Ty tn = .int .i64) (hi:Ty e = some i) (hz:i.zero = some z) (hzs:(cellsOf z).length = i.size) (hs:0 < i.size)
  {a:Wr} {c m:Nat} (h:St w L) (h0:0 < m) (hg:c < m) (hb:m * i.bytes<=140737488355328) (h63:m<=9223372036854775807) :
  aU P (Builtin.append_ (Array.mk [t,tn]) ty (Array.mk [.slice a 0 c,.int .i64 (m:Int)])) w λv w'=>∃ (o:Wr) (c' : Nat) (us:List Value),v = .slice o m c'/\us.length = m * i.size/\St w' (own i.size o m c' us :: L):=by
 obtain ⟨d,hu,hd'⟩:=cD hT hk (by simp)
 rw [du hd'] at hu
 obtain ⟨dn,hun,hdn⟩:=cD hT hkn (by simp)
 rw [Ha hdn] at hun
 obtain ⟨info,d2,ha⟩:=mP hT hi
 have hzz:z.cells.size = info.size:=by rw [<- ha.size,<- hzs,cM]; simp
 rw [ha.size] at *
 rw [ha.bytes] at hb
 have hold:(Builtin.firstCells info.size 0 (.slice a 0 c)).run P w.drew = .ok ([] : List Value).toArray w.drew:=by
  cases a with
  | none=>exact run_firstCells_none w.drew _ _ _ _
  | some a=>exact run_firstCells_some (P:=P) w.drew _ 0 a 0 c [] (by simp) (λj v hj=>by simp at hj)
 have hr:=Lib.run_append_grow_zeros (P:=P) w t tn ty e info z .i64 .i64 hu hun ha.inf (by rw [<- ha.zero,hz]) a 0 c [] hold m h0 hs (by omega) (by omega) (by omega) (by rw [Vr]; exact growslice_fits hg hb)
 rw [Vr] at hr
 have hge:=grownCap_ge w m c e
 refine ⟨_,_,hr,(Ev.drew w _).trans (Ev.push _ _),_,_,(Builtin.zeroCells z.cells m).toList,rfl,by simp [size_zeroCells,hzz],?_⟩
 have h1:St w.drew L:=h.same rfl
 have h2:=h1.push (.cells (([] : List Value).toArray ++ Builtin.zeroCells z.cells m ++ Builtin.zeroCells z.cells (grownCap w m c e - m)) e)
 have h3:St (w.drew.alloc (.cells (([] : List Value).toArray ++ Builtin.zeroCells z.cells m ++ Builtin.zeroCells z.cells (grownCap w m c e - m)) e)) (aS w.heap.size ((Builtin.zeroCells z.cells m).toList ++ (Builtin.zeroCells z.cells (grownCap w m c e - m)).toList) :: L):=by
  have:(([] : List Value).toArray ++ Builtin.zeroCells z.cells m ++ Builtin.zeroCells z.cells (grownCap w m c e - m)) = ⟨(Builtin.zeroCells z.cells m).toList ++ (Builtin.zeroCells z.cells (grownCap w m c e - m)).toList⟩:=by apply VV; simp
  rw [this] at h2 ⊢; exact gH.2 ⟨_,h2⟩
 refine dR h3 (by simp [size_zeroCells,hzz]) ?_ hge
 rw [UG,Wq,Wq,size_zeroCells,size_zeroCells,hzz,<- Nat.add_mul]
 congr 1; omega
theorem N2 {sz l c m:Nat} {a:Wr} (h:St w (own sz a l c vs :: L)) (hm:l + m<=c):∃ us,us.length = m * sz/\St w (own sz a (l + m) c (vs ++ us) :: L):=by
 rcases cq h with ⟨rfl,rfl,rfl,rfl⟩ | ⟨b,pre,cs,post,rfl,hc,h2,h3,h4⟩
 ·obtain rfl:m = 0:=by omega
  exact ⟨[],by simp,by simpa using h⟩
 ·have hcs:m * sz<=cs.length:=by
   rw [UG,h2] at h3
   have:=VW sz hm
   rw [Nat.add_mul] at this
   omega
  have e1:vs ++ (cs ++ post) = (vs ++ cs.take (m * sz)) ++ (cs.drop (m * sz) ++ post):=by
   rw [UK,<- UK (cs.take _),UY]
  rw [e1] at hc
  refine ⟨cs.take (m * sz),by rw [U0]; omega,dx hc ?_ ?_ hm⟩
  ·rw [UG,U0,h2,V2 hcs,Nat.add_mul]
  ·rw [<- h3,UK,UY]
theorem Sb {k:Nat} (h:St w (aS k us :: aS b vs :: L)):k≠b:=by
 rintro rfl
 obtain ⟨h1,h2,d,s1,s2,⟨e1,ha⟩,h3,h4,d',s3,s4,⟨e2,hb⟩,_⟩:=h
 rcases d k with h | h
 ·rw [h] at ha; cases ha
 ·rw [s3 _ _ hb] at h; cases h
theorem Gz (hT : di P Ty) {g : FuncId} {fn : Func} {tS tR : TypeId} {i : cB} (hf : P.funcs[g]? = some fn) (hname : (fn.name == "runtime.NumGoroutine") = false) (hb : fn.body.isNone = true) (hn : Extern.findNext fn = none) (he : Extern.find fn = some (Extern.SlicesOverlaps.overlaps #[tS, tS] #[tR]))
  (hk:ah Ty tS = .slice e) (hi:Ty e = some i) {k l2 c2 lb cb o:Nat} (h:St w (aS k us :: aS b vs :: L)) (hv:vs≠[]) {K:Value->Ws->Prop} (hK:K (.bool false) w) :
  Q2 P g [.slice (some ⟨k,0,none⟩) l2 c2,.slice (some ⟨b,o,none⟩) lb cb] w K:=by
 obtain ⟨d,hu,hd'⟩:=cD hT hk (by simp)
 rw [du hd'] at hu
 obtain ⟨info,d2,ha⟩:=mP hT hi
 obtain ⟨e1,h1⟩:=gH.1 h
 obtain ⟨e2,h2⟩:=gH.1 h.tail
 have g1:=h1.get
 have g2:=h2.get
 refine ⟨.bool false,w,?_,Ev.refl w,hK⟩
 rw [run_callFunc_extern hf hname hb hn he,show (Extern.SlicesOverlaps.overlaps #[tS,tS] #[tR]) (Array.mk [.slice (some ⟨k,0,none⟩) l2 c2,.slice (some ⟨b,o,none⟩) lb cb]) = (Extern.SlicesOverlaps.overlaps #[tS,tS] #[tR]) #[.slice (some ⟨k,0,none⟩) l2 c2,.slice (some ⟨b,o,none⟩) lb cb] from rfl,
  Lib.run_overlaps_apart w tS tR e hu info.size (λw=>bJ ha.inf) ⟨k,0,none⟩ ⟨b,o,none⟩ l2 c2 lb cb (Sb h) e1 e2 us.length vs.length (by simp [World.shape?,g1]) (by simp [World.shape?,g2]) (by simpa using hv) (h.frozen 0 none) (h.frozen _ _)]
 rfl
end
end Go.V
namespace Go.Proofs.YtndaepmjkbmjmaaGreatDoor
abbrev qR:FuncId:=15
def xx:bh:={ rngs:=[],loops:=[],joins:=[],blocks:=[] }
theorem xy {a:Wr} {b c:Nat} {d:Wr} {e f:Nat} {g:Wr} {i j:Nat} {k:Int} {l:Wr} {m n:Nat} {w:Ws} {R:Value->WP} (h:new w (oC [vS a b c,vS d e f,vS g i j,iI k,vS l m n] 27) λk1 w1=>∃ o1 k2 k3 o2 k4 k5 o3 k6 k7 n1 o4 k8 k9,rA w1 (aM k1) 5 [vS o1 k2 k3,vS o2 k4 k5,vS o3 k6 k7,iI n1,vS o4 k8 k9]/\rE 42 [vG [vS o1 k2 k3,vS o2 k4 k5,vS o3 k6 k7,iI n1,vS o4 k8 k9],iI 1] w1 λv1 w2=>∃ o5 k10 k11 n2,v1 = vU [vS o5 k10 k11,iI n2]/\R (vU [vS o5 k10 k11,iI n2]) w2):ay Tryz.prog 15 [(.agg #[(.slice a b c),(.slice d e f),(.slice g i j),(.int .i64 k),(.slice l m n)])] w R:=rv Tryz.func15 xx (by kernel_rfl) h
abbrev oO:FuncId:=21
def vY:bh:={ rngs:=[],loops:=[],joins:=[],blocks:=[] }
theorem vZ {a:Wr} {b c:Nat} {d:Wr} {e f:Nat} {g:Wr} {i j:Nat} {k:Int} {l:Wr} {m n:Nat} {w:Ws} {R:Value->WP} (h:new w (oC [vS a b c,vS d e f,vS g i j,iI k,vS l m n] 27) λk1 w1=>∃ o1 k2 k3 o2 k4 k5 o3 k6 k7 n1 o4 k8 k9,rA w1 (aM k1) 5 [vS o1 k2 k3,vS o2 k4 k5,vS o3 k6 k7,iI n1,vS o4 k8 k9]/\rE 42 [vG [vS o1 k2 k3,vS o2 k4 k5,vS o3 k6 k7,iI n1,vS o4 k8 k9],iI 2] w1 λv1 w2=>∃ o5 k10 k11 n2,v1 = vU [vS o5 k10 k11,iI n2]/\R (vU [vS o5 k10 k11,iI n2]) w2):ay Tryz.prog 21 [(.agg #[(.slice a b c),(.slice d e f),(.slice g i j),(.int .i64 k),(.slice l m n)])] w R:=rv Tryz.func21 vY (by kernel_rfl) h
abbrev BP:FuncId:=42
def yR:bh:={ rngs:=[],loops:=[(6,[(9,(.one .slice)),(23,(.one (.int .i64)))]),(9,[(9,(.one .slice)),(29,(.one (.int .i64)))])],joins:=[],blocks:=[] }
theorem yS {a:Wr} {b c:Nat} {d:Wr} {e f:Nat} {g:Wr} {i j:Nat} {k:Int} {l:Wr} {m n:Nat} {o:Int} {w:Ws} {R:Value->WP} (h:new w (oC [vS a b c,vS d e f,vS g i j,iI k,vS l m n] 27) λk1 w1=>∃ o1 k2 k3 o2 k4 k5 o3 k6 k7 n1 o4 k8 k9,rA w1 (aM k1) 5 [vS o1 k2 k3,vS o2 k4 k5,vS o3 k6 k7,iI n1,vS o4 k8 k9]/\rE 48 [vG [vS o1 k2 k3,vS o2 k4 k5,vS o3 k6 k7,iI n1,vS o4 k8 k9]] w1 λv1 w2=>∃ o5 n2 n3,v1 = vU [Value.map o5,iI n2,iI n3]/\br (n3 != 0) (R (vU [vS none 0 0,iI n3]) w2) (∃ (x1:lP [(9,mL),(23,aD)]),∃ (x2:lN [(9,mL),(23,aD)]),x1 none 0 0 0 w2/\∀ (I1:Nat->Value) (o6:Wr) (k10 k11:Nat) (n4:Int) (w3:Ws),x1 o6 k10 k11 n4 w3->br (decide (n4 < n2)) (∃ o7 k12 k13,cL w3 (aM k1) (vS o7 k12 k13)/\∃ (x3:lP [(9,mL),(29,aD)]),∃ (x4:lN [(9,mL),(29,aD)]),x3 o6 k10 k11 0 w3/\∀ (I2:Nat->Value) (o8:Wr) (k14 k15:Nat) (n5:Int) (w4:Ws),x3 o8 k14 k15 n5 w4->br (decide (n5 < (k12:Int))) (aU Proofs.Tryz.prog (Instr.lookup 91 (Value.map o5) (vG [iI n4,iI n5]) false) w4 λv2 w5=>∃ o9 k16 k17,v2 = vS o9 k16 k17/\br (decide (o<=(k16:Int))) (new w5 (oC [iI n4,iI n5,vS o9 k16 k17] 60) λk18 w6=>rS (jT 29 (Array.mk [vS o8 k14 k15,vS (some (aM k18)) 1 1])) w6 λv3 w7=>∃ o10 k19 k20,v3 = vS o10 k19 k20/\aw (n5 + 1)/\x3 o10 k19 k20 (n5 + 1) w7/\x4 o10 k19 k20 (n5 + 1) w7 < x4 o8 k14 k15 n5 w4) (aw (n5 + 1)/\x3 o8 k14 k15 (n5 + 1) w5/\x4 o8 k14 k15 (n5 + 1) w5 < x4 o8 k14 k15 n5 w4)) (aw (n4 + 1)/\x1 o8 k14 k15 (n4 + 1) w4/\x2 o8 k14 k15 (n4 + 1) w4 < x2 o6 k10 k11 n4 w3)) (R (vU [vS o6 k10 k11,iI 0]) w3))):ay Tryz.prog 42 [(.agg #[(.slice a b c),(.slice d e f),(.slice g i j),(.int .i64 k),(.slice l m n)]),(.int .i64 o)] w R:=rv Tryz.func42 yR (by kernel_rfl) h
abbrev AZ:FuncId:=48
def xz:bh:={ rngs:=[],loops:=[(9,[(37,(.one (.int .i64)))]),(12,[(45,(.one (.int .i64)))]),(22,[(81,(.one (.int .i64)))]),(25,[(88,(.one (.int .i64)))])],joins:=[],blocks:=[] }
theorem xB {a:Wr} {b c:Nat} {d:Wr} {e f:Nat} {g:Wr} {i j:Nat} {k:Int} {l:Wr} {m n:Nat} {w:Ws} {R:Value->WP} (h:new w (oC [vS a b c,vS d e f,vS g i j,iI k,vS l m n] 27) λk1 w1=>∃ o1 k2 k3 o2 k4 k5 o3 k6 k7 n1 o4 k8 k9,rA w1 (aM k1) 5 [vS o1 k2 k3,vS o2 k4 k5,vS o3 k6 k7,iI n1,vS o4 k8 k9]/\rE 26 [vG [vS o1 k2 k3,vS o2 k4 k5,vS o3 k6 k7,iI n1,vS o4 k8 k9]] w1 λv1 w2=>∃ o5 k10 k11 n2 n3 n4,v1 = vU [vG [vS o5 k10 k11,iI n2,iI n3],iI n4]/\new w2 (oC [vS none 0 0,iI 0,iI 0] 45) λk12 w3=>cG w3 (aM k12) [vS o5 k10 k11,iI n2,iI n3] λw4=>br (n4 != 0) (R (vU [Value.map none,iI 0,iI n4]) w4) (∃ o6 k13 k14 o7 k15 k16 o8 k17 k18 n5 o9 k19 k20,rA w4 (aM k1) 5 [vS o6 k13 k14,vS o7 k15 k16,vS o8 k17 k18,iI n5,vS o9 k19 k20]/\rE 27 [vG [vS o6 k13 k14,vS o7 k15 k16,vS o8 k17 k18,iI n5,vS o9 k19 k20]] w4 λv2 w5=>∃ o10 k21 k22 n6,v2 = vU [vS o10 k21 k22,iI n6]/\br (n6 != 0) (R (vU [Value.map none,iI 0,iI n6]) w5) (new w5 (Obj.map (Array.mk []) 0) λk23 w6=>∃ o11 k24 k25,cL w6 (aM k12) (vS o11 k24 k25)/\∃ (x1:lP [(37,aD)]),∃ (x2:lN [(37,aD)]),x1 0 w6/\∀ (I1:Nat->Value) (n7:Int) (w7:Ws),x1 n7 w7->br (decide (n7 < (k24:Int))) (idx o11 k24 n7 2 λa1=>∃ o12 k26 k27 o13 k28 k29,rA w7 a1 2 [vS o12 k26 k27,vS o13 k28 k29]/\new w7 (oC [vS none 0 0,vS none 0 0] 54) λk30 w8=>cG w8 (aM k30) [vS o12 k26 k27,vS o13 k28 k29] λw9=>∃ o14 k31 k32,cL w9 (Addr.add (aM k30) 1) (vS o14 k31 k32)/\∃ (x3:lP [(45,aD)]),∃ (x4:lN [(45,aD)]),x3 0 w9/\∀ (I2:Nat->Value) (n8:Int) (w10:Ws),x3 n8 w10->br (decide (n8 < (k31:Int))) (idx o14 k31 n8 2 λa2=>∃ n9 n10,rA w10 a2 2 [iI n9,iI n10]/\new w10 (oC [iI 0,iI 0] 56) λk33 w11=>cG w11 (aM k33) [iI n9,iI n10] λw12=>∃ n11,cL w12 (aM k33) (iI n11)/\∃ o15 k34 k35,cL w12 (aM k1) (vS o15 k34 k35)/\br (decide (n11 < (k34:Int))) (∃ n12,cL w12 (aM k33) (iI n12)/\∃ n13,cL w12 (Addr.add (aM k33) 1) (iI n13)/\new w12 (oC [iI 1,iI n13] 62) λk36 w13=>rE 85 [Value.map (some k23),vG [iI n7,iI n12],vS (some (aM k36)) 1 1] w13 λv3 w14=>v3 = vU []/\aw (n8 + 1)/\x3 (n8 + 1) w14/\x4 (n8 + 1) w14 < x4 n8 w10) (aw (n8 + 1)/\x3 (n8 + 1) w12/\x4 (n8 + 1) w12 < x4 n8 w10)) (∃ o16 k37 k38,cL w10 (aM k30) (vS o16 k37 k38)/\rE 86 [vS o16 k37 k38,vG [iI 0,iI 1]] w10 λv4 w15=>∃ b1,v4 = vB b1/\br b1 (new w15 (oC [iI 3,iI 0] 62) λk39 w16=>rE 85 [Value.map (some k23),vG [iI n7,iI 0],vS (some (aM k39)) 1 1] w16 λv5 w17=>v5 = vU []/\aw (n7 + 1)/\x1 (n7 + 1) w17/\x2 (n7 + 1) w17 < x2 n7 w7) (aw (n7 + 1)/\x1 (n7 + 1) w15/\x2 (n7 + 1) w15 < x2 n7 w7))) (rE 87 [vS o10 k21 k22,Value.func (Fn.func 88) (Array.mk []) (Array.mk [])] w7 λv6 w18=>v6 = vU []/\∃ (x5:lP [(81,aD)]),∃ (x6:lN [(81,aD)]),x5 0 w18/\∀ (I3:Nat->Value) (n14:Int) (w19:Ws),x5 n14 w19->br (decide (n14 < (k21:Int))) (idx o10 k21 n14 3 λa3=>∃ n15 n16 o17 k40 k41,rA w19 a3 3 [iI n15,iI n16,vS o17 k40 k41]/\new w19 (oC [iI 0,iI 0,vS none 0 0] 58) λk42 w20=>cG w20 (aM k42) [iI n15,iI n16,vS o17 k40 k41] λw21=>∃ o18 k43 k44,cL w21 (Addr.add (aM k42) 2) (vS o18 k43 k44)/\∃ (x7:lP [(88,aD)]),∃ (x8:lN [(88,aD)]),x7 0 w21/\∀ (I4:Nat->Value) (n17:Int) (w22:Ws),x7 n17 w22->br (decide (n17 < (k43:Int))) (idx o18 k43 n17 1 λa4=>∃ n18,cL w22 a4 (iI n18)/\∃ n19,cL w22 (aM k42) (iI n19)/\∃ n20,cL w22 (Addr.add (aM k42) 1) (iI n20)/\new w22 (oC [iI 2,iI n20] 62) λk45 w23=>rE 85 [Value.map (some k23),vG [iI n19,iI n18],vS (some (aM k45)) 1 1] w23 λv7 w24=>v7 = vU []/\aw (n17 + 1)/\x7 (n17 + 1) w24/\x8 (n17 + 1) w24 < x8 n17 w22) (aw (n14 + 1)/\x5 (n14 + 1) w22/\x6 (n14 + 1) w22 < x6 n14 w19)) (∀ w25,drawn w19 w25->∃ (I5:WP),I5 w25/\∃ o19 k46 k47,(∀ w26,I5 w26->cL w26 (aM k12) (vS o19 k46 k47))/\R (vU [Value.map (some k23),iI (k46:Int),iI 0]) w25))))):ay Tryz.prog 48 [(.agg #[(.slice a b c),(.slice d e f),(.slice g i j),(.int .i64 k),(.slice l m n)])] w R:=rv Tryz.func48 xz (by kernel_rfl) h
abbrev v_:FuncId:=85
def sU:bh:={ rngs:=[],loops:=[],joins:=[],blocks:=[] }
theorem sV {a:Option Nat} {b c:Int} {d:Wr} {e f:Nat} {w:Ws} {R:Value->WP} (h:new w (oC [iI b,iI c] 95) λk1 w1=>∃ n1 n2,rA w1 (aM k1) 2 [iI n1,iI n2]/\aU Proofs.Tryz.prog (Instr.mapEntry 91 (Value.map a) (vG [iI n1,iI n2])) w1 λv1 w2=>∃ o1 k2 k3 n3,v1 = vU [vS o1 k2 k3,iI n3]/\rS (jT 38 (Array.mk [vS o1 k2 k3,vS d e f])) w2 λv2 w3=>∃ o2 k4 k5,v2 = vS o2 k4 k5/\aU Proofs.Tryz.prog (Instr.entryStore 91 (Value.map a) (iI n3) (vS o2 k4 k5)) w3 λ(x1:Unit) (w4:Ws)=>R (vU []) w4):ay Tryz.prog 85 [(.map a),(.agg #[(.int .i64 b),(.int .i64 c)]),(.slice d e f)] w R:=rv Tryz.func85 sU (by kernel_rfl) h
abbrev mh:FuncId:=88
def sW:bh:={ rngs:=[],loops:=[],joins:=[],blocks:=[] }
theorem sZ {a b:Int} {c:Wr} {d e:Nat} {f g:Int} {i:Wr} {j k:Nat} {w:Ws} {R:Value->WP} (h:new w (oC [iI a,iI b,vS c d e] 58) λk1 w1=>new w1 (oC [iI f,iI g,vS i j k] 58) λk2 w2=>∃ n1,cL w2 (Addr.add (aM k1) 1) (iI n1)/\∃ n2,cL w2 (Addr.add (aM k2) 1) (iI n2)/\aw (n1 - n2)/\R (iI (n1 - n2)) w2):ay Tryz.prog 88 [(.agg #[(.int .i64 a),(.int .i64 b),(.slice c d e)]),(.agg #[(.int .i64 f),(.int .i64 g),(.slice i j k)])] w R:=rv Tryz.func88 sW (by kernel_rfl) h
end Go.Proofs.YtndaepmjkbmjmaaGreatDoor
namespace Go.V
instance:jW ew:={ val:=λk=>.agg ⟨[.int .i64 k.st,.int .i64 k.tm]⟩,inj:=λa b h=>by cases a; cases b; simp at h; obtain ⟨h1,h2⟩:=h; subst h1; subst h2; rfl,a:=ew.st,b:=ew.tm,val2:=λ_=>rfl,ext:=λk l h1 h2=>by cases k; cases l; cases h1; cases h2; rfl }
def bD (x:ax):List Value:=[.int .i64 x.kind,.int .i64 x.to]
def cZ (xs:List ax):List Value:=xs.flatMap bD
theorem gF (xs:List ax):(cZ xs).length = xs.length * 2:=kQ (f:=bD) (n:=2) (λ_=>rfl) xs
theorem zm (xs ys:List ax):cZ (xs ++ ys) = cZ xs ++ cZ ys:=U_
instance:nQ ax:={ n:=2,rd:=λ_ x vs=>vs = bD x,mono:=λ_ h=>h,len:=λh=>by rw [h]; rfl }
def yT (ps:List (ew × Lq ax)) (pt:xu):Prop:=(ps.map Prod.fst).Nodup/\∀ p,gq p ps = Bk pt p
theorem yT.nil:yT [] []:=⟨by simp,λp=>rfl⟩
theorem yT.put {ps:List (ew × Lq ax)} {pt:xu} (h:yT ps pt) {p:ew} {a:ax} {q:Lq ax} (hq:q.2 = gq p ps ++ [a]):yT (jN p q ps) (pt ++ [(p,a)]):=by
 refine ⟨DU _ h.1,λk=>?_⟩
 rw [js,zj]
 by_cases e:k = p
 ·subst e; rw [UJ rfl,hq,h.2]; simp [Bk]
 ·rw [UE e,h.2]
  have:Bk [(p,a)] k = []:=AR λx hx e2=>by simp at hx; subst hx; exact e e2.symm
  rw [this,U3]
end Go.V
namespace Go.Proofs.YtndaepmjkbmjmaaGreatDoor
variable {w:Ws} {L:List au} {g:ae} {x:GA}
theorem K8 : SC Tryz.prog qk cT { name := "state", type := cT, offset := 0, embedded := false, tag := "", pkgPath := "presage/table", byteOffset := 0 } { name := "term", type := cT, offset := 1, embedded := false, tag := "", pkgPath := "presage/table", byteOffset := 8 } where
 ht:=by kernel_rfl
 hf:=by kernel_rfl
 hi:=bp
 ht0:=rfl
 ht1:=rfl
 n0:=by decide
 n1:=by decide
 o0:=rfl
 o1:=rfl
 sih:=yB
theorem CW:qi Tryz.prog qk ew:=qi.two K8
theorem N3 {b ka:Nat} {ps:List (ew × Lq ax)} {pt:xu} {q t:Int} {a:ax} (h:St w (aS ka (bD a) :: mapA b (mV ps) :: aT (mO 2 cZ ps) :: L)) (hG:yT ps pt) (hb:pt.length<=100000000) :
  ay Tryz.prog v_ [.map (some b),.agg #[.int .i64 q,.int .i64 t],.slice (some (aM ka)) 1 1] w λv w'=>v = .tuple #[]/\∃ ps',yT ps' (pt ++ [(⟨q,t⟩,a)])/\St w' (mapA b (mV ps') :: aT (mO 2 cZ ps') :: L):=by
 refine sV (af h λk1 w1 h=>⟨_,_,(ag 0 h.l).at (sub.refl _) rfl,?_⟩)
 refine (map_take (κ:=ew) aL (rfl:ah Ty _ = .map _ _) CW rfl rfl (h.pick 3 [2,0,1]) ⟨q,t⟩).mono ?_
 rintro _ w2 ⟨n,rfl,h⟩
 obtain ⟨e,M,e1,e2,he,back⟩:=ob rfl (h.pick 4 [3,0,1,2]) ⟨q,t⟩
 have hel:e.2.length<=pt.length:=by
  rw [e2,hG.2]
  unfold Bk
  rw [UH]
  exact Vm _ _
 rw [e1] at he ⊢
 refine ⟨_,_,_,_,rfl,?_⟩
 refine (aW (us:=cZ e.2) (vs:=bD a) aL (rfl:ah Ty _ = .slice _) (rfl:ah Ty _ = .slice _) rfl rfl rfl (he.pick 5 [4,0,1,2,3]) rfl (by simp [aH,bD]) (by show (e.2.length + 1) * 16<=_; omega) (by omega)).mono ?_
 rintro _ w3 ⟨o',c',rfl,h⟩
 refine ⟨_,_,_,rfl,(F8 (h.pick 5 [3,0,2]) _).mono ?_⟩
 rintro _ w4 h
 rw [rU] at h
 have h:=tX back (e.2 ++ [a]) (by simp) (by rw [zm]; rfl) h
 exact ⟨rfl,_,hG.put (by show e.2 ++ [a] = _; rw [e2]),h⟩
end Go.Proofs.YtndaepmjkbmjmaaGreatDoor
namespace Go.V
section
variable {α : Type} {f:α->List Value} {sz n c i:Nat} {w:Ws} {L:List au} {o:Wr} {xs:List α}
theorem Ur (hf:∀ x,(f x).length = sz) (h0:0 < sz) (h:St w (own sz o n c (xs.flatMap f) :: L)) {x:α} (hx:xs[i]? = some x):∃ ad,o = some ad/\av (hp w) (ad.add (cR i sz)) (f x):=by
 rcases ee 0 h.l with e | ⟨ad,e,hc⟩
 ·have h1:=congrArg List.length e
  rw [kQ hf,VB] at h1
  have h2:=(UA.1 hx).1
  have:0 < xs.length * sz:=Nat.mul_pos (by omega) h0
  omega
 ·exact ⟨ad,e,bZ hf xs ad hc i x hx⟩
theorem N4 (hf:∀ x,(f x).length = sz) {y:α} (hi:i < xs.length):(xs.flatMap f).take (i * sz) ++ f y ++ (xs.flatMap f).drop (i * sz + (f y).length) = (xs.set i y).flatMap f:=by
 have e:xs = xs.take i ++ xs[i] :: xs.drop (i + 1):=by rw [<- Vk hi,UY]
 have l1:((xs.take i).flatMap f).length = i * sz:=by rw [kQ hf,U0]; congr 1; omega
 have e1:xs.flatMap f = (xs.take i).flatMap f ++ (f xs[i] ++ (xs.drop (i + 1)).flatMap f):=by
  have:=congrArg (λl=>l.flatMap f) e
  simp only [U_,U6] at this
  exact this
 have e2:(xs.set i y).flatMap f = (xs.take i).flatMap f ++ (f y ++ (xs.drop (i + 1)).flatMap f):=by
  rw [List.set_eq_take_append_cons_drop,UJ hi,U_,U6]
 rw [e1,e2,<- l1,List.take_left,hf,<- hf xs[i],UK]
 congr 2
 rw [List.drop_append,VS (by omega),Vp,Ve,List.drop_left]
theorem Us (hf:∀ x,(f x).length = sz) (h0:0 < sz) (h1:∀ x,∀ v∈f x,aH v = true) {ad:Addr} {y:α} {k:Ws->Prop} (h:St w (own sz o n c (xs.flatMap f) :: L)) (ha:o = some ad) (hi:i < xs.length) (hk:∀ w',St w' (own sz o n c ((xs.set i y).flatMap f) :: L)->k w'):cG w (ad.add (cR i sz)) (f y) k:=by
 rw [aF]
 refine vq h ha ?_ (h1 y) (by rw [hf]; exact h0) λw' h=>hk w' ?_
 ·rw [kQ hf,hf]
  have:(i + 1) * sz<=xs.length * sz:=VW _ hi
  rw [V0] at this
  exact this
 ·rw [N4 hf hi] at h; exact h
end
end Go.V
namespace Go.Proofs.YtndaepmjkbmjmaaGreatDoor
abbrev dP:FuncId:=87
def dC:bh:={ rngs:=[],loops:=[],joins:=[],blocks:=[] }
theorem dD {a:Wr} {b c:Nat} {d:FuncId} {e:List Value} {w:Ws} {R:Value->WP} (h:rE 137 [vS a b c,iI (b:Int),Value.func (Fn.func d) (Array.mk []) (Array.mk e)] w λv1 w1=>v1 = vU []/\R (vU []) w1):ay Tryz.prog 87 [(.slice a b c),(.func (.func d) #[] ⟨e⟩)] w R:=rv Tryz.func87 dC (by kernel_rfl) h
abbrev iH:FuncId:=137
def gV:bh:={ rngs:=[],loops:=[(2,[(7,(.one (.int .i64))),(8,(.one (.int .i64)))]),(7,[(6,(.one (.int .i64)))]),(9,[(7,(.one (.int .i64))),(8,(.one (.int .i64)))])],joins:=[],blocks:=[] }
theorem gW {a:Wr} {b c:Nat} {d:Int} {e:FuncId} {f:List Value} {w:Ws} {R:Value->WP} (h:∃ (x1:lP [(7,aD),(8,aD)]),∃ (x2:lN [(7,aD),(8,aD)]),x1 0 20 w/\∀ (I1:Nat->Value) (n1 n2:Int) (w1:Ws),x1 n1 n2 w1->br (decide (n2<=d)) (rE 181 [vS a b c,iI n1,iI n2,Value.func (Fn.func e) (Array.mk []) (Array.mk f)] w1 λv1 w2=>v1 = vU []/\aw (n2 + 20)/\x1 n2 (n2 + 20) w2/\x2 n2 (n2 + 20) w2 < x2 n1 n2 w1) (rE 181 [vS a b c,iI n1,iI d,Value.func (Fn.func e) (Array.mk []) (Array.mk f)] w1 λv2 w3=>v2 = vU []/\∃ (x3:lP [(6,aD)]),∃ (x4:lN [(6,aD)]),x3 20 w3/\∀ (I2:Nat->Value) (n3:Int) (w4:Ws),x3 n3 w4->br (decide (n3 < d)) (aw (2 * n3)/\∃ (x5:lP [(7,aD),(8,aD)]),∃ (x6:lN [(7,aD),(8,aD)]),x5 0 (2 * n3) w4/\∀ (I3:Nat->Value) (n4 n5:Int) (w5:Ws),x5 n4 n5 w5->br (decide (n5<=d)) (aw (n4 + n3)/\rE 182 [vS a b c,iI n4,iI (n4 + n3),iI n5,Value.func (Fn.func e) (Array.mk []) (Array.mk f)] w5 λv3 w6=>v3 = vU []/\aw (2 * n3)/\aw (n5 + 2 * n3)/\x5 n5 (n5 + 2 * n3) w6/\x6 n5 (n5 + 2 * n3) w6 < x6 n4 n5 w5) (aw (n4 + n3)/\br (decide (n4 + n3 < d)) (rE 182 [vS a b c,iI n4,iI (n4 + n3),iI d,Value.func (Fn.func e) (Array.mk []) (Array.mk f)] w5 λv4 w7=>v4 = vU []/\aw (n3 * 2)/\x3 (n3 * 2) w7/\x4 (n3 * 2) w7 < x4 n3 w4) (aw (n3 * 2)/\x3 (n3 * 2) w5/\x4 (n3 * 2) w5 < x4 n3 w4))) (R (vU []) w4))):ay Tryz.prog 137 [(.slice a b c),(.int .i64 d),(.func (.func e) #[] ⟨f⟩)] w R:=rv Tryz.func137 gV (by kernel_rfl) h
abbrev eL:FuncId:=181
def dT:bh:={ rngs:=[],loops:=[(1,[(8,(.one (.int .i64)))]),(4,[(9,(.one (.int .i64)))])],joins:=[],blocks:=[] }
theorem dU {a:Wr} {b c:Nat} {d e:Int} {f:FuncId} {g:List Value} {w:Ws} {R:Value->WP} (h:aw (d + 1)/\∃ (x1:lP [(8,aD)]),∃ (x2:lN [(8,aD)]),x1 (d + 1) w/\∀ (I1:Nat->Value) (n1:Int) (w1:Ws),x1 n1 w1->br (decide (n1 < e)) (∃ (x3:lP [(9,aD)]),∃ (x4:lN [(9,aD)]),x3 n1 w1/\∀ (I2:Nat->Value) (n2:Int) (w2:Ws),x3 n2 w2->∀ w3,drawn w2 w3->∃ (I3:WP),I3 w3/\br (decide (d < n2)) (idx a b n2 3 λa1=>∃ n3 n4 o1 k1 k2,(∀ w4,I3 w4->V.rowAt w4 a1 0 3 = some [iI n3,iI n4,vS o1 k1 k2])/\aw (n2 - 1)/\idx a b (n2 - 1) 3 λa2=>∃ n5 n6 o2 k3 k4,(∀ w5,I3 w5->V.rowAt w5 a2 0 3 = some [iI n5,iI n6,vS o2 k3 k4])/\uI (Proofs.YtndaepmjkbmjmaaGreatDoor.Fn f) (rE f (vG [iI n3,iI n4,vS o1 k1 k2] :: vG [iI n5,iI n6,vS o2 k3 k4] :: g) w3 λv1 w6=>∃ n7,v1 = iI n7/\I3 w6/\br (decide (n7 < 0)) (∀ w7,drawn w6 w7->∃ (I4:WP),I4 w7/\aw (n2 - 1)/\aw (n2 - 1)/\idx a b (n2 - 1) 3 λa3=>∃ n8 n9 o3 k5 k6,(∀ w8,I4 w8->V.rowAt w8 a3 0 3 = some [iI n8,iI n9,vS o3 k5 k6])/\idx a b n2 3 λa4=>∃ n10 n11 o4 k7 k8,(∀ w9,I4 w9->V.rowAt w9 a4 0 3 = some [iI n10,iI n11,vS o4 k7 k8])/\idx a b n2 3 λa5=>cG w7 a5 [iI n8,iI n9,vS o3 k5 k6] λw10=>idx a b (n2 - 1) 3 λa6=>cG w10 a6 [iI n10,iI n11,vS o4 k7 k8] λw11=>aw (n2 - 1)/\x3 (n2 - 1) w11/\x4 (n2 - 1) w11 < x4 n2 w2) (aw (n1 + 1)/\x1 (n1 + 1) w6/\x2 (n1 + 1) w6 < x2 n1 w1))) (aw (n1 + 1)/\x1 (n1 + 1) w3/\x2 (n1 + 1) w3 < x2 n1 w1)) (R (vU []) w1)):ay Tryz.prog 181 [(.slice a b c),(.int .i64 d),(.int .i64 e),(.func (.func f) #[] ⟨g⟩)] w R:=rv Tryz.func181 dT (by kernel_rfl) h
abbrev aJ:FuncId:=182
def fT:bh:={ rngs:=[],loops:=[(3,[(10,(.one (.int .i64))),(11,(.one (.int .i64)))]),(9,[(13,(.one (.int .i64)))]),(15,[(14,(.one (.int .i64))),(15,(.one (.int .i64)))]),(21,[(17,(.one (.int .i64)))]),(33,[(20,(.one (.int .i64))),(21,(.one (.int .i64)))])],joins:=[(32,[(20,(.one (.int .i64))),(21,(.one (.int .i64)))]),(41,[])],blocks:=[] }
theorem fU {a:Wr} {b c:Nat} {d e f:Int} {g:FuncId} {i:List Value} {w:Ws} {R:Value->WP} (h:aw (e - d)/\br (e - d == 1) (∃ (x1:lP [(10,aD),(11,aD)]),∃ (x2:lN [(10,aD),(11,aD)]),x1 e f w/\∀ (I1:Nat->Value) (n1 n2:Int) (w1:Ws),x1 n1 n2 w1->br (decide (n1 < n2)) (aw (n1 + n2)/\ns 1/\aw (bw IntKind.u64 (IntKind.wrap IntKind.u64 (n1 + n2)) 1)/\∀ w2,drawn w1 w2->∃ (I2:WP),I2 w2/\idx a b (bw IntKind.u64 (IntKind.wrap IntKind.u64 (n1 + n2)) 1) 3 λa1=>∃ n3 n4 o1 k1 k2,(∀ w3,I2 w3->V.rowAt w3 a1 0 3 = some [iI n3,iI n4,vS o1 k1 k2])/\idx a b d 3 λa2=>∃ n5 n6 o2 k3 k4,(∀ w4,I2 w4->V.rowAt w4 a2 0 3 = some [iI n5,iI n6,vS o2 k3 k4])/\uI (Proofs.YtndaepmjkbmjmaaGreatDoor.Fn g) (rE g (vG [iI n3,iI n4,vS o1 k1 k2] :: vG [iI n5,iI n6,vS o2 k3 k4] :: i) w2 λv1 w5=>∃ n7,v1 = iI n7/\I2 w5/\br (decide (n7 < 0)) (aw (bw IntKind.u64 (IntKind.wrap IntKind.u64 (n1 + n2)) 1 + 1)/\x1 (bw IntKind.u64 (IntKind.wrap IntKind.u64 (n1 + n2)) 1 + 1) n2 w5/\x2 (bw IntKind.u64 (IntKind.wrap IntKind.u64 (n1 + n2)) 1 + 1) n2 w5 < x2 n1 n2 w1) (x1 n1 (bw IntKind.u64 (IntKind.wrap IntKind.u64 (n1 + n2)) 1) w5/\x2 n1 (bw IntKind.u64 (IntKind.wrap IntKind.u64 (n1 + n2)) 1) w5 < x2 n1 n2 w1))) (∃ (x3:lP [(13,aD)]),∃ (x4:lN [(13,aD)]),x3 d w1/\∀ (I3:Nat->Value) (n8:Int) (w6:Ws),x3 n8 w6->aw (n1 - 1)/\br (decide (n8 < n1 - 1)) (∀ w7,drawn w6 w7->∃ (I4:WP),I4 w7/\aw (n8 + 1)/\aw (n8 + 1)/\idx a b (n8 + 1) 3 λa3=>∃ n9 n10 o3 k5 k6,(∀ w8,I4 w8->V.rowAt w8 a3 0 3 = some [iI n9,iI n10,vS o3 k5 k6])/\idx a b n8 3 λa4=>∃ n11 n12 o4 k7 k8,(∀ w9,I4 w9->V.rowAt w9 a4 0 3 = some [iI n11,iI n12,vS o4 k7 k8])/\idx a b n8 3 λa5=>cG w7 a5 [iI n9,iI n10,vS o3 k5 k6] λw10=>idx a b (n8 + 1) 3 λa6=>cG w10 a6 [iI n11,iI n12,vS o4 k7 k8] λw11=>aw (n8 + 1)/\x3 (n8 + 1) w11/\x4 (n8 + 1) w11 < x4 n8 w6) (R (vU []) w6))) (aw (f - e)/\br (f - e == 1) (∃ (x5:lP [(14,aD),(15,aD)]),∃ (x6:lN [(14,aD),(15,aD)]),x5 d e w/\∀ (I5:Nat->Value) (n13 n14:Int) (w12:Ws),x5 n13 n14 w12->br (decide (n13 < n14)) (aw (n13 + n14)/\ns 1/\aw (bw IntKind.u64 (IntKind.wrap IntKind.u64 (n13 + n14)) 1)/\∀ w13,drawn w12 w13->∃ (I6:WP),I6 w13/\idx a b e 3 λa7=>∃ n15 n16 o5 k9 k10,(∀ w14,I6 w14->V.rowAt w14 a7 0 3 = some [iI n15,iI n16,vS o5 k9 k10])/\idx a b (bw IntKind.u64 (IntKind.wrap IntKind.u64 (n13 + n14)) 1) 3 λa8=>∃ n17 n18 o6 k11 k12,(∀ w15,I6 w15->V.rowAt w15 a8 0 3 = some [iI n17,iI n18,vS o6 k11 k12])/\uI (Proofs.YtndaepmjkbmjmaaGreatDoor.Fn g) (rE g (vG [iI n15,iI n16,vS o5 k9 k10] :: vG [iI n17,iI n18,vS o6 k11 k12] :: i) w13 λv2 w16=>∃ n19,v2 = iI n19/\I6 w16/\br (!decide (n19 < 0)) (aw (bw IntKind.u64 (IntKind.wrap IntKind.u64 (n13 + n14)) 1 + 1)/\x5 (bw IntKind.u64 (IntKind.wrap IntKind.u64 (n13 + n14)) 1 + 1) n14 w16/\x6 (bw IntKind.u64 (IntKind.wrap IntKind.u64 (n13 + n14)) 1 + 1) n14 w16 < x6 n13 n14 w12) (x5 n13 (bw IntKind.u64 (IntKind.wrap IntKind.u64 (n13 + n14)) 1) w16/\x6 n13 (bw IntKind.u64 (IntKind.wrap IntKind.u64 (n13 + n14)) 1) w16 < x6 n13 n14 w12))) (∃ (x7:lP [(17,aD)]),∃ (x8:lN [(17,aD)]),x7 e w12/\∀ (I7:Nat->Value) (n20:Int) (w17:Ws),x7 n20 w17->br (decide (n13 < n20)) (∀ w18,drawn w17 w18->∃ (I8:WP),I8 w18/\aw (n20 - 1)/\aw (n20 - 1)/\idx a b (n20 - 1) 3 λa9=>∃ n21 n22 o7 k13 k14,(∀ w19,I8 w19->V.rowAt w19 a9 0 3 = some [iI n21,iI n22,vS o7 k13 k14])/\idx a b n20 3 λa10=>∃ n23 n24 o8 k15 k16,(∀ w20,I8 w20->V.rowAt w20 a10 0 3 = some [iI n23,iI n24,vS o8 k15 k16])/\idx a b n20 3 λa11=>cG w18 a11 [iI n21,iI n22,vS o7 k13 k14] λw21=>idx a b (n20 - 1) 3 λa12=>cG w21 a12 [iI n23,iI n24,vS o8 k15 k16] λw22=>aw (n20 - 1)/\x7 (n20 - 1) w22/\x8 (n20 - 1) w22 < x8 n20 w17) (R (vU []) w17))) (aw (d + f)/\ns 1/\aw (bw IntKind.u64 (IntKind.wrap IntKind.u64 (d + f)) 1)/\aw (bw IntKind.u64 (IntKind.wrap IntKind.u64 (d + f)) 1 + e)/\∃ (x9:lP [(20,aD),(21,aD)]),br (decide (bw IntKind.u64 (IntKind.wrap IntKind.u64 (d + f)) 1 < e)) (aw (bw IntKind.u64 (IntKind.wrap IntKind.u64 (d + f)) 1 + e - f)/\x9 (bw IntKind.u64 (IntKind.wrap IntKind.u64 (d + f)) 1 + e - f) (bw IntKind.u64 (IntKind.wrap IntKind.u64 (d + f)) 1) w) (x9 d e w)/\∀ (I9:Nat->Value) (n25 n26:Int) (w23:Ws),x9 n25 n26 w23->aw (bw IntKind.u64 (IntKind.wrap IntKind.u64 (d + f)) 1 + e - 1)/\∃ (x10:lP [(20,aD),(21,aD)]),∃ (x11:lN [(20,aD),(21,aD)]),x10 n25 n26 w23/\∀ (I10:Nat->Value) (n27 n28:Int) (w24:Ws),x10 n27 n28 w24->br (decide (n27 < n28)) (aw (n27 + n28)/\ns 1/\aw (bw IntKind.u64 (IntKind.wrap IntKind.u64 (n27 + n28)) 1)/\∀ w25,drawn w24 w25->∃ (I11:WP),I11 w25/\aw (bw IntKind.u64 (IntKind.wrap IntKind.u64 (d + f)) 1 + e - 1 - bw IntKind.u64 (IntKind.wrap IntKind.u64 (n27 + n28)) 1)/\idx a b (bw IntKind.u64 (IntKind.wrap IntKind.u64 (d + f)) 1 + e - 1 - bw IntKind.u64 (IntKind.wrap IntKind.u64 (n27 + n28)) 1) 3 λa13=>∃ n29 n30 o9 k17 k18,(∀ w26,I11 w26->V.rowAt w26 a13 0 3 = some [iI n29,iI n30,vS o9 k17 k18])/\idx a b (bw IntKind.u64 (IntKind.wrap IntKind.u64 (n27 + n28)) 1) 3 λa14=>∃ n31 n32 o10 k19 k20,(∀ w27,I11 w27->V.rowAt w27 a14 0 3 = some [iI n31,iI n32,vS o10 k19 k20])/\uI (Proofs.YtndaepmjkbmjmaaGreatDoor.Fn g) (rE g (vG [iI n29,iI n30,vS o9 k17 k18] :: vG [iI n31,iI n32,vS o10 k19 k20] :: i) w25 λv3 w28=>∃ n33,v3 = iI n33/\I11 w28/\br (!decide (n33 < 0)) (aw (bw IntKind.u64 (IntKind.wrap IntKind.u64 (n27 + n28)) 1 + 1)/\x10 (bw IntKind.u64 (IntKind.wrap IntKind.u64 (n27 + n28)) 1 + 1) n28 w28/\x11 (bw IntKind.u64 (IntKind.wrap IntKind.u64 (n27 + n28)) 1 + 1) n28 w28 < x11 n27 n28 w24) (x10 n27 (bw IntKind.u64 (IntKind.wrap IntKind.u64 (n27 + n28)) 1) w28/\x11 n27 (bw IntKind.u64 (IntKind.wrap IntKind.u64 (n27 + n28)) 1) w28 < x11 n27 n28 w24))) (aw (bw IntKind.u64 (IntKind.wrap IntKind.u64 (d + f)) 1 + e - n27)/\∃ (x12:lP []),br (decide (n27 < e)) (br (decide (e < bw IntKind.u64 (IntKind.wrap IntKind.u64 (d + f)) 1 + e - n27)) (rE 232 [vS a b c,iI n27,iI e,iI (bw IntKind.u64 (IntKind.wrap IntKind.u64 (d + f)) 1 + e - n27),Value.func (Fn.func g) (Array.mk []) (Array.mk i)] w24 λv4 w29=>v4 = vU []/\x12 w29) (x12 w24)) (x12 w24)/\∀ (I12:Nat->Value) (w30:Ws),x12 w30->br (decide (d < n27)) (br (decide (n27 < bw IntKind.u64 (IntKind.wrap IntKind.u64 (d + f)) 1)) (rE 182 [vS a b c,iI d,iI n27,iI (bw IntKind.u64 (IntKind.wrap IntKind.u64 (d + f)) 1),Value.func (Fn.func g) (Array.mk []) (Array.mk i)] w30 λv5 w31=>v5 = vU []/\br (decide (bw IntKind.u64 (IntKind.wrap IntKind.u64 (d + f)) 1 < bw IntKind.u64 (IntKind.wrap IntKind.u64 (d + f)) 1 + e - n27)) (br (decide (bw IntKind.u64 (IntKind.wrap IntKind.u64 (d + f)) 1 + e - n27 < f)) (rE 182 [vS a b c,iI (bw IntKind.u64 (IntKind.wrap IntKind.u64 (d + f)) 1),iI (bw IntKind.u64 (IntKind.wrap IntKind.u64 (d + f)) 1 + e - n27),iI f,Value.func (Fn.func g) (Array.mk []) (Array.mk i)] w31 λv6 w32=>v6 = vU []/\R (vU []) w32) (R (vU []) w31)) (R (vU []) w31)) (br (decide (bw IntKind.u64 (IntKind.wrap IntKind.u64 (d + f)) 1 < bw IntKind.u64 (IntKind.wrap IntKind.u64 (d + f)) 1 + e - n27)) (br (decide (bw IntKind.u64 (IntKind.wrap IntKind.u64 (d + f)) 1 + e - n27 < f)) (rE 182 [vS a b c,iI (bw IntKind.u64 (IntKind.wrap IntKind.u64 (d + f)) 1),iI (bw IntKind.u64 (IntKind.wrap IntKind.u64 (d + f)) 1 + e - n27),iI f,Value.func (Fn.func g) (Array.mk []) (Array.mk i)] w30 λv7 w33=>v7 = vU []/\R (vU []) w33) (R (vU []) w30)) (R (vU []) w30))) (br (decide (bw IntKind.u64 (IntKind.wrap IntKind.u64 (d + f)) 1 < bw IntKind.u64 (IntKind.wrap IntKind.u64 (d + f)) 1 + e - n27)) (br (decide (bw IntKind.u64 (IntKind.wrap IntKind.u64 (d + f)) 1 + e - n27 < f)) (rE 182 [vS a b c,iI (bw IntKind.u64 (IntKind.wrap IntKind.u64 (d + f)) 1),iI (bw IntKind.u64 (IntKind.wrap IntKind.u64 (d + f)) 1 + e - n27),iI f,Value.func (Fn.func g) (Array.mk []) (Array.mk i)] w30 λv8 w34=>v8 = vU []/\R (vU []) w34) (R (vU []) w30)) (R (vU []) w30)))))):ay Tryz.prog 182 [(.slice a b c),(.int .i64 d),(.int .i64 e),(.int .i64 f),(.func (.func g) #[] ⟨i⟩)] w R:=rv Tryz.func182 fT (by kernel_rfl) h
abbrev iJ:FuncId:=232
def gX:bh:={ rngs:=[],loops:=[(2,[(10,(.one (.int .i64))),(11,(.one (.int .i64)))])],joins:=[],blocks:=[] }
theorem gY {a:Wr} {b c:Nat} {d e f:Int} {g:FuncId} {i:List Value} {w:Ws} {R:Value->WP} (h:aw (e - d)/\aw (f - e)/\∃ (x1:lP [(10,aD),(11,aD)]),∃ (x2:lN [(10,aD),(11,aD)]),x1 (e - d) (f - e) w/\∀ (I1:Nat->Value) (n1 n2:Int) (w1:Ws),x1 n1 n2 w1->br (n1 != n2) (br (decide (n2 < n1)) (aw (e - n1)/\rE 256 [vS a b c,iI (e - n1),iI e,iI n2,Value.func (Fn.func g) (Array.mk []) (Array.mk i)] w1 λv1 w2=>v1 = vU []/\aw (n1 - n2)/\x1 (n1 - n2) n2 w2/\x2 (n1 - n2) n2 w2 < x2 n1 n2 w1) (aw (e - n1)/\aw (e + n2)/\aw (e + n2 - n1)/\rE 256 [vS a b c,iI (e - n1),iI (e + n2 - n1),iI n1,Value.func (Fn.func g) (Array.mk []) (Array.mk i)] w1 λv2 w3=>v2 = vU []/\aw (n2 - n1)/\x1 n1 (n2 - n1) w3/\x2 n1 (n2 - n1) w3 < x2 n1 n2 w1)) (aw (e - n1)/\rE 256 [vS a b c,iI (e - n1),iI e,iI n1,Value.func (Fn.func g) (Array.mk []) (Array.mk i)] w1 λv3 w4=>v3 = vU []/\R (vU []) w4)):ay Tryz.prog 232 [(.slice a b c),(.int .i64 d),(.int .i64 e),(.int .i64 f),(.func (.func g) #[] ⟨i⟩)] w R:=rv Tryz.func232 gX (by kernel_rfl) h
abbrev gC:FuncId:=256
def fD:bh:={ rngs:=[],loops:=[(1,[(10,(.one (.int .i64)))])],joins:=[],blocks:=[] }
theorem fE {a:Wr} {b c:Nat} {d e f:Int} {g:FuncId} {i:List Value} {w:Ws} {R:Value->WP} (h:∃ (x1:lP [(10,aD)]),∃ (x2:lN [(10,aD)]),x1 0 w/\∀ (I1:Nat->Value) (n1:Int) (w1:Ws),x1 n1 w1->br (decide (n1 < f)) (∀ w2,drawn w1 w2->∃ (I2:WP),I2 w2/\aw (d + n1)/\aw (e + n1)/\aw (e + n1)/\idx a b (e + n1) 3 λa1=>∃ n2 n3 o1 k1 k2,(∀ w3,I2 w3->V.rowAt w3 a1 0 3 = some [iI n2,iI n3,vS o1 k1 k2])/\aw (d + n1)/\idx a b (d + n1) 3 λa2=>∃ n4 n5 o2 k3 k4,(∀ w4,I2 w4->V.rowAt w4 a2 0 3 = some [iI n4,iI n5,vS o2 k3 k4])/\idx a b (d + n1) 3 λa3=>cG w2 a3 [iI n2,iI n3,vS o1 k1 k2] λw5=>idx a b (e + n1) 3 λa4=>cG w5 a4 [iI n4,iI n5,vS o2 k3 k4] λw6=>aw (n1 + 1)/\x1 (n1 + 1) w6/\x2 (n1 + 1) w6 < x2 n1 w1) (R (vU []) w1)):ay Tryz.prog 256 [(.slice a b c),(.int .i64 d),(.int .i64 e),(.int .i64 f),(.func (.func g) #[] ⟨i⟩)] w R:=rv Tryz.func256 fD (by kernel_rfl) h
end Go.Proofs.YtndaepmjkbmjmaaGreatDoor
namespace Go.V
abbrev fq (b:k_):Int:=b.1.2
section
variable {w:Ws} {L:List au} {o:Wr} {n c i:Nat} {ds:List k_} {x:k_}
abbrev Te (x:k_):List Value:=[.int .i64 x.1.1,.int .i64 x.1.2,.slice x.2.1.1 x.2.2.length x.2.1.2]
theorem Ij (h:St w (own 3 o n c (eh ds) :: L)) (hx:ds[i]? = some x):∃ ad,o = some ad/\av (hp w) (ad.add (cR i 3)) (Te x):=Ur (f:=RU) (λ_=>rfl) (by decide) h hx
theorem QU {ad:Addr} {k:Ws->Prop} (h:St w (own 3 o n c (eh ds) :: L)) (ha:o = some ad) (hi:i < ds.length) (hk:∀ w',St w' (own 3 o n c (eh (ds.set i x)) :: L)->k w'):cG w (ad.add (cR i 3)) (Te x) k :=
 Us (f:=RU) (λ_=>rfl) (by decide) (λx v hv=>by simp [RU,cF] at hv; rcases hv with rfl | rfl | rfl <;> rfl) h ha hi hk
theorem Er (h:St w (own 3 o n c (eh ds) :: L)):n = ds.length:=by have:=ir h; rw [Jz] at this; omega
end
end Go.V
namespace Go.Proofs.YtndaepmjkbmjmaaGreatDoor
section
variable {w:Ws} {L:List au} {o:Wr} {n c:Nat} {d:FuncId} {e:List Value}
theorem Es {A X M Y C:List k_} {xs:List k_} {k:Nat} {a b:Int} (h:St w (own 3 o n c (eh xs) :: L)) (hxs:xs = A ++ (X ++ (M ++ (Y ++ C)))) (ha:a = A.length) (hb:b = ((A.length + X.length + M.length:Nat):Int)) (hX:X.length = k) (hY:Y.length = k) (hn:xs.length<=1000000) :
  ay Tryz.prog gC [.slice o n c,.int .i64 a,.int .i64 b,.int .i64 (k:Int),.func (.func d) #[] ⟨e⟩] w λv w'=>v = .tuple #[]/\St w' (own 3 o n c (eh (A ++ (Y ++ (M ++ (X ++ C))))) :: L):=by
 have hnl:=Er h
 have hl:xs.length = A.length + X.length + M.length + Y.length + C.length:=by rw [hxs]; simp; omega
 subst ha hb
 refine fE ⟨λz w'=>∃ i:Nat,z = i/\i<=k/\St w' (own 3 o n c (eh (A ++ (Y.take i ++ (X.drop i ++ (M ++ (X.take i ++ (Y.drop i ++ C))))))) :: L),λz _=>k - z.toNat,⟨0,rfl,UM _,by simp only [List.take_zero,List.drop_zero,Ve]; rw [<- hxs]; exact h⟩,?_⟩
 clear h
 rintro _ _ w1 ⟨i,rfl,hi,h⟩
 refine aa (λh1=>?_) λh1=>?_
 rotate_left
 ·have h1:i = k:=by have:=Uy h1; omega
  subst h1
  rw [UX (by omega),VS (by omega),UX (by omega),VS (by omega),Ve,Ve] at h
  exact ⟨rfl,h⟩
 have h1:i < k:=by have:=Uz h1; omega
 intro w2 hd
 have h:=h.eq (aE hd)
 obtain ⟨x,hx⟩ : ∃ x,X[i]? = some x:=⟨_,UB (by omega)⟩
 obtain ⟨y,hy⟩ : ∃ y,Y[i]? = some y:=⟨_,UB (by omega)⟩
 obtain ⟨D,hD⟩ : ∃ D,D = A ++ (Y.take i ++ (X.drop i ++ (M ++ (X.take i ++ (Y.drop i ++ C))))):=⟨_,rfl⟩
 have eX:X.drop i = x :: X.drop (i + 1):=by rw [Vk (by omega)]; congr 1; rw [UB (by omega)] at hx; exact Option.some.inj hx
 have eY:Y.drop i = y :: Y.drop (i + 1):=by rw [Vk (by omega)]; congr 1; rw [UB (by omega)] at hy; exact Option.some.inj hy
 have e1:D = (A ++ Y.take i) ++ x :: ((X.drop (i + 1) ++ (M ++ X.take i)) ++ y :: (Y.drop (i + 1) ++ C)):=by rw [hD,eX,eY]; simp
 have l1:(A ++ Y.take i).length = A.length + i:=by simp; omega
 have l2:(X.drop (i + 1) ++ (M ++ X.take i)).length = X.length - (i + 1) + (M.length + i):=by simp; omega
 have e2:(D.set (A.length + i) y).set (A.length + X.length + M.length + i) x = A ++ (Y.take (i + 1) ++ (X.drop (i + 1) ++ (M ++ (X.take (i + 1) ++ (Y.drop (i + 1) ++ C))))):=by
  rw [e1,vV (by omega) (by omega),UI,UI,hx,hy]; simp
 rw [<- hD] at h
 have gx:D[A.length + i]? = some x:=by rw [e1]; exact mf (by omega)
 have gy:D[A.length + X.length + M.length + i]? = some y:=by
  rw [e1,show (A ++ Y.take i) ++ x :: ((X.drop (i + 1) ++ (M ++ X.take i)) ++ y :: (Y.drop (i + 1) ++ C)) = ((A ++ Y.take i) ++ x :: (X.drop (i + 1) ++ (M ++ X.take i))) ++ y :: (Y.drop (i + 1) ++ C) by simp]
  exact mf (by simp only [UG,Vc] at *; omega)
 have hDl:D.length = n:=(Er h).symm
 obtain ⟨ad,ho,rx⟩:=Ij h gx
 obtain ⟨ad',ho',ry⟩:=Ij h gy
 rw [ho] at ho'; cases ho'
 have z1:(A.length:Int) + i = ((A.length + i:Nat):Int):=by simp
 have z2:((A.length + X.length + M.length:Nat):Int) + i = ((A.length + X.length + M.length + i:Nat):Int):=by simp
 have hnn:n<=1000000:=by omega
 have b1:A.length + i < n:=by omega
 have b2:A.length + X.length + M.length + i < n:=by omega
 rw [z1,z2]
 refine ⟨λu=>hp u = hp w2,rfl,⟨by omega,by omega⟩,⟨by omega,by omega⟩,⟨by omega,by omega⟩,ak ho b2 ⟨_,_,_,_,_,λu e=>ry.at (by rw [e]; exact sub.refl _) rfl,⟨by omega,by omega⟩,ak ho b1 ⟨_,_,_,_,_,λu e=>rx.at (by rw [e]; exact sub.refl _) rfl,ak ho b1 (QU (x:=y) h ho (by omega) λw5 h=>ak ho b2 (QU (x:=x) h ho (by rw [Vj]; omega) λw6 h=>⟨⟨by omega,by omega⟩,⟨i + 1,by simp,h1,?_⟩,bK h1⟩))⟩⟩⟩
 rw [e2] at h
 exact h
theorem N5 {A X Y C:List k_} {xs:List k_} {a m b:Int} (h:St w (own 3 o n c (eh xs) :: L)) (hxs:xs = A ++ (X ++ (Y ++ C))) (ha:a = A.length) (hm:m = ((A.length + X.length:Nat):Int)) (hb:b = ((A.length + X.length + Y.length:Nat):Int)) (hX:X≠[]) (hY:Y≠[]) (hn:xs.length<=1000000) :
  ay Tryz.prog iJ [.slice o n c,.int .i64 a,.int .i64 m,.int .i64 b,.func (.func d) #[] ⟨e⟩] w λv w'=>v = .tuple #[]/\St w' (own 3 o n c (eh (A ++ (Y ++ (X ++ C)))) :: L):=by
 have hl:xs.length = A.length + X.length + Y.length + C.length:=by rw [hxs]; simp; omega
 have hX1:=VY.2 hX
 have hY1:=VY.2 hY
 subst ha hm hb
 obtain ⟨T,hT⟩ : ∃ T,T = A ++ (Y ++ (X ++ C)):=⟨_,rfl⟩
 have hTl:T.length = xs.length:=by rw [hT,hl]; simp; omega
 rw [<- hT]
 obtain ⟨E,hE⟩ : ∃ E,E = A.length + X.length:=⟨_,rfl⟩
 refine gY ⟨⟨by omega,by omega⟩,⟨by omega,by omega⟩,λy z w'=>∃ A X Y C:List k_,y = (X.length:Int)/\z = (Y.length:Int)/\X≠[]/\Y≠[]/\A.length + X.length = E/\A ++ (Y ++ (X ++ C)) = T/\St w' (own 3 o n c (eh (A ++ (X ++ (Y ++ C)))) :: L),λy z _=>y.toNat + z.toNat,⟨A,X,Y,C,by omega,by omega,hX,hY,hE.symm,hT.symm,by rw [<- hxs]; exact h⟩,?_⟩
 rw [<- hE]
 clear h hxs hX hY hX1 hY1
 rintro _ _ _ w1 ⟨A1,X1,Y1,C1,rfl,rfl,hX,hY,hm,hT1,h⟩
 have hX1:=VY.2 hX
 have hY1:=VY.2 hY
 have hl1:A1.length + (Y1.length + (X1.length + C1.length)) = T.length:=by rw [<- hT1]; simp
 refine aa (λh1=>?_) λh1=>?_
 rotate_left
 ·have h1:(X1.length:Int) = Y1.length:=by simpa using h1
  have h1:X1.length = Y1.length:=by omega
  refine ⟨⟨by omega,by omega⟩,(Es (A:=A1) (X:=X1) (M:=[]) (Y:=Y1) (C:=C1) (k:=X1.length) h (by simp) (by omega) (by simp; omega) rfl h1.symm (by simp; omega)).mono ?_⟩
  rintro _ w4 ⟨rfl,h⟩
  rw [Ve,hT1] at h
  exact ⟨rfl,rfl,h⟩
 have h1:(X1.length:Int)≠Y1.length:=by simpa using h1
 have h1:X1.length≠Y1.length:=by omega
 refine aa (λh2=>?_) λh2=>?_
 ·have h2:Y1.length < X1.length:=by have:=Uz h2; omega
  refine ⟨⟨by omega,by omega⟩,(Es (A:=A1) (X:=X1.take Y1.length) (M:=X1.drop Y1.length) (Y:=Y1) (C:=C1) (k:=Y1.length) h (by rw [<- UK (X1.take _),UY]) (by omega) (by simp; omega) (by simp; omega) rfl (by simp; omega)).mono ?_⟩
  rintro _ w2 ⟨rfl,h⟩
  refine ⟨rfl,⟨by omega,by omega⟩,⟨A1 ++ Y1,X1.drop Y1.length,X1.take Y1.length,C1,by simp; omega,by simp; omega,λhh=>?_,λhh=>?_,by simp; omega,?_,by simpa using h⟩,?_⟩
  ·have:=congrArg List.length hh; simp only [VU,VB] at this; omega
  ·have:=congrArg List.length hh; simp only [U0,VB] at this; omega
  ·rw [<- hT1,UK,<- UK (X1.take _),UY]
  ·show ((X1.length:Int) - Y1.length).toNat + (Y1.length:Int).toNat < (X1.length:Int).toNat + (Y1.length:Int).toNat
   omega
 ·have h2:X1.length < Y1.length:=by have:=Uy h2; omega
  refine ⟨⟨by omega,by omega⟩,⟨by omega,by omega⟩,⟨by omega,by omega⟩,(Es (A:=A1) (X:=X1) (M:=Y1.take (Y1.length - X1.length)) (Y:=Y1.drop (Y1.length - X1.length)) (C:=C1) (k:=X1.length) h (by rw [<- UK (Y1.take _),UY]) (by omega) (by simp; omega) rfl (by simp; omega) (by simp; omega)).mono ?_⟩
  rintro _ w3 ⟨rfl,h⟩
  refine ⟨rfl,⟨by omega,by omega⟩,⟨A1,Y1.drop (Y1.length - X1.length),Y1.take (Y1.length - X1.length),X1 ++ C1,by simp; omega,by simp; omega,λhh=>?_,λhh=>?_,by simp; omega,?_,by simpa using h⟩,?_⟩
  ·have:=congrArg List.length hh; simp only [VU,VB] at this; omega
  ·have:=congrArg List.length hh; simp only [U0,VB] at this; omega
  ·rw [<- hT1,<- UK (Y1.take _),UY]
  ·show (X1.length:Int).toNat + ((Y1.length:Int) - X1.length).toNat < (X1.length:Int).toNat + (Y1.length:Int).toNat
   omega
def GZ (x:k_):Prop:=0<=x.1.2/\x.1.2<=1000000
def Qi (d:FuncId) (e:List Value):Prop:=Fn d = true/\∀ (x y:k_) (u:Ws),GZ x->GZ y->ay Tryz.prog d (.agg ⟨Te x⟩ :: .agg ⟨Te y⟩ :: e) u λv u'=>∃ z:Int,v = .int .i64 z/\(z < 0↔fq x < fq y)/\Gr u u'
theorem GC {A X C:List k_} {xs:List k_} {a b:Int} (hc:Qi d e) (h:St w (own 3 o n c (eh xs) :: L)) (hxs:xs = A ++ (X ++ C)) (ha:a = A.length) (hb:b = ((A.length + X.length:Nat):Int)) (hs:∀ x∈X,GZ x) (hn:xs.length<=1000000) :
  ay Tryz.prog eL [.slice o n c,.int .i64 a,.int .i64 b,.func (.func d) #[] ⟨e⟩] w λv w'=>v = .tuple #[]/\∃ S,S.Perm X/\jG fq S/\St w' (own 3 o n c (eh (A ++ (S ++ C))) :: L):=by
 have hl:xs.length = A.length + X.length + C.length:=by rw [hxs]; simp; omega
 have hnl:=Er h
 have hnn:n<=1000000:=by omega
 subst ha hb
 refine dU ⟨⟨by omega,by omega⟩,λz w'=>∃ S R:List k_,(S ++ R).Perm X/\jG fq S/\((S≠[]/\z = ((A.length + S.length:Nat):Int))\/(X = []/\z = (A.length:Int) + 1))/\St w' (own 3 o n c (eh (A ++ (S ++ (R ++ C)))) :: L),λz _=>A.length + X.length - z.toNat,?_,?_⟩
 ·cases hX:X with
  | nil=>rw [hX] at hxs; exact ⟨[],[],.refl _,.nil,.inr ⟨rfl,rfl⟩,by rw [hxs] at h; exact h⟩
  | cons x X'=>rw [hX] at hxs; exact ⟨[x],X',.refl _,List.pairwise_singleton _ _,.inl ⟨by simp,by simp⟩,by rw [hxs] at h; exact h⟩
 clear h
 rintro _ z w1 ⟨S,R,hpm,hS,hz,h⟩
 have hpl:S.length + R.length = X.length:=by have:=hpm.length_eq; simpa using this
 refine aa (λh1=>?_) λh1=>?_
 rotate_left
 ·have h1:=Uy h1
  have hR:R = []:=by
   rcases hz with ⟨_,rfl⟩ | ⟨hX,_⟩
   ·exact UL (by omega)
   ·rw [hX,VB] at hpl; exact UL (by omega)
  subst hR
  exact ⟨rfl,S,by simpa using hpm,hS,h⟩
 have h1:=Uz h1
 rcases hz with ⟨hS0,rfl⟩ | ⟨hX,rfl⟩
 rotate_left
 ·rw [hX] at h1; simp at h1; omega
 obtain ⟨y,R',rfl⟩ : ∃ y R',R = y :: R':=by
  cases R with
  | nil=>simp at hpl; omega
  | cons y R'=>exact ⟨y,R',rfl⟩
 have hsy:GZ y:=hs y (hpm.mem_iff.1 (by simp))
 have hsS:∀ x∈S,GZ x:=λx hx=>hs x (hpm.mem_iff.1 (by simp [hx]))
 refine ⟨λz w'=>∃ S1 S2:List k_,S = S1 ++ S2/\z = ((A.length + S1.length:Nat):Int)/\(∀ u∈S2,fq y<=fq u)/\St w' (own 3 o n c (eh (A ++ (S1 ++ y :: (S2 ++ (R' ++ C))))) :: L),λz _=>z.toNat - A.length,⟨S,[],by simp,by simp,by simp,by simpa using h⟩,?_⟩
 clear h
 rintro _ _ w2 ⟨S1,S2,rfl,rfl,hS2,h⟩
 have hDl:=Er h
 have hpl2:S1.length + S2.length + (R'.length + 1) = X.length:=by simpa using hpl
 -- it has its place
 have fin:∀ {w'},(∀ u,S1.getLast? = some u->fq u<=fq y)->St w' (own 3 o n c (eh (A ++ (S1 ++ y :: (S2 ++ (R' ++ C))))) :: L)->aw (((A.length + (S1 ++ S2).length:Nat):Int) + 1)/\(∃ S R:List k_,(S ++ R).Perm X/\jG fq S/\((S≠[]/\((A.length + (S1 ++ S2).length:Nat):Int) + 1 = ((A.length + S.length:Nat):Int))\/(X = []/\((A.length + (S1 ++ S2).length:Nat):Int) + 1 = (A.length:Int) + 1))/\St w' (own 3 o n c (eh (A ++ (S ++ (R ++ C)))) :: L))/\A.length + X.length - (((A.length + (S1 ++ S2).length:Nat):Int) + 1).toNat < A.length + X.length - ((A.length + (S1 ++ S2).length:Nat):Int).toNat:=λ{w'} hlast h=>by
  refine ⟨⟨by simp; omega,by simp; omega⟩,⟨S1 ++ y :: S2,R',?_,Ej hS hlast (λu hu=>hS2 u (List.mem_of_head? hu)),.inl ⟨by simp,by simp; omega⟩,by simpa using h⟩,by simp; omega⟩
  refine List.Perm.trans ?_ hpm
  simp only [UK,List.cons_append]
  refine V9 _ ?_
  exact (Vt (l₁:=S2) (l₂:=R') (a:=y)).symm
 intro w3 hd
 have h:=h.eq (aE hd)
 refine ⟨λu=>Gr w3 u,Gr.refl _,aa (λh2=>?_) λh2=>?_⟩
 rotate_left
 ·have h2:S1 = []:=UL (by have:=Uy h2; omega)
  exact fin (λu hu=>by rw [h2] at hu; cases hu) h
 have h2:0 < S1.length:=by have:=Uz h2; omega
 obtain ⟨S1',z,rfl⟩ : ∃ S1' z,S1 = S1' ++ [z]:=⟨S1.dropLast,S1.getLast (by intro hh; rw [hh] at h2; simp at h2),(List.dropLast_concat_getLast _).symm⟩
 obtain ⟨D,hD⟩ : ∃ D,D = A ++ ((S1' ++ [z]) ++ y :: (S2 ++ (R' ++ C))):=⟨_,rfl⟩
 rw [<- hD] at h
 have e1:D = (A ++ S1') ++ z :: ([] ++ y :: (S2 ++ (R' ++ C))):=by rw [hD]; simp
 have gz:D[A.length + S1'.length]? = some z:=by rw [e1]; exact mf (by simp)
 have gy:D[A.length + S1'.length + 1]? = some y:=by
  rw [e1,show (A ++ S1') ++ z :: ([] ++ y :: (S2 ++ (R' ++ C))) = ((A ++ S1') ++ [z]) ++ y :: (S2 ++ (R' ++ C)) by simp]
  exact mf (by simp; omega)
 have hDn:=Er h
 have b1:A.length + S1'.length < n:=by rw [hDn]; exact (UA.1 gz).1
 have b2:A.length + S1'.length + 1 < n:=by rw [hDn]; exact (UA.1 gy).1
 obtain ⟨ad,ho,rz⟩:=Ij h gz
 obtain ⟨ad',ho',ry⟩:=Ij h gy
 rw [ho] at ho'; cases ho'
 have z1:((A.length + (S1' ++ [z]).length:Nat):Int) = ((A.length + S1'.length + 1:Nat):Int):=by simp only [UG,List.length_singleton]; omega
 have z2:((A.length + S1'.length + 1:Nat):Int) - 1 = ((A.length + S1'.length:Nat):Int):=by simp
 rw [z1,z2]
 refine ak ho b2 ⟨_,_,_,_,_,λu g=>ry.at g rfl,⟨by omega,by omega⟩,ak ho b1 ⟨_,_,_,_,_,λu g=>rz.at g rfl,bz.2 ⟨hc.1,(hc.2 y z w3 hsy (hsS z (by simp))).mono ?_⟩⟩⟩
 rintro _ w6 ⟨t,rfl,ht,g6⟩
 have h:=h.gr g6
 refine ⟨_,rfl,g6,aa (λh3=>?_) λh3=>?_⟩
 rotate_left
 ·have h3:=Uy h3
  rw [hD] at h
  refine fin (λu hu=>?_) h
  rw [List.getLast?_concat] at hu
  cases hu
  have:¬ fq y < fq z:=λhh=>h3 (ht.2 hh)
  omega
 have h3:=ht.1 (Uz h3)
 intro w7 hd7
 have h:=h.eq (aE hd7)
 have s7:sub (hp w3) (hp w7):=g6.trans (Gr.drawn hd7)
 refine ⟨λu=>hp u = hp w7,rfl,⟨by omega,by omega⟩,⟨by omega,by omega⟩,ak ho b1 ⟨_,_,_,_,_,λu e=>(rz.mono s7).at (by rw [e]; exact sub.refl _) rfl,ak ho b2 ⟨_,_,_,_,_,λu e=>(ry.mono s7).at (by rw [e]; exact sub.refl _) rfl,ak ho b2 (QU (x:=z) h ho (by omega) λw10 h=>ak ho b1 (QU (x:=y) h ho (by rw [Vj]; omega) λw11 h=>⟨⟨by omega,by omega⟩,⟨S1',z :: S2,by simp,rfl,?_,?_⟩,?_⟩))⟩⟩⟩
 ·intro u hu
  rcases UR.1 hu with rfl | hu
  ·exact Int.le_of_lt h3
  ·exact hS2 u hu
 ·have e2:(D.set (A.length + S1'.length + 1) z).set (A.length + S1'.length) y = A ++ (S1' ++ y :: (z :: S2 ++ (R' ++ C))):=by
   rw [List.set_comm _ _ (by omega),e1,vV (by simp) (by simp)]; simp
  rw [e2] at h
  exact h
 ·show ((A.length + S1'.length:Nat):Int).toNat - A.length < ((A.length + S1'.length + 1:Nat):Int).toNat - A.length
  omega
end
end Go.Proofs.YtndaepmjkbmjmaaGreatDoor
namespace Go.V
section
variable {α : Type} {k:α->Int}
inductive Ik (k:α->Int) (bs:Nat):List α->Prop
 | last (l:List α):l.length<=bs->jG k l->Ik k bs l
 | more (l m:List α):l.length = bs->jG k l->Ik k bs m->Ik k bs (l ++ m)
inductive Sd (k:α->Int) (bs:Nat):List α->Prop
 | nil:Sd k bs []
 | snoc (d l:List α):Sd k bs d->l.length = bs->jG k l->Sd k bs (d ++ l)
theorem Sd.Ud {bs:Nat} {d:List α} (h:Sd k bs d):∀ e,Ik k bs e->Ik k bs (d ++ e):=by
 induction h with
 | nil=>exact λe he=>he
 | snoc d l _ hl hs ih=>exact λe he=>by rw [UK]; exact ih _ (.more l e hl hs he)
theorem Ik.QV {bs:Nat} {l:List α} (h:Ik k bs l) (hl:l.length<=bs):jG k l:=by
 cases h with
 | last _ _ hs=>exact hs
 | more a m ha hs hm =>
  have:m = []:=UL (by rw [UG] at hl; omega)
  subst this
  simpa using hs
theorem Ik.cut {bs:Nat} {l:List α} (h:Ik k bs l) (hl:bs < l.length):∃ a m,l = a ++ m/\a.length = bs/\jG k a/\Ik k bs m/\m≠[]:=by
 cases h with
 | last _ h1 _=>omega
 | more a m ha hs hm=>exact ⟨a,m,rfl,ha,hs,hm,λe=>by subst e; simp at hl; omega⟩
def Ut (X Y:List k_) (H s0 s:Nat):Prop:=s = s0\/∃ x y,X[s - 1]? = some x/\Y[H - s]? = some y/\fq x<=fq y
def Uu (X Y:List k_) (H r0 r:Nat):Prop:=r = r0\/∃ x y,X[r]? = some x/\Y[H - r - 1]? = some y/\fq y < fq x
theorem Qj {n:Nat} (h:n<=4000000):bw .u64 (IntKind.u64.wrap (n:Int)) 1 = ((n / 2:Nat):Int):=by
 have e:IntKind.u64.wrap (n:Int) = (n:Int):=by
  simp only [IntKind.wrap,IntKind.signed,IntKind.bits]
  exact Int.emod_eq_of_lt (by omega) (by omega)
 rw [e]
 exact zN (s:=1) (by decide)
end
end Go.V
namespace Go.Proofs.YtndaepmjkbmjmaaGreatDoor
section
variable {w:Ws} {L:List au} {o:Wr} {n c:Nat} {d:FuncId} {e:List Value}
theorem JS {i j:Nat} (h:i + j<=4000000):bw .u64 (IntKind.u64.wrap ((i:Int) + (j:Int))) 1 = (((i + j) / 2:Nat):Int):=by
 rw [<- Qj h]; simp
theorem A0 (hc:Qi d e) (N:Nat):∀ {w:Ws} {L:List au} {A X Y C:List k_} {xs:List k_} {a m b:Int} (h:St w (own 3 o n c (eh xs) :: L)) (hxs:xs = A ++ (X ++ (Y ++ C))) (ha:a = A.length) (hm:m = ((A.length + X.length:Nat):Int)) (hb:b = ((A.length + X.length + Y.length:Nat):Int)) (hX:X≠[]) (hY:Y≠[]) (hN:X.length + Y.length<=N)
  (hsX:jG fq X) (hsY:jG fq Y) (hs:∀ x∈X ++ Y,GZ x) (hn:xs.length<=1000000),
  ay Tryz.prog aJ [.slice o n c,.int .i64 a,.int .i64 m,.int .i64 b,.func (.func d) #[] ⟨e⟩] w λv w'=>v = .tuple #[]/\∃ S,S.Perm (X ++ Y)/\jG fq S/\St w' (own 3 o n c (eh (A ++ (S ++ C))) :: L):=by
 induction N with
 | zero=>intro w L A X Y C xs a m b h hxs ha hm hb hX hY hN; exact absurd (UL (by omega)) hX
 | succ N ih =>
 intro w L A X Y C xs a m b h hxs ha hm hb hX hY hN hsX hsY hs hn
 have hl:xs.length = A.length + X.length + Y.length + C.length:=by rw [hxs]; simp; omega
 have hX1:=VY.2 hX
 have hY1:=VY.2 hY
 have hDl:=Er h
 have hnn:n<=1000000:=by omega
 have smX:∀ x∈X,GZ x:=λx hx=>hs x (by simp [hx])
 have smY:∀ x∈Y,GZ x:=λx hx=>hs x (by simp [hx])
 have hns:ns 1:=by unfold ns; decide
 subst ha hm hb
 -- what stands at a place
 have atX:∀ i,i < X.length->∃ x,X[i]? = some x/\xs[A.length + i]? = some x:=λi hi=>by
  refine ⟨_,UB hi,?_⟩
  rw [hxs,UP (by omega),Vp,UQ hi,UB hi]
 have atY:∀ i,i < Y.length->∃ y,Y[i]? = some y/\xs[A.length + X.length + i]? = some y:=λi hi=>by
  refine ⟨_,UB hi,?_⟩
  rw [hxs,UP (by omega),show A.length + X.length + i - A.length = X.length + i by omega,UP (by omega),Vp,UQ hi,UB hi]
 have eA:(((A.length + X.length:Nat):Int) - A.length == 1) = decide (X.length = 1):=by
  rw [Vn,beq_iff_eq,UO]; omega
 have eB:(((A.length + X.length + Y.length:Nat):Int) - ((A.length + X.length:Nat):Int) == 1) = decide (Y.length = 1):=by
  rw [Vn,beq_iff_eq,UO]; omega
 refine fU ⟨⟨by omega,by omega⟩,?_⟩
 rw [eA]
 refine aa (λh1=>?_) λh1=>?_
 ·-- one on the left
  have h1:=Uz h1
  obtain ⟨x,hX0⟩ : ∃ x,X = [x]:=List.length_eq_one_iff.1 h1
  subst hX0
  obtain ⟨_,hx0,gx⟩:=atX 0 (by simp)
  cases hx0
  have hsx:GZ x:=smX x (by simp)
  refine ⟨λi j w'=>∃ i' j' : Nat,i = ((A.length + 1 + i' : Nat):Int)/\j = ((A.length + 1 + j' : Nat):Int)/\i'<=j'/\j'<=Y.length/\(∀ y,0 < i'->Y[i' - 1]? = some y->fq y < fq x)/\(∀ y,Y[j']? = some y->fq x<=fq y)/\St w' (own 3 o n c (eh xs) :: L),λi j _=>j.toNat - i.toNat,⟨0,Y.length,by simp,by simp,UM _,US _,λy hy=>absurd hy (by omega),λy hy=>(by rw [UW (US _)] at hy; cases hy),h⟩,?_⟩
  clear h
  rintro _ _ _ w1 ⟨i',j',rfl,rfl,hij,hj,hlo,hhi,h⟩
  refine aa (λh2=>?_) λh2=>?_
  ·have h2:i' < j':=by have:=Uz h2; omega
   rw [JS (by omega)]
   obtain ⟨q,hq⟩ : ∃ q,q = (i' + j') / 2:=⟨_,rfl⟩
   have hq2:(A.length + 1 + i' + (A.length + 1 + j')) / 2 = A.length + 1 + q:=by omega
   rw [hq2]
   have hqj:q < j':=by omega
   have hqi:i'<=q:=by omega
   obtain ⟨y,hy,gy⟩:=atY q (by omega)
   have gy:xs[A.length + 1 + q]? = some y:=gy
   refine ⟨⟨by omega,by omega⟩,hns,⟨by omega,by omega⟩,λw2 hd=>?_⟩
   have h:=h.eq (aE hd)
   obtain ⟨ad,ho,ry⟩:=Ij h gy
   obtain ⟨ad',ho',rx⟩:=Ij h gx
   rw [ho] at ho'; cases ho'
   refine ⟨λu=>Gr w2 u,Gr.refl _,ak ho (by omega) ⟨_,_,_,_,_,λu g=>ry.at g rfl,ak ho (by omega) ⟨_,_,_,_,_,λu g=>rx.at g rfl,bz.2 ⟨hc.1,(hc.2 y x w2 (smY y (UC hy)) hsx).mono ?_⟩⟩⟩⟩
   rintro _ w5 ⟨t,rfl,ht,g5⟩
   have h:=h.gr g5
   refine ⟨_,rfl,g5,aa (λh3=>?_) λh3=>?_⟩
   ·have h3:=ht.1 (Uz h3)
    refine ⟨⟨by omega,by omega⟩,⟨q + 1,j',by omega,rfl,by omega,hj,λy' _ hy'=>?_,hhi,h⟩,?_⟩
    ·rw [Nat.add_sub_cancel,hy] at hy'; cases hy'; exact h3
    ·show ((A.length + 1 + j' : Nat):Int).toNat - (((A.length + 1 + q:Nat):Int) + 1).toNat < ((A.length + 1 + j' : Nat):Int).toNat - ((A.length + 1 + i' : Nat):Int).toNat
     omega
   ·have h3:¬ fq y < fq x:=λhh=>(Uy h3) (ht.2 hh)
    refine ⟨⟨i',q,rfl,rfl,hqi,by omega,hlo,λy' hy'=>?_,h⟩,?_⟩
    ·rw [hy] at hy'; cases hy'; omega
    ·show ((A.length + 1 + q:Nat):Int).toNat - ((A.length + 1 + i' : Nat):Int).toNat < ((A.length + 1 + j' : Nat):Int).toNat - ((A.length + 1 + i' : Nat):Int).toNat
     omega
  have h2:i' = j':=by have:=Uy h2; omega
  subst h2
  refine ⟨λz w'=>∃ k:Nat,z = ((A.length + k:Nat):Int)/\k<=i'/\St w' (own 3 o n c (eh (A ++ (Y.take k ++ x :: (Y.drop k ++ C)))) :: L),λz _=>A.length + i' - z.toNat,⟨0,by simp,UM _,by rw [hxs] at h; simpa using h⟩,?_⟩
  clear h
  rintro _ _ w6 ⟨k,rfl,hk,h⟩
  refine ⟨⟨by omega,by omega⟩,aa (λh3=>?_) λh3=>?_⟩
  rotate_left
  ·have h3:k = i':=by have:=Uy h3; omega
   subst h3
   have hYs:jG fq (Y.take k ++ Y.drop k):=by rw [UY]; exact hsY
   refine ⟨rfl,Y.take k ++ x :: Y.drop k,?_,Ej hYs (λy hy=>?_) (λy hy=>?_),by simpa using h⟩
   ·refine Vt.trans ?_
    rw [UY]; exact .refl _
   ·have hk0:0 < k:=Nat.pos_of_ne_zero λe=>by subst e; simp at hy
    rw [Wn,U0,show min k Y.length - 1 = k - 1 by omega,VK,UJ (by omega)] at hy
    exact Int.le_of_lt (hlo y hk0 hy)
   ·rw [List.head?_eq_getElem?,Vb,Wo] at hy
    exact hhi y hy
  have h3:k < i':=by have:=Uz h3; omega
  intro w7 hd
  have h:=h.eq (aE hd)
  obtain ⟨y,hy⟩ : ∃ y,Y[k]? = some y:=⟨_,UB (by omega)⟩
  have eY:Y.drop k = y :: Y.drop (k + 1):=by rw [Vk (by omega)]; congr 1; rw [UB (by omega)] at hy; exact Option.some.inj hy
  obtain ⟨D,hD⟩ : ∃ D,D = A ++ (Y.take k ++ x :: (Y.drop k ++ C)):=⟨_,rfl⟩
  rw [<- hD] at h
  have lk:(A ++ Y.take k).length = A.length + k:=by simp; omega
  have e1:D = (A ++ Y.take k) ++ x :: ([] ++ y :: (Y.drop (k + 1) ++ C)):=by rw [hD,eY]; simp
  have g1:D[A.length + k]? = some x:=by rw [e1]; exact mf lk.symm
  have g2:D[A.length + k + 1]? = some y:=by
   rw [e1,show (A ++ Y.take k) ++ x :: ([] ++ y :: (Y.drop (k + 1) ++ C)) = ((A ++ Y.take k) ++ [x]) ++ y :: (Y.drop (k + 1) ++ C) by simp]
   exact mf (by rw [UG,lk]; rfl)
  have hDn:=Er h
  have b1:A.length + k < n:=by rw [hDn]; exact (UA.1 g1).1
  have b2:A.length + k + 1 < n:=by rw [hDn]; exact (UA.1 g2).1
  obtain ⟨ad,ho,r1⟩:=Ij h g1
  obtain ⟨ad',ho',r2⟩:=Ij h g2
  rw [ho] at ho'; cases ho'
  have z1:((A.length + k:Nat):Int) + 1 = ((A.length + k + 1:Nat):Int):=by simp
  rw [z1]
  refine ⟨λu=>hp u = hp w7,rfl,⟨by omega,by omega⟩,⟨by omega,by omega⟩,ak ho b2 ⟨_,_,_,_,_,λu e=>r2.at (by rw [e]; exact sub.refl _) rfl,ak ho b1 ⟨_,_,_,_,_,λu e=>r1.at (by rw [e]; exact sub.refl _) rfl,ak ho b1 (QU (x:=y) h ho (by omega) λw10 h=>ak ho b2 (QU (x:=x) h ho (by rw [Vj]; omega) λw11 h=>⟨⟨by omega,by omega⟩,⟨k + 1,rfl,by omega,?_⟩,?_⟩))⟩⟩⟩
  ·have e2:(D.set (A.length + k) y).set (A.length + k + 1) x = A ++ (Y.take (k + 1) ++ x :: (Y.drop (k + 1) ++ C)):=by
    rw [e1,vV lk.symm (by rw [lk]; rfl),UI,hy]; simp
   rw [e2] at h
   exact h
  ·show A.length + i' - ((A.length + k + 1:Nat):Int).toNat < A.length + i' - ((A.length + k:Nat):Int).toNat
   omega
 have h1:X.length≠1:=Uy h1
 refine ⟨⟨by omega,by omega⟩,?_⟩
 rw [eB]
 refine aa (λh4=>?_) λh4=>?_
 ·-- one on the right
  have h4:=Uz h4
  obtain ⟨y,hY0⟩ : ∃ y,Y = [y]:=List.length_eq_one_iff.1 h4
  subst hY0
  obtain ⟨_,hy0,gy⟩:=atY 0 (by simp)
  cases hy0
  have hsy:GZ y:=smY y (by simp)
  refine ⟨λi j w'=>∃ i' j' : Nat,i = ((A.length + i' : Nat):Int)/\j = ((A.length + j' : Nat):Int)/\i'<=j'/\j'<=X.length/\(∀ x,0 < i'->X[i' - 1]? = some x->fq x<=fq y)/\(∀ x,X[j']? = some x->fq y < fq x)/\St w' (own 3 o n c (eh xs) :: L),λi j _=>j.toNat - i.toNat,⟨0,X.length,by simp,rfl,UM _,US _,λx hx=>absurd hx (by omega),λx hx=>(by rw [UW (US _)] at hx; cases hx),h⟩,?_⟩
  clear h
  rintro _ _ _ w1 ⟨i',j',rfl,rfl,hij,hj,hlo,hhi,h⟩
  refine aa (λh2=>?_) λh2=>?_
  ·have h2:i' < j':=by have:=Uz h2; omega
   rw [JS (by omega)]
   obtain ⟨q,hq⟩ : ∃ q,q = (i' + j') / 2:=⟨_,rfl⟩
   have hq2:(A.length + i' + (A.length + j')) / 2 = A.length + q:=by omega
   rw [hq2]
   have hqj:q < j':=by omega
   have hqi:i'<=q:=by omega
   obtain ⟨x,hx,gx⟩:=atX q (by omega)
   refine ⟨⟨by omega,by omega⟩,hns,⟨by omega,by omega⟩,λw2 hd=>?_⟩
   have h:=h.eq (aE hd)
   obtain ⟨ad,ho,ry⟩:=Ij h gy
   obtain ⟨ad',ho',rx⟩:=Ij h gx
   rw [ho] at ho'; cases ho'
   refine ⟨λu=>Gr w2 u,Gr.refl _,ak ho (by omega) ⟨_,_,_,_,_,λu g=>ry.at g rfl,ak ho (by omega) ⟨_,_,_,_,_,λu g=>rx.at g rfl,bz.2 ⟨hc.1,(hc.2 y x w2 hsy (smX x (UC hx))).mono ?_⟩⟩⟩⟩
   rintro _ w5 ⟨t,rfl,ht,g5⟩
   have h:=h.gr g5
   refine ⟨_,rfl,g5,aa (λh3=>?_) λh3=>?_⟩
   ·have h3:¬ fq y < fq x:=λhh=>by
     have:=ht.2 hh
     simp at h3; omega
    refine ⟨⟨by omega,by omega⟩,⟨q + 1,j',by omega,rfl,by omega,hj,λx' _ hx'=>?_,hhi,h⟩,?_⟩
    ·rw [Nat.add_sub_cancel,hx] at hx'; cases hx'; omega
    ·show ((A.length + j' : Nat):Int).toNat - (((A.length + q:Nat):Int) + 1).toNat < ((A.length + j' : Nat):Int).toNat - ((A.length + i' : Nat):Int).toNat
     omega
   ·have h3:fq y < fq x:=ht.1 (by simpa using h3)
    refine ⟨⟨i',q,rfl,rfl,hqi,by omega,hlo,λx' hx'=>?_,h⟩,?_⟩
    ·rw [hx] at hx'; cases hx'; exact h3
    ·show ((A.length + q:Nat):Int).toNat - ((A.length + i' : Nat):Int).toNat < ((A.length + j' : Nat):Int).toNat - ((A.length + i' : Nat):Int).toNat
     omega
  have h2:i' = j':=by have:=Uy h2; omega
  subst h2
  refine ⟨λz w'=>∃ k:Nat,z = ((A.length + k:Nat):Int)/\i'<=k/\k<=X.length/\St w' (own 3 o n c (eh (A ++ (X.take k ++ y :: (X.drop k ++ C)))) :: L),λz _=>z.toNat,⟨X.length,rfl,hj,US _,by rw [hxs] at h; simpa using h⟩,?_⟩
  clear h
  rintro _ _ w17 ⟨k,rfl,hik,hk,h⟩
  refine aa (λh3=>?_) λh3=>?_
  rotate_left
  ·have h3:k = i':=by have:=Uy h3; omega
   subst h3
   have hXs:jG fq (X.take k ++ X.drop k):=by rw [UY]; exact hsX
   refine ⟨rfl,X.take k ++ y :: X.drop k,?_,Ej hXs (λx hx=>?_) (λx hx=>?_),by simpa using h⟩
   ·refine Vt.trans ?_
    rw [UY]
    exact (List.perm_append_singleton y X).symm
   ·have hk0:0 < k:=Nat.pos_of_ne_zero λe=>by subst e; simp at hx
    rw [Wn,U0,show min k X.length - 1 = k - 1 by omega,VK,UJ (by omega)] at hx
    exact hlo x hk0 hx
   ·rw [List.head?_eq_getElem?,Vb,Wo] at hx
    exact Int.le_of_lt (hhi x hx)
  have h3:i' < k:=by have:=Uz h3; omega
  obtain ⟨k,rfl⟩ : ∃ k',k = k' + 1:=⟨k - 1,by omega⟩
  intro w18 hd
  have h:=h.eq (aE hd)
  obtain ⟨x,hx⟩ : ∃ x,X[k]? = some x:=⟨_,UB (by omega)⟩
  obtain ⟨D,hD⟩ : ∃ D,D = A ++ (X.take (k + 1) ++ y :: (X.drop (k + 1) ++ C)):=⟨_,rfl⟩
  rw [<- hD] at h
  have lk:(A ++ X.take k).length = A.length + k:=by simp; omega
  have e1:D = (A ++ X.take k) ++ x :: ([] ++ y :: (X.drop (k + 1) ++ C)):=by rw [hD,UI,hx]; simp
  have g1:D[A.length + k]? = some x:=by rw [e1]; exact mf lk.symm
  have g2:D[A.length + (k + 1)]? = some y:=by
   rw [e1,show (A ++ X.take k) ++ x :: ([] ++ y :: (X.drop (k + 1) ++ C)) = ((A ++ X.take k) ++ [x]) ++ y :: (X.drop (k + 1) ++ C) by simp]
   exact mf (by rw [UG,lk]; rfl)
  have hDn:=Er h
  have b1:A.length + k < n:=by rw [hDn]; exact (UA.1 g1).1
  have b2:A.length + (k + 1) < n:=by rw [hDn]; exact (UA.1 g2).1
  obtain ⟨ad,ho,r1⟩:=Ij h g1
  obtain ⟨ad',ho',r2⟩:=Ij h g2
  rw [ho] at ho'; cases ho'
  have z1:((A.length + (k + 1):Nat):Int) - 1 = ((A.length + k:Nat):Int):=by simp; omega
  rw [z1]
  refine ⟨λu=>hp u = hp w18,rfl,⟨by omega,by omega⟩,⟨by omega,by omega⟩,ak ho b1 ⟨_,_,_,_,_,λu e=>r1.at (by rw [e]; exact sub.refl _) rfl,ak ho b2 ⟨_,_,_,_,_,λu e=>r2.at (by rw [e]; exact sub.refl _) rfl,ak ho b2 (QU (x:=x) h ho (by omega) λw21 h=>ak ho b1 (QU (x:=y) h ho (by rw [Vj]; omega) λw22 h=>⟨⟨by omega,by omega⟩,⟨k,rfl,by omega,by omega,?_⟩,?_⟩))⟩⟩⟩
  ·have eX:X.drop k = x :: X.drop (k + 1):=by rw [Vk (by omega)]; congr 1; rw [UB (by omega)] at hx; exact Option.some.inj hx
   have e2:(D.set (A.length + (k + 1)) x).set (A.length + k) y = A ++ (X.take k ++ y :: (X.drop k ++ C)):=by
    rw [List.set_comm _ _ (by omega),e1,vV lk.symm (by rw [lk]; rfl),eX]; simp
   rw [e2] at h
   exact h
  ·show ((A.length + k:Nat):Int).toNat < ((A.length + (k + 1):Nat):Int).toNat
   omega
 have h4:Y.length≠1:=Uy h4
 -- the halves
 obtain ⟨H,hH⟩ : ∃ H,H = (X.length + Y.length) / 2:=⟨_,rfl⟩
 have hM:(A.length + (A.length + X.length + Y.length)) / 2 = A.length + H:=by omega
 have hM1:0 < H:=by omega
 have hM2:H < X.length + Y.length:=by omega
 have hM3:2 * H<=X.length + Y.length:=by omega
 have hM4:X.length + Y.length<=2 * H + 1:=by omega
 rw [JS (by omega),hM]
 clear hH hM
 refine ⟨⟨by omega,by omega⟩,hns,⟨by omega,by omega⟩,⟨by omega,by omega⟩,λs r w'=>∃ s' r' : Nat,s = ((A.length + s' : Nat):Int)/\r = ((A.length + r' : Nat):Int)/\s'<=r'/\r'<=X.length/\r'<=H/\H - s'<=Y.length/\(s' = 0\/H - s' = Y.length)/\(r' = X.length\/r' = H)/\hp w' = hp w,?_,?_⟩
 ·refine aa (λh5=>?_) λh5=>?_
  ·have h5:H < X.length:=by have:=Uz h5; omega
   exact ⟨⟨by omega,by omega⟩,H - Y.length,H,by omega,by omega,by omega,by omega,by omega,by omega,by omega,by omega,rfl⟩
  ·have h5:X.length<=H:=by have:=Uy h5; omega
   exact ⟨0,X.length,by simp,rfl,UM _,US _,h5,by omega,.inl rfl,.inl rfl,rfl⟩
 rintro _ _ _ w23 ⟨s0,r0,rfl,rfl,hsr,hrX,hrM,hsM,hsc,hrc,e23⟩
 have h:=h.eq e23
 obtain ⟨P,hP⟩ : ∃ P,P = A.length + H + (A.length + X.length):=⟨_,rfl⟩
 refine ⟨⟨by omega,by omega⟩,λs r w'=>∃ s' r' : Nat,s = ((A.length + s' : Nat):Int)/\r = ((A.length + r' : Nat):Int)/\s0<=s'/\s'<=r'/\r'<=r0/\Ut X Y H s0 s'/\Uu X Y H r0 r'/\St w' (own 3 o n c (eh xs) :: L),λs r _=>r.toNat - s.toNat,⟨s0,r0,rfl,rfl,US _,hsr,US _,.inl rfl,.inl rfl,h⟩,?_⟩
 clear h
 rintro _ _ _ w24 ⟨s,r,rfl,rfl,hs0,hsr',hr0,hlo,hhi,h⟩
 refine aa (λh5=>?_) λh5=>?_
 ·have h5:s < r:=by have:=Uz h5; omega
  rw [JS (by omega)]
  obtain ⟨q,hq⟩ : ∃ q,q = (s + r) / 2:=⟨_,rfl⟩
  have hq2:(A.length + s + (A.length + r)) / 2 = A.length + q:=by omega
  rw [hq2]
  have hqr:q < r:=by omega
  have hqs:s<=q:=by omega
  have z1:((A.length + H:Nat):Int) + ((A.length + X.length:Nat):Int) - 1 - ((A.length + q:Nat):Int) = ((A.length + X.length + (H - q - 1):Nat):Int):=by omega
  rw [z1]
  obtain ⟨x,hx,gx⟩:=atX q (by omega)
  obtain ⟨y,hy,gy⟩:=atY (H - q - 1) (by omega)
  refine ⟨⟨by omega,by omega⟩,hns,⟨by omega,by omega⟩,λw25 hd=>?_⟩
  have h:=h.eq (aE hd)
  obtain ⟨ad,ho,ry⟩:=Ij h gy
  obtain ⟨ad',ho',rx⟩:=Ij h gx
  rw [ho] at ho'; cases ho'
  refine ⟨λu=>Gr w25 u,Gr.refl _,⟨by omega,by omega⟩,ak ho (by omega) ⟨_,_,_,_,_,λu g=>ry.at g rfl,ak ho (by omega) ⟨_,_,_,_,_,λu g=>rx.at g rfl,bz.2 ⟨hc.1,(hc.2 y x w25 (smY y (UC hy)) (smX x (UC hx))).mono ?_⟩⟩⟩⟩
  rintro _ w28 ⟨t,rfl,ht,g5⟩
  have h:=h.gr g5
  refine ⟨_,rfl,g5,aa (λh3=>?_) λh3=>?_⟩
  ·have h3:¬ fq y < fq x:=λhh=>by
    have:=ht.2 hh
    simp at h3; omega
   refine ⟨⟨by omega,by omega⟩,⟨q + 1,r,by omega,rfl,by omega,by omega,hr0,.inr ⟨x,y,by rw [Nat.add_sub_cancel]; exact hx,by rw [show H - (q + 1) = H - q - 1 by omega]; exact hy,by omega⟩,hhi,h⟩,?_⟩
   show ((A.length + r:Nat):Int).toNat - (((A.length + q:Nat):Int) + 1).toNat < ((A.length + r:Nat):Int).toNat - ((A.length + s:Nat):Int).toNat
   omega
  ·have h3:fq y < fq x:=ht.1 (by simpa using h3)
   refine ⟨⟨s,q,rfl,rfl,hs0,hqs,by omega,hlo,.inr ⟨x,y,hx,hy,h3⟩,h⟩,?_⟩
   show ((A.length + q:Nat):Int).toNat - ((A.length + s:Nat):Int).toNat < ((A.length + r:Nat):Int).toNat - ((A.length + s:Nat):Int).toNat
   omega
 have h5:s = r:=by have:=Uy h5; omega
 subst h5
 obtain ⟨t,ht⟩ : ∃ t,t = H - s:=⟨_,rfl⟩
 have htY:t<=Y.length:=by omega
 have z2:((A.length + H:Nat):Int) + ((A.length + X.length:Nat):Int) - ((A.length + s:Nat):Int) = ((A.length + X.length + t:Nat):Int):=by omega
 rw [z2]
 have hXs:jG fq (X.take s ++ X.drop s):=by rw [UY]; exact hsX
 have hYs:jG fq (Y.take t ++ Y.drop t):=by rw [UY]; exact hsY
 have lX1:(X.take s).length = s:=by simp; omega
 have lX2:(X.drop s).length = X.length - s:=by simp
 have lY1:(Y.take t).length = t:=by simp; omega
 have lY2:(Y.drop t).length = Y.length - t:=by simp
 have c1:∀ x y,(X.take s).getLast? = some x->(Y.drop t).head? = some y->fq x<=fq y:=λx y hx hy=>by
  have hs1:0 < s:=Nat.pos_of_ne_zero λe=>by subst e; simp at hx
  rw [Wn,lX1,VK,UJ (by omega)] at hx
  rw [List.head?_eq_getElem?,Vb,Wo] at hy
  rcases hlo with e | ⟨x',y',e1,e2,e3⟩
  ·have:t = Y.length:=by omega
   rw [this,UW (US _)] at hy; cases hy
  ·rw [hx] at e1; cases e1
   rw [<- ht,hy] at e2; cases e2
   exact e3
 have c2:∀ x y,(Y.take t).getLast? = some x->(X.drop s).head? = some y->fq x<=fq y:=λx y hx hy=>by
  have ht1:0 < t:=Nat.pos_of_ne_zero λe=>by subst e; simp at hx
  rw [Wn,lY1,VK,UJ (by omega)] at hx
  rw [List.head?_eq_getElem?,Vb,Wo] at hy
  rcases hhi with e | ⟨x',y',e1,e2,e3⟩
  ·have:s = X.length:=by omega
   rw [this,UW (US _)] at hy; cases hy
  ·rw [hy] at e1; cases e1
   rw [<- ht,hx] at e2; cases e2
   exact Int.le_of_lt e3
 have rest:∀ w29,St w29 (own 3 o n c (eh (A ++ (X.take s ++ (Y.take t ++ (X.drop s ++ (Y.drop t ++ C)))))) :: L)->br (decide ((A.length:Int) < ((A.length + s:Nat):Int))) (br (decide (((A.length + s:Nat):Int) < ((A.length + H:Nat):Int))) (ay Tryz.prog aJ [.slice o n c,.int .i64 (A.length:Int),.int .i64 ((A.length + s:Nat):Int),.int .i64 ((A.length + H:Nat):Int),.func (.func d) #[] ⟨e⟩] w29 λv4 w30=>v4 = .tuple #[]/\br (decide (((A.length + H:Nat):Int) < ((A.length + X.length + t:Nat):Int))) (br (decide (((A.length + X.length + t:Nat):Int) < ((A.length + X.length + Y.length:Nat):Int))) (ay Tryz.prog aJ [.slice o n c,.int .i64 ((A.length + H:Nat):Int),.int .i64 ((A.length + X.length + t:Nat):Int),.int .i64 ((A.length + X.length + Y.length:Nat):Int),.func (.func d) #[] ⟨e⟩] w30 λv5 w31=>v5 = .tuple #[]/\((.tuple #[] : Value) = .tuple #[]/\∃ S,S.Perm (X ++ Y)/\jG fq S/\St w31 (own 3 o n c (eh (A ++ (S ++ C))) :: L))) ((.tuple #[] : Value) = .tuple #[]/\∃ S,S.Perm (X ++ Y)/\jG fq S/\St w30 (own 3 o n c (eh (A ++ (S ++ C))) :: L))) ((.tuple #[] : Value) = .tuple #[]/\∃ S,S.Perm (X ++ Y)/\jG fq S/\St w30 (own 3 o n c (eh (A ++ (S ++ C))) :: L)))
   (br (decide (((A.length + H:Nat):Int) < ((A.length + X.length + t:Nat):Int))) (br (decide (((A.length + X.length + t:Nat):Int) < ((A.length + X.length + Y.length:Nat):Int))) (ay Tryz.prog aJ [.slice o n c,.int .i64 ((A.length + H:Nat):Int),.int .i64 ((A.length + X.length + t:Nat):Int),.int .i64 ((A.length + X.length + Y.length:Nat):Int),.func (.func d) #[] ⟨e⟩] w29 λv5 w31=>v5 = .tuple #[]/\((.tuple #[] : Value) = .tuple #[]/\∃ S,S.Perm (X ++ Y)/\jG fq S/\St w31 (own 3 o n c (eh (A ++ (S ++ C))) :: L))) ((.tuple #[] : Value) = .tuple #[]/\∃ S,S.Perm (X ++ Y)/\jG fq S/\St w29 (own 3 o n c (eh (A ++ (S ++ C))) :: L))) ((.tuple #[] : Value) = .tuple #[]/\∃ S,S.Perm (X ++ Y)/\jG fq S/\St w29 (own 3 o n c (eh (A ++ (S ++ C))) :: L))))
   (br (decide (((A.length + H:Nat):Int) < ((A.length + X.length + t:Nat):Int))) (br (decide (((A.length + X.length + t:Nat):Int) < ((A.length + X.length + Y.length:Nat):Int))) (ay Tryz.prog aJ [.slice o n c,.int .i64 ((A.length + H:Nat):Int),.int .i64 ((A.length + X.length + t:Nat):Int),.int .i64 ((A.length + X.length + Y.length:Nat):Int),.func (.func d) #[] ⟨e⟩] w29 λv5 w31=>v5 = .tuple #[]/\((.tuple #[] : Value) = .tuple #[]/\∃ S,S.Perm (X ++ Y)/\jG fq S/\St w31 (own 3 o n c (eh (A ++ (S ++ C))) :: L))) ((.tuple #[] : Value) = .tuple #[]/\∃ S,S.Perm (X ++ Y)/\jG fq S/\St w29 (own 3 o n c (eh (A ++ (S ++ C))) :: L))) ((.tuple #[] : Value) = .tuple #[]/\∃ S,S.Perm (X ++ Y)/\jG fq S/\St w29 (own 3 o n c (eh (A ++ (S ++ C))) :: L))):=by
  intro w29 h
  -- the second half
  have second:∀ {w30:Ws} {S1:List k_},S1.Perm (X.take s ++ Y.take t)->jG fq S1->St w30 (own 3 o n c (eh (A ++ (S1 ++ (X.drop s ++ (Y.drop t ++ C))))) :: L)->br (decide (((A.length + H:Nat):Int) < ((A.length + X.length + t:Nat):Int))) (br (decide (((A.length + X.length + t:Nat):Int) < ((A.length + X.length + Y.length:Nat):Int))) (ay Tryz.prog aJ [.slice o n c,.int .i64 ((A.length + H:Nat):Int),.int .i64 ((A.length + X.length + t:Nat):Int),.int .i64 ((A.length + X.length + Y.length:Nat):Int),.func (.func d) #[] ⟨e⟩] w30 λv5 w31=>v5 = .tuple #[]/\((.tuple #[] : Value) = .tuple #[]/\∃ S,S.Perm (X ++ Y)/\jG fq S/\St w31 (own 3 o n c (eh (A ++ (S ++ C))) :: L))) ((.tuple #[] : Value) = .tuple #[]/\∃ S,S.Perm (X ++ Y)/\jG fq S/\St w30 (own 3 o n c (eh (A ++ (S ++ C))) :: L))) ((.tuple #[] : Value) = .tuple #[]/\∃ S,S.Perm (X ++ Y)/\jG fq S/\St w30 (own 3 o n c (eh (A ++ (S ++ C))) :: L)):=by
   intro w30 S1 p1 s1 h
   have l1:S1.length = s + t:=by rw [p1.length_eq,UG,lX1,lY1]
   have fin:∀ {w31:Ws} {S2:List k_},S2.Perm (X.drop s ++ Y.drop t)->jG fq S2->St w31 (own 3 o n c (eh (A ++ (S1 ++ (S2 ++ C)))) :: L)->∃ S,S.Perm (X ++ Y)/\jG fq S/\St w31 (own 3 o n c (eh (A ++ (S ++ C))) :: L):=λ{w31 S2} p2 s2 h=>by
    obtain ⟨q1,q2⟩:=Ie hXs hYs c1 c2 p1 s1 p2 s2
    rw [UY,UY] at q2
    exact ⟨S1 ++ S2,q2,q1,by rw [UK]; exact h⟩
   refine aa (λh6=>?_) λh6=>?_
   rotate_left
   ·have:X.drop s = []:=UL (by have:=Uy h6; omega)
    exact ⟨rfl,fin (S2:=X.drop s ++ Y.drop t) (.refl _) (by rw [this,Ve]; exact (fC.1 hYs).2.1) (by simpa using h)⟩
   have h6:s < X.length:=by have:=Uz h6; omega
   refine aa (λh7=>?_) λh7=>?_
   rotate_left
   ·have:Y.drop t = []:=UL (by have:=Uy h7; omega)
    exact ⟨rfl,fin (S2:=X.drop s ++ Y.drop t) (.refl _) (by rw [this,U3]; exact (fC.1 hXs).2.1) (by simpa using h)⟩
   have h7:t < Y.length:=by have:=Uz h7; omega
   refine (ih (A:=A ++ S1) (X:=X.drop s) (Y:=Y.drop t) (C:=C) h (by simp) (by simp; omega) (by simp; omega) (by simp; omega) (λhh=>by rw [hh] at lX2; simp at lX2; omega) (λhh=>by rw [hh] at lY2; simp at lY2; omega) (by rw [lX2,lY2]; omega) (fC.1 hXs).2.1 (fC.1 hYs).2.1 (λz hz=>?_) (by simp [l1]; omega)).mono ?_
   ·rcases UF.1 hz with hz | hz
    ·exact smX z (VR hz)
    ·exact smY z (VR hz)
   rintro _ w31 ⟨rfl,S2,p2,s2,h⟩
   exact ⟨rfl,rfl,fin p2 s2 (by simpa using h)⟩
  refine aa (λh6=>?_) λh6=>?_
  rotate_left
  ·have:X.take s = []:=UL (by rw [lX1]; have:=Uy h6; omega)
   exact second (S1:=X.take s ++ Y.take t) (.refl _) (by rw [this,Ve]; exact (fC.1 hYs).1) (by simpa using h)
  have h6:0 < s:=by have:=Uz h6; omega
  refine aa (λh7=>?_) λh7=>?_
  rotate_left
  ·have:Y.take t = []:=UL (by rw [lY1]; have:=Uy h7; omega)
   exact second (S1:=X.take s ++ Y.take t) (.refl _) (by rw [this,U3]; exact (fC.1 hXs).1) (by simpa using h)
  have h7:0 < t:=by have:=Uz h7; omega
  refine (ih (A:=A) (X:=X.take s) (Y:=Y.take t) (C:=X.drop s ++ (Y.drop t ++ C)) h rfl rfl (by simp; omega) (by simp; omega) (λhh=>by rw [hh] at lX1; simp at lX1; omega) (λhh=>by rw [hh] at lY1; simp at lY1; omega) (by rw [lX1,lY1]; omega) (fC.1 hXs).1 (fC.1 hYs).1 (λz hz=>?_) (by simp; omega)).mono ?_
  ·rcases UF.1 hz with hz | hz
   ·exact smX z (List.mem_of_mem_take hz)
   ·exact smY z (List.mem_of_mem_take hz)
  rintro _ w30 ⟨rfl,S1,p1,s1,h⟩
  exact ⟨rfl,second p1 s1 h⟩
 refine ⟨⟨by omega,by omega⟩,λw'=>St w' (own 3 o n c (eh (A ++ (X.take s ++ (Y.take t ++ (X.drop s ++ (Y.drop t ++ C)))))) :: L),?_,λ_ w29 h=>rest w29 h⟩
 have exs:xs = A ++ (X.take s ++ (X.drop s ++ (Y.take t ++ (Y.drop t ++ C)))):=by
  rw [hxs,<- UK (X.take s),UY,<- UK (Y.take t),UY]
 refine aa (λh6=>?_) λh6=>?_
 rotate_left
 ·have:X.drop s = []:=UL (by have:=Uy h6; omega)
  rw [exs,this] at h
  rw [this]
  simpa using h
 have h6:s < X.length:=by have:=Uz h6; omega
 refine aa (λh7=>?_) λh7=>?_
 rotate_left
 ·have:Y.take t = []:=UL (by rw [lY1]; have:=Uy h7; omega)
  rw [exs,this] at h
  rw [this]
  simpa using h
 have h7:0 < t:=by have:=Uz h7; omega
 refine (N5 (A:=A ++ X.take s) (X:=X.drop s) (Y:=Y.take t) (C:=Y.drop t ++ C) h (by rw [exs]; simp) (by simp; omega) (by simp; omega) (by simp; omega) (λhh=>by rw [hh] at lX2; simp at lX2; omega) (λhh=>by rw [hh] at lY1; simp at lY1; omega) hn).mono ?_
 rintro _ w29 ⟨rfl,h⟩
 exact ⟨rfl,by simpa using h⟩
end
section
variable {w:Ws} {L:List au} {o:Wr} {n c:Nat} {d:FuncId} {e:List Value}
theorem N6 {xs:List k_} (hc:Qi d e) (h:St w (own 3 o n c (eh xs) :: L)) (hs:∀ x∈xs,GZ x) (hn:n<=100000) :
  ay Tryz.prog iH [.slice o n c,.int .i64 (n:Int),.func (.func d) #[] ⟨e⟩] w λv w'=>v = .tuple #[]/\∃ ys,ys.Perm xs/\jG fq ys/\St w' (own 3 o n c (eh ys) :: L):=by
 have hnl:=Er h
 refine gW ⟨λa b w'=>∃ D E:List k_,a = (D.length:Int)/\b = (D.length:Int) + 20/\(D ++ E).Perm xs/\Sd fq 20 D/\St w' (own 3 o n c (eh (D ++ E)) :: L),λa _ _=>n - a.toNat,⟨[],xs,rfl,rfl,.refl _,.nil,h⟩,?_⟩
 clear h
 rintro _ _ _ w1 ⟨D,E,rfl,rfl,hp,hF,h⟩
 have hpl:D.length + E.length = xs.length:=by have:=hp.length_eq; simpa using this
 have smE:∀ x∈E,GZ x:=λx hx=>hs x (hp.mem_iff.1 (by simp [hx]))
 refine aa (λh1=>?_) λh1=>?_
 ·have h1:D.length + 20<=n:=by have:=Uz h1; omega
  have l1:(E.take 20).length = 20:=by rw [U0]; omega
  refine (GC (A:=D) (X:=E.take 20) (C:=E.drop 20) hc h (by rw [UY]) rfl (by rw [l1]; simp) (λx hx=>smE x (List.mem_of_mem_take hx)) (by simp; omega)).mono ?_
  rintro _ w2 ⟨rfl,S,pS,sS,h⟩
  have lS:S.length = 20:=by rw [pS.length_eq,l1]
  refine ⟨rfl,⟨by omega,by omega⟩,⟨D ++ S,E.drop 20,by simp [lS],by simp [lS],?_,.snoc D S hF lS sS,by simpa using h⟩,?_⟩
  ·refine List.Perm.trans ?_ hp
   rw [UK]
   refine V9 _ ?_
   exact (pS.append_right _).trans (by rw [UY])
  ·show n - ((D.length:Int) + 20).toNat < n - (D.length:Int).toNat
   omega
 have h1:n < D.length + 20:=by have:=Uy h1; omega
 refine (GC (A:=D) (X:=E) (C:=[]) hc h (by simp) rfl (by omega) smE (by simp; omega)).mono ?_
 rintro _ w3 ⟨rfl,S,pS,sS,h⟩
 have lS:S.length = E.length:=pS.length_eq
 have hR0:Ik fq 20 (D ++ S):=hF.Ud S (.last S (by omega) sS)
 have hp0:(D ++ S).Perm xs:=(V9 _ pS).trans hp
 refine ⟨rfl,λz w'=>∃ (bs:Nat) (ys:List k_),z = bs/\20<=bs/\bs<=200000/\ys.Perm xs/\Ik fq bs ys/\St w' (own 3 o n c (eh ys) :: L),λz _=>n - z.toNat,⟨20,D ++ S,rfl,US _,by omega,hp0,hR0,by simpa using h⟩,?_⟩
 clear h hp hF hp0 hR0 pS sS lS hpl smE h1
 rintro _ _ w4 ⟨bs,ys,rfl,hb20,hbM,hp,hR,h⟩
 have hyl:ys.length = n:=by rw [hp.length_eq]; exact hnl.symm
 refine aa (λh1=>?_) λh1=>?_
 rotate_left
 ·have h1:n<=bs:=by have:=Uy h1; omega
  exact ⟨rfl,ys,hp,hR.QV (by omega),h⟩
 have h1:bs < n:=by have:=Uz h1; omega
 have z0:2 * (bs:Int) = ((2 * bs:Nat):Int):=by simp
 rw [z0]
 refine ⟨⟨by omega,by omega⟩,λa b w'=>∃ D E:List k_,a = (D.length:Int)/\b = ((D.length + 2 * bs:Nat):Int)/\(D ++ E).Perm xs/\Sd fq (2 * bs) D/\Ik fq bs E/\St w' (own 3 o n c (eh (D ++ E)) :: L),λa _ _=>n - a.toNat,⟨[],ys,rfl,by simp,hp,.nil,hR,h⟩,?_⟩
 clear h hp hR hyl
 rintro _ _ _ w5 ⟨D,E,rfl,rfl,hp,hF,hR,h⟩
 have hpl:D.length + E.length = xs.length:=by have:=hp.length_eq; simpa using this
 have smE:∀ x∈E,GZ x:=λx hx=>hs x (hp.mem_iff.1 (by simp [hx]))
 refine aa (λh2=>?_) λh2=>?_
 ·have h2:D.length + 2 * bs<=n:=by have:=Uz h2; omega
  obtain ⟨X,m,rfl,hX,sX,hm,_⟩:=hR.cut (by omega)
  have hml:bs<=m.length:=by simp at hpl; omega
  obtain ⟨Y,E',rfl,hY,sY,hE'⟩ : ∃ Y E',m = Y ++ E'/\Y.length = bs/\jG fq Y/\Ik fq bs E':=by
   by_cases e:m.length = bs
   ·exact ⟨m,[],by simp,e,hm.QV (by omega),.last [] (UM _) .nil⟩
   ·obtain ⟨Y,E',q1,q2,q3,q4,_⟩:=hm.cut (by omega)
    exact ⟨Y,E',q1,q2,q3,q4⟩
  refine ⟨⟨by omega,by omega⟩,(A0 hc (X.length + Y.length) (A:=D) (X:=X) (Y:=Y) (C:=E') h (by simp) rfl (by rw [hX]; simp) (by rw [hX,hY]; omega) (λhh=>by rw [hh] at hX; simp at hX; omega) (λhh=>by rw [hh] at hY; simp at hY; omega) (US _) sX sY (λx hx=>smE x ?_) (by simp at hpl ⊢; omega)).mono ?_⟩
  ·rcases UF.1 hx with hx | hx <;> simp [hx]
  rintro _ w6 ⟨rfl,S,pS,sS,h⟩
  have lS:S.length = 2 * bs:=by rw [pS.length_eq,UG]; omega
  refine ⟨rfl,⟨by omega,by omega⟩,⟨by omega,by omega⟩,⟨D ++ S,E',by simp [lS],by simp [lS],?_,.snoc D S hF lS sS,hE',by simpa using h⟩,?_⟩
  ·refine List.Perm.trans ?_ hp
   rw [UK]
   refine V9 _ ?_
   rw [<- UK]
   exact pS.append_right _
  ·show n - ((D.length + 2 * bs:Nat):Int).toNat < n - (D.length:Int).toNat
   omega
 have h2:n < D.length + 2 * bs:=by have:=Uy h2; omega
 have z1:(D.length:Int) + (bs:Int) = ((D.length + bs:Nat):Int):=by simp
 rw [z1]
 have next:∀ {w' : Ws} {S:List k_},S.Perm E->jG fq S->St w' (own 3 o n c (eh (D ++ S)) :: L)->aw ((bs:Int) * 2)/\(∃ (bs' : Nat) (ys:List k_),(bs:Int) * 2 = bs'/\20<=bs'/\bs'<=200000/\ys.Perm xs/\Ik fq bs' ys/\St w' (own 3 o n c (eh ys) :: L))/\n - ((bs:Int) * 2).toNat < n - (bs:Int).toNat:=λ{w' S} pS sS h=>by
  have lS:=pS.length_eq
  refine ⟨⟨by omega,by omega⟩,⟨2 * bs,D ++ S,by omega,by omega,by omega,(V9 _ pS).trans hp,hF.Ud S (.last S (by omega) sS),h⟩,by omega⟩
 refine ⟨⟨by omega,by omega⟩,aa (λh3=>?_) λh3=>?_⟩
 ·have h3:D.length + bs < n:=by have:=Uz h3; omega
  obtain ⟨X,Y,rfl,hX,sX,hY,hY0⟩:=hR.cut (by omega)
  have hYl:Y.length < bs:=by simp at hpl; omega
  refine (A0 hc (X.length + Y.length) (A:=D) (X:=X) (Y:=Y) (C:=[]) h (by simp) rfl (by rw [hX]) (by simp at hpl; omega) (λhh=>by rw [hh] at hX; simp at hX; omega) hY0 (US _) sX (hY.QV (by omega)) smE (by simp at hpl ⊢; omega)).mono ?_
  rintro _ w7 ⟨rfl,S,pS,sS,h⟩
  exact ⟨rfl,next pS sS (by simpa using h)⟩
 ·exact next (.refl E) (hR.QV (by have:=Uy h3; omega)) h
theorem N7:Qi mh []:=by
 refine ⟨rfl,λx y u hx hy=>?_⟩
 obtain ⟨x1,x2⟩:=hx
 obtain ⟨y1,y2⟩:=hy
 refine sZ (af (St.all u) λk1 w1 h=>af h λk2 w2 h=>?_)
 refine ⟨_,(ag 1 h.l).cell (sub.refl _) (j:=1) rfl,_,(ag 0 h.l).cell (sub.refl _) (j:=1) rfl,⟨by omega,by omega⟩,_,rfl,?_,bj 2 h.l⟩
 show x.1.2 - y.1.2 < 0↔x.1.2 < y.1.2
 omega
theorem N8 {xs:List k_} (h:St w (own 3 o xs.length c (eh xs) :: aT (uE xs) :: L)) (hs:∀ x∈xs,GZ x) (hn:xs.length<=100000) :
  ay Tryz.prog dP [.slice o xs.length c,.func (.func mh) #[] #[]] w λv w'=>v = .tuple #[]/\∃ ys:List k_,ys.Perm xs/\jG fq ys/\St w' (own 3 o xs.length c (eh ys) :: aT (uE ys) :: L):=by
 refine dD ((N6 N7 h hs hn).mono ?_)
 rintro _ w' ⟨rfl,ys,p,s,h⟩
 refine ⟨rfl,rfl,ys,p,s,?_⟩
 have h1:=St.flat.1 (h.pick 2 [1,0])
 have h2:=h1.perm ((p.map λb=>b_ 1 iv b.2).symm.append_right _)
 exact (St.flat.2 h2).pick 2 [1,0]
end
end Go.Proofs.YtndaepmjkbmjmaaGreatDoor
namespace Go.V
section
variable {g:ae} {nn:List Bool} {ss:List SQ}
theorem xC {q:Nat} {es:List aN}:(mg g q es).length<=es.length:=by
 unfold mg; rw [UH]; exact Vm _ _
theorem K9 {q:Nat} {K:List ai}:(qP q K).length<=1:=by unfold qP; split <;> simp
theorem CX (h:∀ q∈ss,q.2.2.length<=130):∀ n,(lj g ss n).length<=n * 131
 | 0=>by simp [lj]
 | n + 1=>by
  rw [AO,UG]
  have h1:=CX h n
  have h2:(vW g ss n).length<=131:=by
   unfold vW
   split
   ·rename_i r hr
    have:=h r (UC hr)
    have:=xC (g:=g) (q:=n) (es:=r.2.2)
    have:=K9 (q:=n) (K:=r.1.2)
    rw [UG]; omega
   ·simp
  omega
theorem CY {l:eI} {n:Nat}:(qQ l n).length<=n:=by unfold qQ; simp; omega
theorem CZ {ls:List eI} (h:∀ l∈ls,l.tm.length<=65):∀ n,(nJ ls n).length<=n * 65
 | 0=>by simp [nJ]
 | n + 1=>by
  have h1:=CZ h n
  cases hl:ls[n]? with
  | none =>
   have e:ls.take (n + 1) = ls.take n:=by rw [UI,hl]; simp
   unfold nJ at h1 ⊢
   rw [e]; omega
  | some l =>
   rw [AQ hl,UG]
   have h2:=CY (l:=l) (n:=l.tm.length)
   have h3:=h l (UC hl)
   omega
def TW (g:ae) (nn:List Bool) (ss:List SQ) (ps:List (ew × Lq ax)):Prop:=(ps.map Prod.fst).Nodup/\∀ q t:Nat,q < ss.length->t < g.T->gq ⟨(q:Int),(t:Int)⟩ ps = bf g nn ss q t
end
theorem Uv {w:Ws} {L:List au} {ds:List k_} {i:Nat} {b:k_} (h:St w (aT (uE ds) :: L)) (hb:ds[i]? = some b):aX (hp w) b.2.2 b.2.1.1 b.2.2.length:=by
 have hA:(uE ds)[i]? = some (b_ 1 iv b.2):=by unfold uE; rw [UD,hb]; rfl
 have h2:=St.out h hA
 exact dO rfl (ee 0 h2.l)
end Go.V
namespace Go.Proofs.YtndaepmjkbmjmaaGreatDoor
variable {w:Ws} {L:List au} {g:ae} {x:GA}
theorem N9 {xs:List ai} {a:Wr} {l c:Nat} {d e:Int} (hr:aX (hp w) xs a l) (hb:l<=4611686018427387904):ay Tryz.prog fJ [.slice a l c,.agg #[.int .i64 d,.int .i64 e]] w λv w'=>v = .bool (decide ((⟨d,e⟩ : ai)∈xs))/\Gr w w':=by
 have hl:=hr.1
 refine eV (af (St.all w) λk1 w1 h=>?_)
 have g1:Gr w w1:=h.aR
 refine ⟨_,_,(ag 0 h.l).at (sub.refl _) rfl,?_⟩
 clear h
 have hr:=hr.mono g1
 have key:ay Tryz.prog ig [.slice a l c,.agg #[.int .i64 d,.int .i64 e]] w1 λv w'=>∃ z:Int,v = .int .i64 z/\(0<=z↔(⟨d,e⟩ : ai)∈xs)/\Gr w1 w':=by
  refine ga (af (St.all w1) λk2 w2 h=>?_)
  have g2:Gr w1 w2:=h.aR
  have rk:av (hp w2) (aM k2) [.int .i64 d,.int .i64 e]:=ag 0 h.l
  clear h
  have hr:=hr.mono g2
  refine ⟨λz w'=>∃ j:Nat,z = j/\j<=l/\(⟨d,e⟩ : ai)∉xs.take j/\hp w' = hp w2,λz _=>l - z.toNat,⟨0,rfl,UM _,by simp,rfl⟩,?_⟩
  rintro _ _ w3 ⟨j,rfl,hj,hno,e3⟩
  refine aa (λh1=>?_) λh1=>?_
  rotate_left
  ·have h1:j = l:=by have:=Uy h1; omega
   rw [UX (by omega)] at hno
   exact ⟨-1,rfl,⟨λh=>by omega,λh=>absurd h hno⟩,g2.trans (Gr.of_eq e3)⟩
  have h1:j < l:=by have:=Uz h1; omega
  obtain ⟨y,ad,hy,rfl,ry⟩:=KQ hr h1
  intro w4 hd
  have e4:hp w4 = hp w2:=(aE hd).trans e3
  have sb:∀ u:Ws,hp u = hp w2->sub (hp w2) (hp u):=λu e=>by rw [e]; exact sub.refl _
  refine ⟨λu=>hp u = hp w2,e4,_,_,λu e=>rk.at (sb u e) rfl,ak rfl h1 ⟨_,_,λu e=>ry.at (sb u e) rfl,_,λu _=>HM u _ _ ⟨d,e⟩ y,_,rfl,aa (λh2=>?_) λh2=>?_⟩⟩
  ·have h2:=Uz h2
   exact ⟨j,rfl,⟨λ_=>by rw [h2]; exact UC hy,λ_=>Vs _⟩,g2.trans (Gr.of_eq e4)⟩
  ·have h2:=Uy h2
   refine ⟨⟨by omega,by omega⟩,⟨j + 1,by simp,h1,λhm=>?_,e4⟩,bK h1⟩
   rw [UI,hy,UF] at hm
   rcases hm with hm | hm
   ·exact hno hm
   ·simp at hm; exact h2 hm
 refine key.mono ?_
 rintro _ w' ⟨z,rfl,hz,g⟩
 refine ⟨z,rfl,?_,g1.trans g⟩
 rw [show decide (0<=z) = decide ((⟨d,e⟩ : ai)∈xs) from decide_eq_decide.2 hz]
theorem N_ (hg:gR (hp w) g x) (hb:iK g) (ht:dG (hp w)):ay Tryz.prog AZ [.agg ⟨x.cells⟩] w λv w'=>∃ (ss:List SQ) (ask int f:Int) (nn:List Bool) (b:Option Nat) (z:Int),v = .tuple #[.map b,.int .i64 z,.int .i64 f]/\rK g ss ask int f/\(f = 0->uf g nn)/\Gr w w'/\(f = 0->∃ (k:Nat) (ps:List (ew × Lq ax)),b = some k/\z = (ss.length:Int)/\TW g nn ss ps/\St w' (mapA k (mV ps) :: aT (mO 2 cZ ps) :: all w)):=by
 refine xB (cQ hg λk1 w1 gw hg1 B=>?_)
 refine ⟨_,_,_,_,_,_,_,_,_,_,_,_,_,B.row (sub.refl _),(nA hg1 hb).mono ?_⟩
 rintro _ w2 ⟨o,c,ss,ask,int,f,rfl,hR,h3⟩
 have g12:Gr w1 w2:=bj 3 h3.l
 have hs:FQ (hp w2) ss o:=zd h3.l
 clear h3
 refine ⟨_,_,_,_,_,_,rfl,af (St.all w2) λk12 w3 h=>aI h rfl (by simp [aH]) λw4 h=>?_⟩
 have g24:Gr w2 w4:=h.aR
 have r12:av (hp w4) (aM k12) [.slice o ss.length c,.int .i64 ask,.int .i64 int]:=ag 0 h.l
 clear h
 have g14:=g12.trans g24
 refine aa (λh1=>?_) λh1=>?_
 ·have h1:f≠0:=by simpa using h1
  exact ⟨ss,ask,int,f,[],none,0,rfl,hR,λh=>absurd h h1,gw.trans g14,λh=>absurd h h1⟩
 have h1:f = 0:=by simpa using h1
 subst h1
 obtain ⟨hc,hA⟩:=hR.FW rfl
 have hkl:=hA.BI hc
 have h256:=hA.dn.2.1
 obtain ⟨sT,sN,sP,_,_,_⟩:=hc.gB
 have tl:=hg.t.1
 refine ⟨_,_,_,_,_,_,_,_,_,_,_,_,_,B.row g14,(Sa (hg1.mono g14) hb (fp.mono (gw.trans g14) ht)).mono ?_⟩
 rintro _ w5 ⟨ss2,ask2,int2,f2,nn,oS,cS,ds,rfl,hR2,hn,hds,h⟩
 obtain ⟨_,hes,_,_,ef,_⟩:=hR.one hR2
 subst ef
 rw [CJ hes.symm] at hds
 have hnn:=hn rfl
 refine ⟨_,_,_,_,rfl,aa (λh1=>by simp at h1) λ_=>?_⟩
 obtain ⟨hbl,_⟩:=JL hc hA
 have hdl:ds.length<=24832:=by
  have:=congrArg List.length hds
  rw [UH,Ib] at this
  omega
 have hlk:∀ l∈cf g nn ss,l.tm.length<=65:=λl hl=>by
  obtain ⟨b,_,rfl⟩:=UU.1 hl
  exact U7 NP sT
 have hs:=hs.mono g24
 have hel:∀ q∈ss,q.2.2.length<=130:=λq hq=>(hkl q hq).2
 have pS:∀ n,n<=ss.length->(lj g ss n).length<=33536:=λn hn=>by have:=CX (g:=g) hel n; omega
 have smD:∀ b∈ds,GZ b:=λb hb=>by
  have hm:qO b∈cf g nn ss:=by rw [<- hds]; exact List.mem_map_of_mem hb
  obtain ⟨q,m,_,hm2,_,e⟩:=AV hm
  have e:b.1.2 = (m:Int):=congrArg eI.prod e
  unfold GZ; omega
 refine lY h λk23 w6 h=>?_
 have h:St w6 (mapA k23 (mV ([] : List (ew × Lq ax))) :: own 3 oS ds.length cS (eh ds) :: aT (uE ds) :: all w4):=dz h
 have h:St w6 (mapA k23 (mV ([] : List (ew × Lq ax))) :: aT (mO 2 cZ ([] : List (ew × Lq ax))) :: own 3 oS ds.length cS (eh ds) :: aT (uE ds) :: all w4):=((St.flat (M:=[])).2 h).pick 2 [1,0]
 refine ⟨_,_,_,r12.cell0 (bj 4 h.l),λz w'=>∃ (q:Nat) (ps:List (ew × Lq ax)),z = q/\q<=ss.length/\yT ps (lj g ss q)/\St w' (mapA k23 (mV ps) :: aT (mO 2 cZ ps) :: own 3 oS ds.length cS (eh ds) :: aT (uE ds) :: all w4),λz _=>ss.length - z.toNat,⟨0,[],rfl,UM _,yT.nil,h⟩,?_⟩
 clear h
 rintro _ _ w7 ⟨q,ps,rfl,hq,hG,h⟩
 refine aa (λh1=>?_) λh1=>?_
 ·have h1:q < ss.length:=by have:=Uz h1; omega
  obtain ⟨r,hr⟩ : ∃ r,ss[q]? = some r:=⟨_,UB h1⟩
  obtain ⟨ad,ho,rs,rk,re⟩:=hs q r hr
  have hrm:=UC hr
  have hrl:=hel r hrm
  have hkl1:=(hkl r hrm).1
  have hpq:=pS q hq
  have eS:lj g ss (q + 1) = lj g ss q ++ (mg g q r.2.2 ++ qP q r.1.2):=by
   rw [AO]; unfold vW; rw [hr]
  refine ak ho h1 ⟨_,_,_,_,_,_,rs.at (bj 4 h.l) rfl,af h λk30 w8 h=>aI h rfl (by simp [aH]) λw9 h=>⟨_,_,_,(ag 0 h.l).cell (sub.refl _) (j:=1) rfl,?_⟩⟩
  refine ⟨λz w'=>∃ (k:Nat) (ps:List (ew × Lq ax)),z = k/\k<=r.2.2.length/\yT ps (lj g ss q ++ mg g q (r.2.2.take k))/\St w' (mapA k23 (mV ps) :: aT (mO 2 cZ ps) :: aS k30 (KM r) :: own 3 oS ds.length cS (eh ds) :: aT (uE ds) :: all w4),λz _=>r.2.2.length - z.toNat,⟨0,ps,rfl,UM _,by simpa [mg] using hG,h.pick 3 [1,2,0]⟩,?_⟩
  clear h hG
  rintro _ _ w10 ⟨k,ps,rfl,hk,hG,h⟩
  have hpe:=xC (g:=g) (q:=q) (es:=r.2.2.take k)
  rw [U0] at hpe
  refine aa (λh2=>?_) λh2=>?_
  ·have h2:k < r.2.2.length:=by have:=Uz h2; omega
   obtain ⟨e,ead,he,hea,re'⟩:=kR re h2
   have etk:r.2.2.take (k + 1) = r.2.2.take k ++ [e]:=by rw [UI,he]; rfl
   refine ak hea h2 ⟨_,_,re'.at (bj 5 h.l) rfl,af h λk33 w11 h=>aI h rfl (by simp [aH]) λw12 h=>⟨_,(ag 0 h.l).cell0 (sub.refl _),_,_,_,B.c0 (sub.trans g14 (bj 6 h.l)),aa (λh3=>?_) λh3=>?_⟩⟩
   ·have h3:e.sym < (g.T:Int):=by have:=Uz h3; rw [<- tl] at this; exact this
    refine ⟨_,(ag 0 h.l).cell0 (sub.refl _),_,(ag 0 h.l).cell (sub.refl _) (j:=1) rfl,af h λk36 w13 h=>(N3 (q:=q) (t:=e.sym) (a:=⟨1,e.to⟩) (h.pick 2 [0]) hG (by rw [UG]; omega)).mono ?_⟩
    rintro _ w14 ⟨rfl,ps',hG',h⟩
    refine ⟨rfl,⟨by omega,by omega⟩,⟨k + 1,ps',by simp,h2,?_,h⟩,bK h2⟩
    rw [etk,AP,UJ h3,<- UK]
    exact hG'
   ·have h3:¬ e.sym < (g.T:Int):=by have:=Uy h3; rw [<- tl] at this; exact this
    refine ⟨⟨by omega,by omega⟩,⟨k + 1,ps,by simp,h2,?_,h.tail⟩,bK h2⟩
    rw [etk,AP,UE h3]
    exact hG
  have h2:k = r.2.2.length:=by have:=Uy h2; omega
  rw [h2,UZ] at hG
  refine ⟨_,_,_,(ag 2 h.l).cell0 (sub.refl _),(N9 (rk.mono (bj 5 h.l)) (by omega)).mono ?_⟩
  rintro _ w15 ⟨rfl,g15⟩
  have h:=h.gr g15
  refine ⟨_,rfl,aa (λh3=>af h λk39 w16 h=>(N3 (q:=q) (t:=0) (a:=⟨3,0⟩) h hG (by rw [UG]; have:=xC (g:=g) (q:=q) (es:=r.2.2); omega)).mono ?_) λh3=>?_⟩
  ·rintro _ w17 ⟨rfl,ps',hG',h⟩
   refine ⟨rfl,⟨by omega,by omega⟩,⟨q + 1,ps',by simp,h1,?_,h.pick 3 [0,1]⟩,bK h1⟩
   have ea:qP q r.1.2 = [(⟨(q:Int),0⟩,⟨3,0⟩)]:=by unfold qP; rw [UJ (Uz h3)]
   rw [eS,ea,<- UK]
   exact hG'
  ·refine ⟨⟨by omega,by omega⟩,⟨q + 1,ps,by simp,h1,?_,h.pick 3 [0,1]⟩,bK h1⟩
   have ea:qP q r.1.2 = []:=by unfold qP; rw [UE (Uy h3)]
   rw [eS,ea,U3]
   exact hG
 have h1:q = ss.length:=by have:=Uy h1; omega
 subst h1
 have hpS:=pS ss.length (US _)
 refine (N8 (h.pick 4 [2,3,0,1]) smD (by omega)).mono ?_
 rintro _ w18 ⟨rfl,ys,pys,sys,h⟩
 have hyl:ds.length = ys.length:=pys.length_eq.symm
 rw [hyl] at h ⊢
 have pL:(ys.map qO).Perm (cf g nn ss):=by rw [<- hds]; exact pys.map _
 have sL:jG (·.prod) (ys.map qO):=by rw [jG,Vx]; exact sys
 have hyt:∀ l∈ys.map qO,l.tm.length<=65:=λl hl=>hlk l (pL.mem_iff.1 hl)
 have pL2:∀ n,n<=ys.length->(nJ (ys.map qO) n).length<=24832 * 65:=λn hn=>by have:=CZ hyt n; omega
 refine ⟨rfl,λz w'=>∃ (i:Nat) (ps:List (ew × Lq ax)),z = i/\i<=ys.length/\yT ps (lj g ss ss.length ++ nJ (ys.map qO) i)/\St w' (mapA k23 (mV ps) :: aT (mO 2 cZ ps) :: own 3 oS ys.length cS (eh ys) :: aT (uE ys) :: all w4),λz _=>ys.length - z.toNat,⟨0,ps,rfl,UM _,by simpa [nJ] using hG,h.pick 4 [2,3,0,1]⟩,?_⟩
 clear h hG
 rintro _ _ w19 ⟨i,ps,rfl,hi,hG,h⟩
 refine aa (λh1=>?_) λh1=>?_
 ·have h1:i < ys.length:=by have:=Uz h1; omega
  obtain ⟨b,hb1⟩ : ∃ b,ys[i]? = some b:=⟨_,UB h1⟩
  have hbl:(ys.map qO)[i]? = some (qO b):=by rw [UD,hb1]; rfl
  have hbt:b.2.2.length<=65:=hyt (qO b) (UC hbl)
  have hpi:=pL2 i hi
  obtain ⟨ad,ho,rb⟩:=Ij (h.pick 3 [2,0,1]) hb1
  refine ak ho h1 ⟨_,_,_,_,_,rb.at (sub.refl _) rfl,af h λk42 w20 h=>aI h rfl (by simp [aH]) λw21 h=>⟨_,_,_,(ag 0 h.l).cell (sub.refl _) (j:=2) rfl,?_⟩⟩
  refine ⟨λz w'=>∃ (k:Nat) (ps:List (ew × Lq ax)),z = k/\k<=b.2.2.length/\yT ps ((lj g ss ss.length ++ nJ (ys.map qO) i) ++ qQ (qO b) k)/\St w' (mapA k23 (mV ps) :: aT (mO 2 cZ ps) :: aS k42 (Te b) :: own 3 oS ys.length cS (eh ys) :: aT (uE ys) :: all w4),λz _=>b.2.2.length - z.toNat,⟨0,ps,rfl,UM _,by simpa [qQ] using hG,h.pick 3 [1,2,0]⟩,?_⟩
  clear h hG rb
  rintro _ _ w22 ⟨k,ps,rfl,hk,hG,h⟩
  refine aa (λh2=>?_) λh2=>?_
  ·have h2:k < b.2.2.length:=by have:=Uz h2; omega
   have rt:=Uv (h.pick 5 [4,0,1,2,3]) hb1
   obtain ⟨t,tad,ht1,hta,ht2⟩:=rt.dM h2
   have hpk:=CY (l:=qO b) (n:=k)
   refine aB hta h2 ⟨t,ht2 _ (sub.refl _),_,(ag 2 h.l).cell0 (sub.refl _),_,(ag 2 h.l).cell (sub.refl _) (j:=1) rfl,af h λk45 w23 h=>(N3 (q:=b.1.1) (t:=t) (a:=⟨2,b.1.2⟩) h hG (by simp only [UG]; omega)).mono ?_⟩
   rintro _ w24 ⟨rfl,ps',hG',h⟩
   refine ⟨rfl,⟨by omega,by omega⟩,⟨k + 1,ps',by simp,h2,?_,h⟩,bK h2⟩
   rw [Ig (show (qO b).tm[k]? = some t from ht1),<- UK]
   exact hG'
  ·have h2:k = b.2.2.length:=by have:=Uy h2; omega
   refine ⟨⟨by omega,by omega⟩,⟨i + 1,ps,by simp,h1,?_,h.pick 3 [0,1]⟩,bK h1⟩
   rw [AQ hbl,<- UK]
   rw [h2] at hG
   exact hG
 have h1:i = ys.length:=by have:=Uy h1; omega
 subst h1
 intro w25 hd
 have h:=h.eq (aE hd)
 refine ⟨λu=>hp u = hp w25,rfl,_,_,_,λu e=>r12.cell0 (by rw [e]; exact bj 4 h.l),ss,ask,int,0,nn,some k23,_,rfl,hR,λ_=>hnn,gw.trans (sub.trans g14 (bj 4 h.l)),λ_=>⟨k23,ps,rfl,rfl,⟨hG.1,λq t hq ht=>?_⟩,?_⟩⟩
 ·rw [hG.2,show ys.length = (ys.map qO).length by simp]
  exact Td hA pL sL hq ht
 ·exact St.IV (h.pick 5 [0,1,4]) (bY (gw.trans g14))
end Go.Proofs.YtndaepmjkbmjmaaGreatDoor
namespace Go.V
abbrev wm:=(Int × Int) × Lq ax
def Tf (b:wm):List Value:=[.int .i64 b.1.1,.int .i64 b.1.2,cF b.2]
def Et (bs:List wm):List Value:=bs.flatMap Tf
def A2 (bs:List wm):List au:=bs.map λb=>b_ 2 cZ b.2
def mF (b:wm):bI:=⟨b.1.1,b.1.2,b.2.2⟩
def Tg (b:wm):ew × Lq ax:=(⟨b.1.1,b.1.2⟩,b.2)
theorem JT (bs:List wm):(Et bs).length = bs.length * 3:=kQ (f:=Tf) (n:=3) (λ_=>rfl) bs
theorem JU (xs ys:List wm):Et (xs ++ ys) = Et xs ++ Et ys:=U_
theorem GD {α : Type}:∀ {l1 l2:List α},l1.Nodup->(∀ x∈l1,x∈l2)->∃ l3,l2.Perm (l1 ++ l3)
 | [],l2,_,_=>⟨l2,.refl _⟩
 | a :: l1,l2,hn,hs=>by
  obtain ⟨h1,h2⟩:=Vy.1 hn
  obtain ⟨s,t,rfl⟩:=Wk (hs a (by simp))
  obtain ⟨l3,h3⟩:=GD (l2:=s ++ t) h2 λx hx=>by
   have:=hs x (by simp [hx])
   simp only [UF,UR] at this ⊢
   rcases this with h | rfl | h
   ·exact .inl h
   ·exact absurd hx h1
   ·exact .inr h
  exact ⟨l3,Vt.trans (.cons a h3)⟩
section
variable {g:ae} {nn:List Bool} {ss:List SQ} {least:Nat} {w:Ws} {L:List au}
theorem Il {ds:List wm} {ps:List (ew × Lq ax)} {n:Nat} (hd:ds.map mF = dJ g nn ss least n) (hm:∀ d∈ds,Tg d∈ps) (h:St w (aT (mO 2 cZ ps) :: L)):St w (aT (A2 ds) :: L):=by
 have hnd:(ds.map Tg).Nodup:=by
  have h1:(ds.map mF).Pairwise bI.lt:=by rw [hd]; exact xv n
  rw [Vx] at h1
  rw [Vz,Vx]
  refine h1.imp λ{a b} h e=>?_
  have e1:=congrArg (λz=>z.1.st) e
  have e2:=congrArg (λz=>z.1.tm) e
  unfold bI.lt mF at h
  simp only [Tg] at e1 e2
  simp only at h
  omega
 obtain ⟨l3,h3⟩:=GD hnd (l2:=ps) λx hx=>by
  obtain ⟨d,hd,rfl⟩:=UU.1 hx
  exact hm d hd
 have hp:(mO 2 cZ ps).Perm (A2 ds ++ mO 2 cZ l3):=by
  have:=h3.map λq=>b_ 2 cZ q.2
  rw [U1,V_] at this
  exact this
 have h1:=(St.flat.1 h).perm (hp.append_right _)
 rw [UK] at h1
 have h2:St w (aT (A2 ds) :: (mO 2 cZ l3 ++ L)):=St.flat.2 h1
 have h3:St w (mO 2 cZ l3 ++ (aT (A2 ds) :: L)):=h2.perm Vt.symm
 exact (St.flat.2 h3).tail
theorem K_ (ps:List (ew × Lq ax)) (p:ew):∃ e:Lq ax,(assoc p (mV ps)).getD (.slice none 0 0) = cF e/\e.2 = gq p ps/\(e.2≠[]->(p,e)∈ps):=by
 rw [gA]
 unfold gq
 cases h:cW p ps with
 | none=>exact ⟨((none,0),[]),rfl,rfl,λh=>absurd rfl h⟩
 | some e=>exact ⟨e,rfl,rfl,λ_=>Ag h⟩
end
end Go.V
namespace Go.Proofs.YtndaepmjkbmjmaaGreatDoor
variable {w:Ws} {L:List au} {g:ae} {x:GA}
theorem JV {least:Nat} (hl1:1<=least) (hl2:least<=10) (hg:gR (hp w) g x) (hb:iK g) (ht:dG (hp w)):ay Tryz.prog BP [.agg ⟨x.cells⟩,.int .i64 (least:Int)] w λv w'=>∃ (ss:List SQ) (ask int f:Int) (nn:List Bool) (o:Wr) (c:Nat) (ds:List wm),v = .tuple #[.slice o ds.length c,.int .i64 f]/\rK g ss ask int f/\(f = 0->uf g nn)/\ds.map mF = bR g nn ss least/\St w' (own 3 o ds.length c (Et ds) :: aT (A2 ds) :: all w):=by
 refine yS (cQ hg λk1 w1 gw hg1 B=>?_)
 refine ⟨_,_,_,_,_,_,_,_,_,_,_,_,_,B.row (sub.refl _),(N_ hg1 hb (fp.mono gw ht)).mono ?_⟩
 rintro _ w2 ⟨ss,ask,int,f,nn,b,z,rfl,hR,hn,g12,h2⟩
 refine ⟨_,_,_,rfl,aa (λh1=>?_) λh1=>?_⟩
 ·have h1:f≠0:=by simpa using h1
  have hz:=hR.nil h1
  subst hz
  exact ⟨[],ask,int,f,[],none,0,[],rfl,hR,λh=>absurd h h1,rfl,az 3 ((St.flat (M:=[])).2 (St.here (gw.trans g12)))⟩
 have h1:f = 0:=by simpa using h1
 subst h1
 obtain ⟨hc,hA⟩:=hR.FW rfl
 obtain ⟨k,ps,rfl,rfl,hG,h⟩:=h2 rfl
 have h256:=hA.dn.2.1
 obtain ⟨sT,sN,sP,_,_,_⟩:=hc.gB
 have tl:=hg.t.1
 have hcl:∀ n,n<=ss.length->(dJ g nn ss least n).length<=16640:=λn hn=>by
  have h1:=CT (g:=g) (nn:=nn) (ss:=ss) (least:=least) (n:=n)
  have h2:n * g.T<=256 * 65:=Nat.mul_le_mul (by omega) sT
  omega
 refine ⟨λo n c z w'=>∃ (q:Nat) (ds:List wm),z = q/\q<=ss.length/\n = ds.length/\ds.map mF = dJ g nn ss least q/\(∀ d∈ds,Tg d∈ps)/\St w' (own 3 o n c (Et ds) :: mapA k (mV ps) :: aT (mO 2 cZ ps) :: all w1),λ_ _ _ z _=>ss.length - z.toNat,⟨0,[],rfl,UM _,rfl,rfl,λd hd=>by simp at hd,az 3 h⟩,?_⟩
 clear h
 rintro _ o6 _ c6 _ w3 ⟨q,ds,rfl,hq,rfl,hds,hdp,h⟩
 refine aa (λh1=>?_) λh1=>?_
 rotate_left
 ·have h1:q = ss.length:=by have:=Uy h1; omega
  subst h1
  have h:=Il hds hdp (h.pick 3 [2,0])
  exact ⟨ss,ask,int,0,nn,_,_,ds,rfl,hR,hn,hds,St.IV (h.pick 2 [1,0]) (bY gw)⟩
 have h1:q < ss.length:=by have:=Uz h1; omega
 have hcq:=hcl q hq
 refine ⟨_,_,_,B.c0 (bj 3 h.l),λo n c z w'=>∃ (t:Nat) (ds:List wm),z = t/\t<=g.T/\n = ds.length/\ds.map mF = dJ g nn ss least q ++ fk g nn ss least q t/\(∀ d∈ds,Tg d∈ps)/\St w' (own 3 o n c (Et ds) :: mapA k (mV ps) :: aT (mO 2 cZ ps) :: all w1),λ_ _ _ z _=>g.T - z.toNat,⟨0,ds,rfl,UM _,rfl,by rw [hds]; simp [fk],hdp,h⟩,?_⟩
 clear h hds hdp
 rintro _ o8 _ c8 _ w4 ⟨t,ds2,rfl,ht2,rfl,hds,hdp,h⟩
 have hdl:ds2.length<=17000:=by
  have e:=congrArg List.length hds
  rw [UH,UG] at e
  have:=CS (g:=g) (nn:=nn) (ss:=ss) (least:=least) (q:=q) (n:=t)
  omega
 refine aa (λh2=>?_) λh2=>?_
 rotate_left
 ·have h2:t = g.T:=by have:=Uy h2; rw [<- tl] at this; have e:g.T = g.terms.length:=rfl; omega
  refine ⟨⟨by omega,by omega⟩,⟨q + 1,ds2,by simp,h1,rfl,?_,hdp,h⟩,bK h1⟩
  rw [hds,h2,jb]
 have h2:t < g.T:=by have:=Uz h2; rw [<- tl] at this; have e:g.T = g.terms.length:=rfl; omega
 obtain ⟨e,e1,e2,e3⟩:=K_ ps ⟨(q:Int),(t:Int)⟩
 rw [hG.2 q t h1 h2] at e2
 refine (l5 (κ:=ew) aL (rfl:ah Ty _ = .map _ _) CW rfl rfl (h.pick 2 [1,0]) ⟨(q:Int),(t:Int)⟩).mono ?_
 rintro _ w5 ⟨rfl,rfl⟩
 rw [e1]
 refine ⟨_,_,_,rfl,aa (λh3=>?_) λh3=>?_⟩
 rotate_left
 ·have h3:¬ least<=(bf g nn ss q t).length:=by have:=Uy h3; rw [e2] at this; omega
  refine ⟨⟨by omega,by omega⟩,⟨t + 1,ds2,by simp,h2,rfl,?_,hdp,h⟩,bK h2⟩
  rw [ja,show cellAt g nn ss least q t = [] by unfold cellAt; rw [UE h3],U3]
  exact hds
 have h3:least<=(bf g nn ss q t).length:=by have:=Uz h3; rw [e2] at this; omega
 refine af h λk18 w6 h=>?_
 refine (aW (us:=Et ds2) aL (rfl:ah Ty _ = .slice _) (rfl:ah Ty _ = .slice _) rfl rfl rfl h rfl (by simp [aH]) (by show (ds2.length + 1) * 40<=_; omega) (by omega)).mono ?_
 rintro _ w7 ⟨o10,c10,rfl,h⟩
 refine ⟨_,_,_,rfl,⟨by omega,by omega⟩,⟨t + 1,ds2 ++ [(((q:Int),(t:Int)),e)],by simp,h2,by simp,?_,λd hd=>?_,?_⟩,bK h2⟩
 ·rw [U1,hds,ja,UK]
  congr 2
  unfold cellAt
  rw [UJ h3,<- e2]
  rfl
 ·rcases UF.1 hd with hd | hd
  ·exact hdp d hd
  ·rw [U2] at hd
   subst hd
   exact e3 λhh=>by rw [hh] at e2; rw [<- e2] at h3; simp at h3; omega
 ·rw [JU]
  exact h.pick 2 [0]
theorem GF (hg:gR (hp w) g x) (hb:iK g) (ht:dG (hp w)):ay Tryz.prog qR [.agg ⟨x.cells⟩] w λv w'=>∃ (ss:List SQ) (ask int f:Int) (nn:List Bool) (o:Wr) (c:Nat) (ds:List wm),v = .tuple #[.slice o ds.length c,.int .i64 f]/\rK g ss ask int f/\(f = 0->uf g nn)/\ds.map mF = bR g nn ss 1/\St w' (own 3 o ds.length c (Et ds) :: aT (A2 ds) :: all w):=by
 refine xy (cQ hg λk1 w1 gw hg1 B=>?_)
 refine ⟨_,_,_,_,_,_,_,_,_,_,_,_,_,B.row (sub.refl _),(JV (least:=1) (by decide) (by decide) hg1 hb (fp.mono gw ht)).mono ?_⟩
 rintro _ w2 ⟨ss,ask,int,f,nn,o,c,ds,rfl,hR,hn,hds,h⟩
 exact ⟨_,_,_,_,rfl,ss,ask,int,f,nn,o,c,ds,rfl,hR,hn,hds,St.IV h (bY gw)⟩
theorem La (hg:gR (hp w) g x) (hb:iK g) (ht:dG (hp w)):ay Tryz.prog oO [.agg ⟨x.cells⟩] w λv w'=>∃ (ss:List SQ) (ask int f:Int) (nn:List Bool) (o:Wr) (c:Nat) (ds:List wm),v = .tuple #[.slice o ds.length c,.int .i64 f]/\rK g ss ask int f/\(f = 0->uf g nn)/\ds.map mF = bR g nn ss 2/\St w' (own 3 o ds.length c (Et ds) :: aT (A2 ds) :: all w):=by
 refine vZ (cQ hg λk1 w1 gw hg1 B=>?_)
 refine ⟨_,_,_,_,_,_,_,_,_,_,_,_,_,B.row (sub.refl _),(JV (least:=2) (by decide) (by decide) hg1 hb (fp.mono gw ht)).mono ?_⟩
 rintro _ w2 ⟨ss,ask,int,f,nn,o,c,ds,rfl,hR,hn,hds,h⟩
 exact ⟨_,_,_,_,rfl,ss,ask,int,f,nn,o,c,ds,rfl,hR,hn,hds,St.IV h (bY gw)⟩
end Go.Proofs.YtndaepmjkbmjmaaGreatDoor


namespace Go.V
def Oa (A:Nat->Nat->List ax) (n T least:Nat):List bI:=(List.range n).flatMap λq=>(List.range T).flatMap λt=>if least<=(A q t).length then [⟨(q:Int),(t:Int),A q t⟩] else []
theorem JW {g:ae} {nn:List Bool} {ss ss' : List SQ} (h:bm ss = bm ss') (hk:ss.map (·.1.2) = ss'.map (·.1.2)) (q t:Nat):bf g nn ss q t = bf g nn ss' q t:=by
 have e1:JO ss q t = JO ss' q t:=by unfold JO; rw [Aq h]
 have e2:K5 ss q t = K5 ss' q t:=by
  have hq:=congrArg (λl=>l[q]?) hk
  simp only [UD] at hq
  unfold K5
  cases h1:ss[q]? with
  | none=>cases h2:ss'[q]? with
   | none=>rfl
   | some b=>rw [h1,h2] at hq; cases hq
  | some a=>cases h2:ss'[q]? with
   | none=>rw [h1,h2] at hq; cases hq
   | some b =>
    rw [h1,h2] at hq
    have e:a.1.2 = b.1.2:=Option.some.inj hq
    show (if t = 0/\(⟨0,1⟩ : ai)∈a.1.2 then [(⟨3,0⟩ : ax)] else []) = if t = 0/\(⟨0,1⟩ : ai)∈b.1.2 then [⟨3,0⟩] else []
    rw [e]
 unfold bf
 rw [e1,e2,CJ h]
theorem GG {g:ae} {nn:List Bool} {ss ss' : List SQ} {least:Nat} (h:bm ss = bm ss') (hk:ss.map (·.1.2) = ss'.map (·.1.2)):bR g nn ss least = bR g nn ss' least:=by
 unfold bR dJ fk cellAt
 rw [Ar h]
 simp only [JW h hk]
instance:nQ bI:={ n:=3,rd:=λh x vs=>∃ (a:Wr) (c:Nat),vs = [.int .i64 x.st,.int .i64 x.tm,.slice a x.acts.length c]/\aX h x.acts a x.acts.length,mono:=λs ⟨a,c,e,r⟩=>⟨a,c,e,r.mono s⟩,len:=λ⟨_,_,e,_⟩=>by rw [e]; rfl }
section
variable {h:Hp} {w:Ws} {L:List au} {o:Wr} {l i c:Nat}
theorem kv {xs:List ax} {a:Wr} (hl:xs.length = l) (r:fp a (cZ xs) h):aX h xs a l:=by
 refine ⟨hl,λi x hx=>?_⟩
 rcases r with e | ⟨ad,rfl,hc⟩
 ·have h1:=congrArg List.length e
  rw [gF,VB] at h1
  have:=(UA.1 hx).1; omega
 ·exact ⟨ad,bD x,rfl,bZ (n:=2) (λ_=>rfl) xs ad hc i x hx,rfl⟩
theorem bM {xs:List ax} {a:Wr} (r:aX h xs a l) (hi:i < l):∃ x ad,xs[i]? = some x/\a = some ad/\av h (ad.add (cR i 2)) (bD x):=by
 obtain ⟨x,ad,vs,hx,ha,hr,e⟩:=r.get hi
 rw [show vs = bD x from e] at hr
 exact ⟨x,ad,hx,ha,hr⟩
theorem JX {ds:List wm} (r:fp o (Et ds) h) (hd:∀ d∈ds,aX h d.2.2 d.2.1.1 d.2.2.length):aX h (ds.map mF) o ds.length:=by
 refine ⟨by simp,λi x hi=>?_⟩
 rw [UD] at hi
 cases hb:ds[i]? with
 | none=>rw [hb] at hi; cases hi
 | some p =>
  rw [hb] at hi
  simp only [VM,Option.some.injEq] at hi
  subst hi
  rcases r with e | ⟨ad,e,hc⟩
  ·have h1:=congrArg List.length e
   rw [JT,VB] at h1
   have:=(UA.1 hb).1; omega
  ·exact ⟨ad,Tf p,e,bZ (n:=3) (λ_=>rfl) ds ad hc i p hb,p.2.1.1,p.2.1.2,rfl,hd p (UC hb)⟩
theorem Uw {ds:List wm} {b:wm} (h:St w (aT (A2 ds) :: L)) (hb:b∈ds):aX (hp w) b.2.2 b.2.1.1 b.2.2.length:=by
 obtain ⟨i,hi⟩:=Vf hb
 have hA:(A2 ds)[i]? = some (b_ 2 cZ b.2):=by unfold A2; rw [UD,hi]; rfl
 have h2:=St.out h hA
 exact kv rfl (ee 0 h2.l)
theorem Th {ds:List wm} (h:St w (own 3 o ds.length c (Et ds) :: aT (A2 ds) :: L)):aX (hp w) (ds.map mF) o ds.length:=JX (ee 0 h.l) λd hd=>Uw (h.pick 2 [1]) hd
theorem qS {xs:List bI} (r:aX h xs o l) (hi:i < l):∃ x ad a c,xs[i]? = some x/\o = some ad/\av h (ad.add (cR i 3)) [.int .i64 x.st,.int .i64 x.tm,.slice a x.acts.length c]/\aX h x.acts a x.acts.length:=by
 obtain ⟨x,ad,vs,hx,ha,hr,a,c',rfl,hx2⟩:=r.get hi
 exact ⟨x,ad,a,c',hx,ha,hr,hx2⟩
end
end Go.V
namespace Go.Proofs.YtndaepmjkbmjmaaGreatDoor
variable {w:Ws} {L:List au} {g:ae} {x:GA}
theorem A3 : SC Tryz.prog gj cT { name := "Kind", type := cT, offset := 0, embedded := false, tag := "", pkgPath := "", byteOffset := 0 } { name := "To", type := cT, offset := 1, embedded := false, tag := "", pkgPath := "", byteOffset := 8 } where
 ht:=by kernel_rfl
 hf:=by kernel_rfl
 hi:=bp
 ht0:=rfl
 ht1:=rfl
 n0:=by decide
 n1:=by decide
 o0:=rfl
 o1:=rfl
 sih:=zZ
theorem JY (x y:ax):decide (x = y) = decide (x.kind = y.kind/\x.to = y.to):=by cases x; cases y; simp
theorem Ti (w:Ws) (xo yo:Operand) (x y:ax):Sem.run Tryz.prog (fu .eql gj xo yo (.agg ⟨bD x⟩) (.agg ⟨bD y⟩)) w = .ok (.bool (decide (x = y))) w:=by
 unfold fu
 rw [Sem.run_bind,run_eqGuard_agg w _ _ _ _ _ _ qj]
 simp only [Result.andThen_ok]
 rw [run_eql_struct,JY]
 show ((Op.equal gj (.agg #[.int .i64 x.kind,.int .i64 x.to]) (.agg #[.int .i64 y.kind,.int .i64 y.to])).run Tryz.prog w).andThen _ = _
 rw [D5 A3]
 rfl
theorem C0 (w:Ws) (xo yo:Operand) (x y:ax):Sem.run Tryz.prog (fu .neq gj xo yo (.agg ⟨bD x⟩) (.agg ⟨bD y⟩)) w = .ok (.bool (!decide (x = y))) w:=by
 unfold fu
 rw [Sem.run_bind,run_eqGuard_agg w _ _ _ _ _ _ qj]
 simp only [Result.andThen_ok]
 rw [run_neq_struct,JY]
 show ((Op.equal gj (.agg #[.int .i64 x.kind,.int .i64 x.to]) (.agg #[.int .i64 y.kind,.int .i64 y.to])).run Tryz.prog w).andThen _ = _
 rw [D5 A3]
 rfl
theorem A4 {α : Type} {xs ys:List α} (hl:xs.length = ys.length) (h:xs.take xs.length = ys.take xs.length):xs = ys:=by
 rw [UZ,hl,UZ] at h; exact h
end Go.Proofs.YtndaepmjkbmjmaaGreatDoor
