/- Texts of this claim, one behind the other. -/
import Derived.Test.YtngdohpikfcifaaGreatDoorG4
import Derived.LaidEql
import Derived.Test.YtngdohpikfcifaaGreatDoorG1
import Derived.Test.YtngdohpikfcifaaGreatDoorG3
import Derived.Test.YtngdohpikfcifaaGreatDoorG2
import Derived.Test.YtngdohpikfcifaaGreatDoorCards
import Derived.Test.YtngdohpikfcifaaGreatDoorTie
import Derived.WalkKit
import Derived.ProofKit
import Derived.OpenShut
import Derived.Carry
import Derived.OpenVars
import Derived.Deep.DeepHandedRow
import Derived.Lib.LaidTab
set_option linter.unusedVariables false
set_option maxRecDepth 4000
namespace Go.V
section
variable {w:World} {L:List Asn}
theorem frv_get {l:List (Nat × Nat)}:∀ {i n k:Nat},l[i]? = some (n,k)→(frv l)[i * 2]? = some (.int .i64 (n:Int))∧(frv l)[i * 2 + 1]? = some (.int .i64 (k:Int)):=by
  induction l with
  | nil=>intro i n k h; simp at h
  | cons x l ih =>
    intro i n k h
    have e:frv (x :: l) = Value.int .i64 (x.1:Int) :: Value.int .i64 (x.2:Int) :: frv l:=rfl
    rw [e]
    cases i with
    | zero=>simp at h; subst h; simp
    | succ i =>
      simp only [List.getElem?_cons_succ] at h
      have:=ih h
      rw [show (i + 1) * 2 = i * 2 + 1 + 1 from by omega,show i * 2 + 1 + 1 + 1 = (i * 2 + 1) + 1 + 1 from rfl]
      simpa using this
theorem frv_set1 {l:List (Nat × Nat)}:∀ {i n k:Nat} (k' : Nat),l[i]? = some (n,k)→(frv l).set (i * 2 + 1) (.int .i64 (k' : Int)) = frv (l.set i (n,k')):=by
  induction l with
  | nil=>intro i n k k' h; simp at h
  | cons x l ih =>
    intro i n k k' h
    have e:frv (x :: l) = Value.int .i64 (x.1:Int) :: Value.int .i64 (x.2:Int) :: frv l:=rfl
    rw [e]
    cases i with
    | zero=>simp at h; subst h; rfl
    | succ i =>
      simp only [List.getElem?_cons_succ] at h
      rw [show (i + 1) * 2 + 1 = (i * 2 + 1) + 1 + 1 from by omega,List.set_cons_succ,List.set_cons_succ,ih k' h]; rfl
theorem St.bring {M Q L:List Asn} (h:St w (M ++ (Q ++ L))):St w (Q ++ (M ++ L)):=h.perm (by
  rw [← List.append_assoc,← List.append_assoc]; exact List.perm_append_comm.append_right L)
theorem ivn_eq (xs:List Nat):ivn xs = iv (xs.map Int.ofNat):=by simp [ivn,iv]
end
def wkOf (S:List Dig.Sc):List (Nat × Nat):=(S.map fun s=>(s.1,s.2.1)).reverse
theorem wkOf_cons (n k:Nat) (r:List Nat) (t:List Dig.Sc):wkOf ((n,k,r) :: t) = wkOf t ++ [(n,k)]:=by simp [wkOf]
theorem wkOf_len:∀ (S:List Dig.Sc),(wkOf S).length≤(Dig.opOf S).length
  | []=>by simp [wkOf,Dig.opOf]
  | (n,k,r) :: t=>by
    have:=wkOf_len t
    rw [wkOf_cons,Dig.mem_opOf_len,List.length_append]; simp; omega
def lf (low:List Nat) (v:Nat):Nat:=low.getD v 0
theorem lf_set {low:List Nat} {i x:Nat} (h:i < low.length):lf (low.set i x) = Dig.upd (lf low) i x:=by
  funext j
  unfold lf Dig.upd
  rw [List.getD_eq_getElem?_getD,List.getElem?_set]
  by_cases e:j = i
  · subst e; simp [h]
  · rw [if_neg (fun h=>e h.symm),if_neg e]; exact (List.getD_eq_getElem?_getD).symm
theorem lf_get {low:List Nat} {i:Nat} (h:i < low.length):low[i]? = some (lf low i):=by
  unfold lf; rw [List.getD_eq_getElem?_getD,List.getElem?_eq_getElem h]; rfl
def MapOkD (mp:List (Int × Value)):List Dig.Sc→Prop
  | []=>True
  | (n,_,_) :: t=>assoc (n:Int) mp = some (.int .i64 (((Dig.opOf t).length + 1:Nat):Int))∧MapOkD mp t
theorem MapOkD.put {mp:List (Int × Value)} {m:Nat} {v:Value}:∀ (S:List Dig.Sc),MapOkD mp S→(∀ s∈S,s.1≠m)→MapOkD (aput (m:Int) v mp) S
  | [],_,_=>trivial
  | (n,k,r) :: t,⟨h1,h2⟩,hn=>by
    refine ⟨?_,MapOkD.put t h2 fun s hs=>hn s (by simp [hs])⟩
    have:=hn (n,k,r) (by simp)
    rw [assoc_put,if_neg (by simp at this ⊢; omega)]
    exact h1
theorem sc_mem {S:List Dig.Sc}:∀ s∈S,s.1∈Dig.opOf S:=by
  induction S with
  | nil=>intro s hs; simp at hs
  | cons x t ih =>
    obtain ⟨n,k,r⟩:=x
    intro s hs
    rcases List.mem_cons.1 hs with rfl | hs
    · simp [Dig.opOf]
    · simp [Dig.opOf,ih s hs]
end Go.V
set_option linter.unusedVariables false
set_option maxRecDepth 4000
namespace Go.V
def En (es:List (List Int)) (n:Nat):List Nat:=(es.getD n []).map Int.toNat
def RightP (es:List (List Int)):Prop:=∀ l∈es,∀ x∈l,0≤x∧x < (es.length:Int)
theorem en_get {es:List (List Int)} {n:Nat} {l:List Int} (h:es[n]? = some l):En es n = l.map Int.toNat:=by
  unfold En; rw [List.getD_eq_getElem?_getD,h]; rfl
theorem en_lt {es:List (List Int)} (hR:RightP es) {n m:Nat} (h:m∈En es n):m < es.length:=by
  unfold En at h
  rw [List.getD_eq_getElem?_getD] at h
  cases hl:es[n]? with
  | none=>rw [hl] at h; simp at h
  | some l =>
    rw [hl] at h
    obtain ⟨x,hx,rfl⟩:=List.mem_map.1 h
    have:=hR l (List.mem_of_getElem? hl) x hx
    omega
def lowUp (low:List Nat) (n:Nat):List Dig.Sc→List Nat
  | []=>low
  | (u,_,_) :: _=>low.set u (min (lf low u) (lf low n))
def setAll (x:Nat) (low:List Nat) (g:List Nat):List Nat:=g.foldl (fun l m=>l.set m x) low
theorem setAll_len (x:Nat):∀ (g low:List Nat),(setAll x low g).length = low.length
  | [],_=>rfl
  | m :: g,low=>by show (setAll x (low.set m x) g).length = _; rw [setAll_len x g]; simp
theorem setAll_snoc (x:Nat) (low g:List Nat) (m:Nat):setAll x low (g ++ [m]) = (setAll x low g).set m x:=by simp [setAll]
theorem lf_setAll (x:Nat):∀ (g low:List Nat),(∀ m∈g,m < low.length)→lf (setAll x low g) = fun v=>if v∈g then x else lf low v
  | [],_,_=>by funext v; simp [setAll]
  | m :: g,low,h=>by
    have:=lf_setAll x g (low.set m x) (fun y hy=>by rw [List.length_set]; exact h y (by simp [hy]))
    show lf (setAll x (low.set m x) g) = _
    rw [this,lf_set (h m (by simp))]
    funext v
    by_cases e:v∈g
    · simp [e]
    · by_cases e2:v = m
      · subst e2; simp [e,Dig.upd]
      · simp [e,e2,Dig.upd]
structure WD where
  S:List Dig.Sc
  low:List Nat
  gs:List (List Nat)
  mp:List (Int × Value)
  oa:Option Addr
  oc:Nat
  wa:Option Addr
  wc:Nat
end Go.V
namespace Go.Proofs.YtngdohpikfcifaaGreatDoor
open Go.V
variable {w:World} {L:List Asn} {es:List (List Int)} {a:Option Addr} {N c l:Nat} {d:FuncId} {e:List Value} {Q:List (List Nat)→List Asn}
theorem y_CloneI {xs:List Int} (hr:rdS (hp w) xs a l) (hb:xs.length * 8≤140737488355328) (hb2:xs.length≤9223372036854775807):Run Tryz.prog n_slices_Clone_int_int_ [.slice a l c] w fun v w'=>∃ o c',v = .slice o xs.length c'∧St w' (own 1 o xs.length c' (iv xs) :: all w):=by
  refine run_slices_Clone_int_int_ _ _ _ w _ ?_
  have hl:=hr.1
  cases a with
  | none =>
    have h0:xs = []:=by
      cases xs with
      | nil=>rfl
      | cons t ts=>obtain ⟨ad,_,e,_⟩:=hr.2 0 t rfl; cases e
    subst h0
    exact ⟨none,0,rfl,own_nil 1 (St.all w)⟩
  | some ad =>
    refine newC_i (St.all w) fun b w1 h1=>?_
    have h2:St w1 (own 1 (some ⟨b,0,none⟩) 0 0 [] :: all w):=own_some (cs:=[]) h1 rfl rfl (Nat.le_refl _)
    have hr:=hr.mono h1.gone1
    refine (app_own' tyOk (rfl:kdOfT Ty _ = .slice _) rfl rfl rfl h2 (n:=l) (news:=iv xs) (src_slice tyOk (rfl:kdOfT Ty _ = .slice _) (by rw [iv_len,hl,Nat.mul_one]) (by
        rcases hr.iv with h0 | ⟨ad',e,hc⟩
        · exact .inl (by have:=congrArg List.length h0; rw [iv_len,hl] at this; exact this)
        · cases e; exact .inr ⟨ad,rfl,fun j u hj=>cellH_w (hc j u hj)⟩) (by
      intro u hu
      obtain ⟨t,_,rfl⟩:=List.mem_map.1 hu
      rfl)) (by show (0 + l) * 8≤_; omega) (by omega)).mono ?_
    rintro _ w2 ⟨a',c',rfl,h3⟩
    rw [Nat.zero_add,← hl] at h3 ⊢
    rw [List.nil_append] at h3
    exact ⟨_,_,_,rfl,a',c',rfl,h3⟩
def WDI (ko kl kw bl km N fr:Nat) (es:List (List Int)) (Q:List (List Nat)→List Asn) (L:List Asn) (x:WD) (w:World):Prop :=
  x.low.length = N∧Dig.Inv (En es) N (lf x.low) x.S x.gs∧(∀ v,v≤fr→lf x.low v≠0)∧MapOkD x.mp x.S ∧
    St w (seaL ko kl kw bl N x.oa x.oc x.wa x.wc (Dig.opOf x.S) x.low (wkOf x.S) ++ (mapA km x.mp :: (Q x.gs ++ L)))
def DoneC (d:FuncId) (e:List Value) (es:List (List Int)) (Q:List (List Nat)→List Asn):Prop :=
  ∀ (gs:List (List Nat)) (g:List Nat) (F:List Asn) (w:World) (o:Option Addr) (gc:Nat),Dig.Good (En es) (gs ++ [g])→(∀ v∈(gs ++ [g]).flatten,v < es.length) →
    St w (own 1 o g.length gc (ivn g) :: (Q gs ++ F))→Run Tryz.prog d (.slice o g.length gc :: e) w fun v w'=>v = .tuple (Array.mk [])∧St w' (Q (gs ++ [g]) ++ F)
theorem d_each (hfl:Fn d = true) (hD:DoneC d e es Q) (hE:∀ gs h,starL (Q gs ++ L) h→rdS h es a N) (hR:RightP es) (hB:∀ l∈es,l.length * 8≤140737488355328) (hb:N * 24≤140737488355328) (h:St w (Q [] ++ L)) :
    Run Tryz.prog n_digraph_each [.slice a N c,.func (.func d) (Array.mk []) ⟨e⟩] w fun v w'=>v = .tuple (Array.mk [])∧∃ gs,Dig.Good (En es) gs∧(∀ v,v∈gs.flatten↔v < N)∧St w' (Q gs ++ L):=by
  refine run_digraph_each a N c d e w _ ?_
  have hN:es.length = N:=(hE [] _ h.l).1
  refine ⟨⟨by omega,rfl,by omega⟩,newC_i h fun bl w1 h=>newC_i h fun kl w2 h=>st1_i h (by simp) fun w3 h=>⟨⟨by omega,by omega⟩,newC_i h fun ko w4 h=>newC_i h fun kw w5 h=>?_⟩⟩
  have h:St w5 (seaL ko kl kw bl N none 0 none 0 [] (List.replicate N 0) [] ++ (Q [] ++ L)):=by
    have e1:reps (Int.toNat (N:Int)) [iI 0] = ivn (List.replicate N 0):=by rw [reps_one]; simp [ivn]
    rw [e1] at h
    have h:=own_nil 2 (own_nil 1 h)
    exact h.pick 6 [3,1,4,5,2,0]
  refine ⟨fun z w'=>∃ k:Nat,z = k∧k≤N∧∃ gs low oa oc wa wc,low.length = N∧Dig.Inv (En es) N (lf low) [] gs∧(∀ v,v < k→lf low v≠0)∧St w' (seaL ko kl kw bl N oa oc wa wc [] low [] ++ (Q gs ++ L)),
    fun z _=>N - z.toNat,⟨0,rfl,Nat.zero_le _,[],List.replicate N 0,none,0,none,0,by simp,?_,fun v hv=>by omega,h⟩,?_⟩
  · have:lf (List.replicate N 0) = fun _=>0:=by
      funext v; unfold lf; rw [List.getD_eq_getElem?_getD,List.getElem?_replicate]; split <;> rfl
    rw [this]; exact Dig.Inv.start _ _
  rintro _ z w6 ⟨k,rfl,hk,gs,low,oa,oc,wa,wc,hl,hI,hs,h⟩
  refine br_intro (fun h1=>?_) fun h1=>?_
  rotate_left
  · have h1:k = N:=by have:=of_decide_eq_false h1; omega
    subst h1
    refine ⟨rfl,gs,hI.good,fun v=>⟨fun hv=>hI.lt v (by simpa [Dig.opOf] using hv),fun hv=>?_⟩,?_⟩
    · have:=hI.seen hv (hs v hv)
      simpa [Dig.opOf] using this
    · exact h.tail.tail.tail.tail.tail.tail
  have h1:k < N:=by have:=of_decide_eq_true h1; omega
  refine ⟨_,_,_,(rdCel 2 h.l).cell0 (sub.refl _),idx_i rfl h1 ⟨_,(rdCel 3 h.l).cell (sub.refl _) (j:=k) (ivn_get' (lf_get (by omega))),?_⟩⟩
  refine br_intro (fun h2=>?_) fun h2=>?_
  · have h2:=of_decide_eq_true h2
    refine ⟨⟨by omega,by omega⟩,⟨k + 1,rfl,h1,gs,low,oa,oc,wa,wc,hl,hI,fun v hv=>?_,h⟩,msr h1⟩
    by_cases ev:v = k
    · subst ev; omega
    · exact hs v (by omega)
  have h2:lf low k = 0:=by have:=of_decide_eq_false h2; omega
  refine new_i h fun km w7 h=>?_
  have h:=mapA_new (κ:=Int) h
  refine ⟨_,_,_,(rdCel 1 h.l).cell0 (sub.refl _),⟨by simp,by simp⟩,(map_update (κ:=Int) tyOk (rfl:kdOfT Ty _ = .map _ _) und_int h (k:Int) _).mono ?_⟩
  rintro _ w8 h
  refine (d_enter (n:=k) (h.pick 7 [1,2,3,4,5,6,0]) hl h1 (by simp; omega) (by simp; omega) hb).mono ?_
  rintro _ w9 ⟨rfl,oa,oc,wa,wc,h⟩
  refine ⟨rfl,fun w'=>∃ x,WDI ko kl kw bl km N k es Q L x w',fun w'=>mea (WDI ko kl kw bl km N k es Q L) (fun x=>Dig.todo (En es) N (lf x.low) x.S) w',?_,?_⟩
  · refine ⟨⟨[(k,0,[])],low.set k 1,gs,_,oa,oc,wa,wc⟩,by simp [hl],?_,?_,?_,h⟩
    · show Dig.Inv _ _ (lf (low.set k 1)) _ _
      rw [lf_set (by omega)]
      exact hI.root h1 h2
    · intro v hv
      show lf (low.set k 1) v≠0
      rw [lf_set (by omega)]
      by_cases ev:v = k
      · subst ev; rw [Dig.upd_same]; omega
      · rw [Dig.upd_ne ev]; exact hs v (by omega)
    · exact ⟨by show assoc _ [(_,_)] = _; simp [assoc,Dig.opOf],trivial⟩
  intro _ w10 hw
  obtain ⟨⟨S,low2,gs2,mp,oa,oc,wa,wc⟩,⟨hl2,hI2,hs2,hM,h⟩,hm⟩:=mea_get hw
  simp only at hl2 hI2 hs2 hM h hm
  refine ⟨_,_,_,(rdCel 4 h.l).cell0 (sub.refl _),?_⟩
  refine br_intro (fun h3=>?_) fun h3=>?_
  rotate_left
  · have h3:=of_decide_eq_false h3
    cases S with
    | cons x t=>obtain ⟨n,j,r⟩:=x; rw [wkOf_cons] at h3; simp at h3
    | nil =>
      refine ⟨⟨by omega,by omega⟩,⟨k + 1,rfl,h1,gs2,low2,oa,oc,wa,wc,hl2,hI2,fun v hv=>hs2 v (by omega),?_⟩,msr h1⟩
      exact h.pick 7 [0,1,2,3,4,5]
  cases S with
  | nil=>have h3:=of_decide_eq_true h3; simp [wkOf] at h3
  | cons x t =>
  obtain ⟨n,k0,r⟩:=x
  have hlen:=hI2.len
  have hwk:=wkOf_len ((n,k0,r) :: t)
  have hw1:(wkOf ((n,k0,r) :: t)).length = (wkOf t).length + 1:=by rw [wkOf_cons]; simp
  have hnN:n < N:=hI2.lt n (by simp [Dig.opOf])
  obtain ⟨wad,hwa,_⟩:=own_cell (h.pick 7 [5,0,1,2,3,4,6]) (j:=(wkOf t).length * 2) (frv_get (i:=(wkOf t).length) (n:=n) (k:=k0) (by rw [wkOf_cons]; simp)).1
  refine ⟨_,_,_,(rdCel 4 h.l).cell0 (sub.refl _),_,_,_,(rdCel 4 h.l).cell0 (sub.refl _),⟨by omega,by omega⟩,?_⟩
  have ei:((wkOf ((n,k0,r) :: t)).length:Int) - 1 = ((wkOf t).length:Int):=by omega
  rw [ei]
  refine idx_n hwa (by omega) ?_
  rw [mulS_eq]
  -- the steps of one node
  let P2:Nat × List Nat→World→Prop:=fun p w'=>p.2.length = N∧Dig.Inv (En es) N (lf p.2) ((n,p.1,r) :: t) gs2∧(∀ v,v≤k→lf p.2 v≠0)∧Dig.todo (En es) N (lf p.2) ((n,p.1,r) :: t)≤mea (WDI ko kl kw bl km N k es Q L) (fun x=>Dig.todo (En es) N (lf x.low) x.S) w10 ∧
    St w' (seaL ko kl kw bl N oa oc wa wc (Dig.opOf ((n,p.1,r) :: t)) p.2 (wkOf ((n,p.1,r) :: t)) ++ (mapA km mp :: (Q gs2 ++ L)))
  refine ⟨fun w'=>∃ p,P2 p w',fun w'=>mea P2 (fun p=>(En es n).length - p.1) w',⟨(k0,low2),hl2,hI2,hs2,by rw [← hm]; exact Nat.le_refl _,h⟩,?_⟩
  intro _ w11 hw
  obtain ⟨⟨j,low3⟩,⟨hl3,hI3,hs3,ht3,h⟩,hm3⟩:=mea_get (f:=fun p=>(En es n).length - p.1) hw
  simp only at hl3 hI3 hs3 ht3 h hm3
  intro w12 hd
  have h:=h.eq (drawn_hp hd)
  obtain ⟨el,hel⟩ : ∃ el,es[n]? = some el:=⟨es[n]'(by omega),List.getElem?_eq_getElem _⟩
  have hen:=en_get hel
  have rE0:rdS (hp w12) es a N:=hE gs2 _ h.tail.tail.tail.tail.tail.tail.tail.l
  obtain ⟨el',ead,ev,hel',hea,hrow,o6,l6,c6,rfl,hle6,hrd6⟩:=rE0.get (i:=n) hnN
  rw [hel] at hel'; cases hel'
  rw [mulS_eq,show n * Rep.n (List Int) = n from Nat.mul_one n] at hrow
  have hel6:el.length = l6:=hrd6.1
  have henl:(En es n).length = l6:=by rw [hen,List.length_map]; exact hel6
  have hjle:j≤(En es n).length:=hI3.ok.1.le
  have hBl:=hB el (List.mem_of_getElem? hel)
  have hwt:(wkOf ((n,j,r) :: t))[(wkOf t).length]? = some (n,j):=by rw [wkOf_cons]; simp
  have hwl:(wkOf ((n,j,r) :: t)).length = (wkOf t).length + 1:=by rw [wkOf_cons]; simp
  obtain ⟨wad',hwa',hc1⟩:=own_cell (h.pick 7 [5,0,1,2,3,4,6]) (frv_get hwt).1
  obtain ⟨wad'',hwa'',hc2⟩:=own_cell (h.pick 7 [5,0,1,2,3,4,6]) (frv_get hwt).2
  rw [hwa] at hwa' hwa''
  cases hwa'; cases hwa''
  rw [← add_add] at hc2
  have cw:∀ {u:World} {ad:Addr} {v:Value},hp u = hp w12→w12.cell? ad = some v→u.cell? ad = some v:=fun hu h=>by rw [cell_hp hu]; exact h
  refine ⟨fun u=>hp u = hp w12,rfl,(j:Int),fun u hu=>cw hu hc2,(n:Int),fun u hu=>cw hu hc1,idx_i hea hnN ⟨o6,l6,c6,fun u hu=>cw hu (hrow.cell0 (sub.refl _)),?_⟩⟩
  refine br_intro (fun h4=>?_) fun h4=>?_
  · have h4:j < l6:=by have:=of_decide_eq_true h4; omega
    intro w16 hd2
    have h:=h.eq (drawn_hp hd2)
    have e16:=drawn_hp hd2
    obtain ⟨mI,hmI⟩ : ∃ mI,el[j]? = some mI:=⟨el[j]'(by omega),List.getElem?_eq_getElem _⟩
    obtain ⟨m,rfl⟩ : ∃ m:Nat,mI = (m:Int):=⟨mI.toNat,by have:=hR el (List.mem_of_getElem? hel) mI (List.mem_of_getElem? hmI); omega⟩
    have hmE:(En es n)[j]? = some m:=by rw [hen,List.getElem?_map,hmI]; rfl
    have hmN:m < N:=by have:=en_lt hR (List.mem_of_getElem? hmE); omega
    obtain ⟨ead5,hea5,hc5⟩:=hrd6.at hmI
    have cw:∀ {u:World} {ad:Addr} {v:Value},hp u = hp w16→w12.cell? ad = some v→u.cell? ad = some v:=fun hu h=>cw (hu.trans e16) h
    refine ⟨fun u=>hp u = hp w16,rfl,(n:Int),fun u hu=>cw hu hc1,idx_i hea hnN ⟨o6,l6,c6,fun u hu=>cw hu (hrow.cell0 (sub.refl _)),(j:Int),fun u hu=>cw hu hc2,idx_i hea5 h4 ⟨(m:Int),fun u hu=>hc5 u (by rw [hu,e16]; exact sub.refl _),(j:Int),cw rfl hc2,⟨by omega,by omega⟩,?_⟩⟩⟩
    rw [add_add]
    refine own_st1 (h.pick 7 [5,0,1,2,3,4,6]) hwa (by rw [frv_len]; omega) fun w21 h=>?_
    have ej:((j:Int) + 1) = ((j + 1:Nat):Int):=by omega
    rw [ej,frv_set1 (j + 1) hwt] at h
    have h:St w21 (seaL ko kl kw bl N oa oc wa wc (Dig.opOf ((n,j + 1,r) :: t)) low3 (wkOf ((n,j + 1,r) :: t)) ++ (mapA km mp :: (Q gs2 ++ L))):=by
      have e1:(wkOf ((n,j,r) :: t)).set (wkOf t).length (n,j + 1) = wkOf ((n,j + 1,r) :: t):=by rw [wkOf_cons,wkOf_cons,List.set_append_right _ _ (Nat.le_refl _)]; simp
      have e2:(wkOf ((n,j + 1,r) :: t)).length = (wkOf ((n,j,r) :: t)).length:=by rw [hwl,wkOf_cons]; simp
      rw [e1] at h
      unfold seaL
      rw [e2]
      exact h.pick 7 [1,2,3,4,5,0,6]
    have hlen3:=hI3.len
    have hmE2:lf low3 m = 0→m∉Dig.opOf ((n,j,r) :: t):=fun h0 hm=>(hI3.un m hmN).1 h0 (by simp only [List.mem_append]; exact Or.inl hm)
    refine ⟨_,_,_,(rdCel 2 h.l).cell0 (sub.refl _),idx_i rfl hmN ⟨_,(rdCel 3 h.l).cell (sub.refl _) (j:=m) (ivn_get' (lf_get (by omega))),?_⟩⟩
    refine br_intro (fun h5=>?_) fun h5=>?_
    · have h5:lf low3 m = 0:=by have:=eq_of_beq h5; omega
      have hop:(Dig.opOf ((n,j + 1,r) :: t)).length < N:=by
        have h6:=hI3.push hmE hmN h5
        have h7:=h6.len
        have e1:Dig.opOf ((m,0,[]) :: (n,j + 1,r) :: t) = Dig.opOf ((n,j + 1,r) :: t) ++ [m]:=rfl
        rw [e1,List.length_append] at h7; simp at h7; omega
      have hwl2:=wkOf_len ((n,j + 1,r) :: t)
      refine ⟨_,_,_,(rdCel 0 h.l).cell0 (sub.refl _),⟨by omega,by omega⟩,(map_update (κ:=Int) tyOk (rfl:kdOfT Ty _ = .map _ _) und_int (h.pick 7 [6,0,1,2,3,4,5]) (m:Int) _).mono ?_⟩
      rintro _ w22 h
      refine (d_enter (n:=m) (h.pick 7 [1,2,3,4,5,6,0]) hl3 hmN hop (by omega) hb).mono ?_
      rintro _ w23 ⟨rfl,oa',oc',wa',wc',h⟩
      have hnew:WDI ko kl kw bl km N k es Q L ⟨(m,0,[]) :: (n,j + 1,r) :: t,low3.set m ((Dig.opOf ((n,j + 1,r) :: t)).length + 1),gs2,aput (m:Int) (.int .i64 (((Dig.opOf ((n,j + 1,r) :: t)).length:Int) + 1)) mp,oa',oc',wa',wc'⟩ w23:=by
        refine ⟨by simp [hl3],?_,?_,⟨?_,?_⟩,?_⟩
        · show Dig.Inv _ _ (lf (low3.set m _)) _ _
          rw [lf_set (by omega)]
          exact hI3.push hmE hmN h5
        · intro v hv
          show lf (low3.set m _) v≠0
          rw [lf_set (by omega)]
          by_cases ev:v = m
          · subst ev; rw [Dig.upd_same]; omega
          · rw [Dig.upd_ne ev]; exact hs3 v hv
        · show assoc _ (aput _ _ _) = _
          rw [assoc_put,if_pos rfl]; rfl
        · exact MapOkD.put ((n,j + 1,r) :: t) hM fun s hs e=>hmE2 h5 (by rw [← e]; exact sc_mem (S:=(n,j + 1,r) :: t) s hs)
        · have e1:wkOf ((m,0,[]) :: (n,j + 1,r) :: t) = wkOf ((n,j + 1,r) :: t) ++ [(m,0)]:=wkOf_cons _ _ _ _
          show St w23 (seaL _ _ _ _ _ _ _ _ _ (Dig.opOf ((n,j + 1,r) :: t) ++ [m]) _ (wkOf ((m,0,[]) :: (n,j + 1,r) :: t)) ++ _)
          rw [e1]
          exact h
      refine ⟨rfl,⟨_,hnew⟩,?_⟩
      have l1:=mea_le (f:=fun x=>Dig.todo (En es) N (lf x.low) x.S) hnew
      have l2:=Dig.todo_push hI3 hmE hmN h5 ((Dig.opOf ((n,j + 1,r) :: t)).length + 1) (by omega)
      simp only at l1
      rw [lf_set (by omega)] at l1
      exact Nat.lt_of_le_of_lt l1 (Nat.lt_of_lt_of_le l2 ht3)
    · have h5:lf low3 m≠0:=fun e=>by rw [e] at h5; simp at h5
      intro w24 hd3
      have h:=h.eq (drawn_hp hd3)
      have cL:∀ u,hp u = hp w24→u.cell? (aM kl) = some (.slice (some (aM bl)) N N):=fun u hu=>by rw [cell_hp hu]; exact (rdCel 2 h.l).cell0 (sub.refl _)
      have cI:∀ u,hp u = hp w24→∀ v,v < N→u.cell? ((aM bl).add v) = some (.int .i64 (lf low3 v:Int)):=fun u hu v hv=>by rw [cell_hp hu]; exact (rdCel 3 h.l).cell (sub.refl _) (j:=v) (ivn_get' (lf_get (by omega)))
      have e24:=drawn_hp hd3
      have hwt2:(wkOf ((n,j + 1,r) :: t))[(wkOf t).length]? = some (n,j + 1):=by rw [wkOf_cons]; simp
      obtain ⟨wad3,hwa3,hc3⟩:=own_cell (h.pick 7 [5,0,1,2,3,4,6]) (frv_get hwt2).1
      rw [hwa] at hwa3; cases hwa3
      refine ⟨fun u=>hp u = hp w24,rfl,_,_,_,cL,(n:Int),fun u hu=>by rw [cell_hp hu]; exact hc3,_,_,_,cL,(n:Int),fun u hu=>by rw [cell_hp hu]; exact hc3,idx_i rfl hnN ⟨_,fun u hu=>cI u hu n hnN,_,_,_,cL,idx_i rfl hmN ⟨_,fun u hu=>cI u hu m hmN,idx_i rfl hnN ?_⟩⟩⟩
      rw [add_lit0]
      have emin:(if (lf low3 m:Int) < (lf low3 n:Int) then (lf low3 m:Int) else (lf low3 n:Int)) = ((min (lf low3 n) (lf low3 m):Nat):Int):=by split <;> omega
      rw [emin]
      refine st1_i (h.pick 7 [3,0,1,2,4,5,6]) (by simp [ivn]; omega) fun w32 h=>?_
      rw [ivn_setN] at h
      have hnew:P2 (j + 1,low3.set n (min (lf low3 n) (lf low3 m))) w32:=by
        have eset:=lf_set (low:=low3) (i:=n) (x:=min (lf low3 n) (lf low3 m)) (by omega)
        have hlook:=hI3.look hmE hmN h5
        refine ⟨by simp [hl3],?_,?_,?_,h.pick 7 [1,2,3,0,4,5,6]⟩
        · show Dig.Inv _ _ (lf (low3.set n _)) _ _
          rw [eset]; exact hlook
        · intro v hv
          show lf (low3.set n _) v≠0
          rw [eset]
          by_cases ev:v = n
          · subst ev; rw [Dig.upd_same]
            have:=hI3.ok.1.pos v (by simp)
            omega
          · rw [Dig.upd_ne ev]; exact hs3 v hv
        · show Dig.todo _ _ (lf (low3.set n _)) _≤_
          rw [eset]
          refine Nat.le_trans ?_ ht3
          unfold Dig.todo
          rw [Dig.todo_same (low:=lf low3)]
          · simp only [List.map_cons,List.sum_cons]; omega
          · intro v hv
            by_cases ev:v = n
            · subst ev; rw [Dig.upd_same]
              have:=hI3.ok.1.pos v (by simp)
              constructor <;> intro <;> omega
            · rw [Dig.upd_ne ev]
      refine ⟨⟨_,hnew⟩,?_⟩
      have l1:=mea_le (f:=fun p=>(En es n).length - p.1) hnew
      have l2:(En es n).length - (j + 1) < (En es n).length - j:=by omega
      exact Nat.lt_of_le_of_lt l1 (Nat.lt_of_lt_of_le l2 (Nat.le_of_eq hm3))
  · have h4:j = (En es n).length:=by have:=of_decide_eq_false h4; omega
    have hlen3:=hI3.len
    refine ⟨(n:Int),hc1,_,_,_,(rdCel 4 h.l).cell0 (sub.refl _),_,_,_,(rdCel 4 h.l).cell0 (sub.refl _),⟨by omega,by omega⟩,?_⟩
    have ei:((wkOf ((n,j,r) :: t)).length:Int) - 1 = ((wkOf t).length:Int):=by omega
    have hwle:=own_le (h.pick 7 [5,0,1,2,3,4,6])
    rw [ei]
    refine slc_hiN (by omega) (st1_i (h.pick 7 [4,0,1,2,3,5,6]) (by simp) fun w33 h=>?_)
    have h:=own_cut (h.pick 7 [5,0,1,2,3,4,6]) (k:=(wkOf t).length) (by omega)
    have etk:(frv (wkOf ((n,j,r) :: t))).take ((wkOf t).length * 2) = frv (wkOf t):=by
      rw [wkOf_cons,← frv_snoc,← frv_len,List.take_left']
      rfl
    rw [etk] at h
    have h:St w33 (seaL ko kl kw bl N oa oc (slP wa 0 wc 2) wc (Dig.opOf ((n,j,r) :: t)) low3 (wkOf t) ++ (mapA km mp :: (Q gs2 ++ L))):=h.pick 7 [2,3,4,5,1,0,6]
    -- the one below takes over
    refine ⟨fun w'=>St w' (seaL ko kl kw bl N oa oc (slP wa 0 wc 2) wc (Dig.opOf ((n,j,r) :: t)) (lowUp low3 n t) (wkOf t) ++ (mapA km mp :: (Q gs2 ++ L))),⟨_,_,_,(rdCel 4 h.l).cell0 (sub.refl _),?_⟩,?_⟩
    · refine br_intro (fun h5=>?_) fun h5=>?_
      rotate_left
      · have h5:=of_decide_eq_false h5
        cases t with
        | nil=>exact h
        | cons x t=>obtain ⟨u,ku,ru⟩:=x; rw [wkOf_cons] at h5; simp at h5
      · cases t with
        | nil=>have h5:=of_decide_eq_true h5; simp [wkOf] at h5
        | cons x t =>
        obtain ⟨u,ku,ru⟩:=x
        have huN:u < N:=hI3.lt u (by simp [Dig.opOf])
        have hwu:(wkOf ((u,ku,ru) :: t))[(wkOf t).length]? = some (u,ku):=by rw [wkOf_cons]; simp
        have hwul:(wkOf ((u,ku,ru) :: t)).length = (wkOf t).length + 1:=by rw [wkOf_cons]; simp
        obtain ⟨wad4,hwa4,hc4⟩:=own_cell (h.pick 7 [5,0,1,2,3,4,6]) (frv_get hwu).1
        have ei2:((wkOf ((u,ku,ru) :: t)).length:Int) - 1 = ((wkOf t).length:Int):=by omega
        refine ⟨_,_,_,(rdCel 4 h.l).cell0 (sub.refl _),_,_,_,(rdCel 4 h.l).cell0 (sub.refl _),⟨by omega,by omega⟩,?_⟩
        rw [ei2]
        refine idx_n hwa4 (by omega) ?_
        rw [mulS_eq]
        refine ⟨(u:Int),hc4,?_⟩
        intro w34 hd5
        have h:=h.eq (drawn_hp hd5)
        have cL:∀ v,hp v = hp w34→v.cell? (aM kl) = some (.slice (some (aM bl)) N N):=fun u hu=>by rw [cell_hp hu]; exact (rdCel 2 h.l).cell0 (sub.refl _)
        have cI:∀ u,hp u = hp w34→∀ v,v < N→u.cell? ((aM bl).add v) = some (.int .i64 (lf low3 v:Int)):=fun u hu v hv=>by rw [cell_hp hu]; exact (rdCel 3 h.l).cell (sub.refl _) (j:=v) (ivn_get' (lf_get (by omega)))
        refine ⟨fun u=>hp u = hp w34,rfl,_,_,_,cL,_,_,_,cL,idx_i rfl huN ⟨_,fun v hv=>cI v hv u huN,_,_,_,cL,idx_i rfl hnN ⟨_,fun v hv=>cI v hv n hnN,idx_i rfl huN ?_⟩⟩⟩
        rw [add_lit0]
        have emin:(if (lf low3 n:Int) < (lf low3 u:Int) then (lf low3 n:Int) else (lf low3 u:Int)) = ((min (lf low3 u) (lf low3 n):Nat):Int):=by split <;> omega
        rw [emin]
        refine st1_i (h.pick 7 [3,0,1,2,4,5,6]) (by simp [ivn]; omega) fun w40 h=>?_
        rw [ivn_setN] at h
        exact h.pick 7 [1,2,3,0,4,5,6]
    · intro _ w41 h w42 hd4
      have h:=h.eq (drawn_hp hd4)
      obtain ⟨nx1,nx2,nx3,nx4⟩:=hI3.lown
      have hlu:(lowUp low3 n t).length = N:=by cases t <;> simp [lowUp,hl3]
      have hlun:lf (lowUp low3 n t) n = lf low3 n:=by
        cases t with
        | nil=>rfl
        | cons x t =>
          obtain ⟨u,ku,ru⟩:=x
          have huN:u < N:=hI3.lt u (by simp [Dig.opOf])
          show lf (low3.set u _) n = _
          rw [lf_set (by omega),Dig.upd_ne]
          intro e
          exact nx1 (by rw [e]; simp [Dig.opOf])
      obtain ⟨ma1,ma2⟩:=hM
      have lk:=fun {w' : World} {L' : List Asn} (h:St w' (mapA km mp :: L'))=>map_lookup (κ:=Int) (P:=Tryz.prog) (z:=.int .i64 0) tyOk (rfl:kdOfT Ty ty_m_int_int = .map _ _) und_int rfl rfl h (n:Int)
      rw [ma1] at lk
      have cL:∀ v,hp v = hp w42→v.cell? (aM kl) = some (.slice (some (aM bl)) N N):=fun u hu=>by rw [cell_hp hu]; exact (rdCel 2 h.l).cell0 (sub.refl _)
      have cI:∀ u,hp u = hp w42→∀ v,v < N→u.cell? ((aM bl).add v) = some (.int .i64 (lf (lowUp low3 n t) v:Int)):=fun u hu v hv=>by rw [cell_hp hu]; exact (rdCel 3 h.l).cell (sub.refl _) (j:=v) (ivn_get' (lf_get (by omega)))
      refine ⟨fun u=>hp u = hp w42,rfl,_,_,_,cL,idx_i rfl hnN ⟨_,fun v hv=>cI v hv n hnN,(lk (h.pick 7 [6,0,1,2,3,4,5])).mono ?_⟩⟩
      rintro _ w45 ⟨rfl,rfl⟩
      refine ⟨_,rfl,rfl,?_⟩
      rw [hlun]
      have hop:(Dig.opOf ((n,j,r) :: t)).length = (Dig.opOf t).length + 1 + r.length:=Dig.mem_opOf_len
      refine br_intro (fun h6=>?_) fun h6=>?_
      · have h6:lf low3 n = (Dig.opOf t).length + 1:=by have:=eq_of_beq h6; omega
        have hP:=hI3.pop h4 h6
        have hgN:∀ v∈n :: r,v < N:=fun v hv=>hI3.lt v (by simp only [Dig.opOf,List.mem_append]; exact Or.inl (Or.inr hv))
        have hlowU:lowUp low3 n t = low3∨lf (lowUp low3 n t) = lf low3:=by
          cases t with
          | nil=>exact .inl rfl
          | cons x t =>
            obtain ⟨u,ku,ru⟩:=x
            have huN:u < N:=hI3.lt u (by simp [Dig.opOf])
            right
            show lf (low3.set u _) = _
            rw [lf_set (by omega),hI3.lowu h6]
            funext v; unfold Dig.upd; split
            · rename_i e; rw [e]
            · rfl
        have hlowU:lf (lowUp low3 n t) = lf low3:=by rcases hlowU with e | e <;> rw [e]
        have hole:=own_le (h.pick 7 [1,0,2,3,4,5,6])
        refine ⟨_,_,_,(rdCel 0 h.l).cell0 (sub.refl _),(lk (h.pick 7 [6,0,1,2,3,4,5])).mono ?_⟩
        rintro _ w46 ⟨rfl,rfl⟩
        have eb:((((Dig.opOf t).length + 1:Nat):Int) - 1) = ((Dig.opOf t).length:Int):=by omega
        refine ⟨_,rfl,⟨by omega,by omega⟩,?_⟩
        rw [eb]
        have hrO:rdS (hp w46) ((Dig.opOf ((n,j,r) :: t)).map Int.ofNat) oa (Dig.opOf ((n,j,r) :: t)).length:=rdI_of (by simp) (by rw [← ivn_eq]; exact rdOv 1 h.l)
        have hrG:=hrO.drop (k:=(Dig.opOf t).length) (m:=oc) (by omega) hole
        have hdr:((Dig.opOf ((n,j,r) :: t)).map Int.ofNat).drop (Dig.opOf t).length = (n :: r).map Int.ofNat:=by
          rw [← List.map_drop]; congr 1; show (Dig.opOf t ++ n :: r).drop _ = _; rw [List.drop_left']; rfl
        rw [hdr] at hrG
        have hgl:(Dig.opOf ((n,j,r) :: t)).length - (Dig.opOf t).length = (n :: r).length:=by rw [hop]; simp; omega
        refine slc_from (by omega) hole ((y_CloneI hrG (by simp; omega) (by simp; omega)).mono ?_)
        rintro _ w47 ⟨o25,c25,rfl,h47⟩
        have h:=h47.on1 h
        have elg:((n :: r).map Int.ofNat).length = (n :: r).length:=by simp
        rw [elg,← ivn_eq] at h
        refine ⟨_,_,_,by rw [elg],_,_,_,(rdCel 1 h.l).cell0 (sub.refl _),(lk (h.pick 8 [7,0,1,2,3,4,5,6])).mono ?_⟩
        rintro _ w48 ⟨rfl,rfl⟩
        refine ⟨_,rfl,⟨by omega,by omega⟩,?_⟩
        rw [eb]
        refine slc_hiN (by omega) (st1_i (h.pick 8 [1,0,2,3,4,5,6,7]) (by simp) fun w49 h=>?_)
        have h:=own_cut (h.pick 8 [2,0,1,3,4,5,6,7]) (k:=(Dig.opOf t).length) (by omega)
        have etk:(ivn (Dig.opOf ((n,j,r) :: t))).take ((Dig.opOf t).length * 1) = ivn (Dig.opOf t):=by
          show (ivn (Dig.opOf t ++ n :: r)).take _ = _
          unfold ivn
          rw [List.map_append,List.take_left']
          simp
        rw [etk] at h
        have h:St w49 (own 1 o25 (n :: r).length c25 (ivn (n :: r)) :: (seaL ko kl kw bl N (slP oa 0 oc 1) oc (slP wa 0 wc 2) wc (Dig.opOf t) (lowUp low3 n t) (wkOf t) ++ (mapA km mp :: (Q gs2 ++ L)))):=h.pick 8 [2,1,0,3,4,5,6,7]
        refine ⟨fun z w'=>∃ i:Nat,z = i∧i≤(n :: r).length∧St w' (own 1 o25 (n :: r).length c25 (ivn (n :: r)) :: (seaL ko kl kw bl N (slP oa 0 oc 1) oc (slP wa 0 wc 2) wc (Dig.opOf t) (setAll (N + 1) (lowUp low3 n t) ((n :: r).take i)) (wkOf t) ++ (mapA km mp :: (Q gs2 ++ L)))),
          fun z _=>(n :: r).length - z.toNat,⟨0,rfl,Nat.zero_le _,h⟩,?_⟩
        rintro _ z w50 ⟨i,rfl,hi,h⟩
        refine br_intro (fun h7=>?_) fun h7=>?_
        · have h7:i < (n :: r).length:=by have:=of_decide_eq_true h7; omega
          obtain ⟨v,hv⟩ : ∃ v,(n :: r)[i]? = some v:=⟨(n :: r)[i],List.getElem?_eq_getElem _⟩
          have hvN:=hgN v (List.mem_of_getElem? hv)
          obtain ⟨gad,hga,hgc⟩:=own_cell h (ivn_get' hv)
          refine idx_i hga h7 ⟨_,hgc,_,_,_,(rdCel 3 h.l).cell0 (sub.refl _),idx_i rfl hvN ?_⟩
          rw [add_lit0]
          have eN:((N:Int) + 1) = ((N + 1:Nat):Int):=by omega
          rw [eN]
          refine st1_i (h.pick 8 [4,0,1,2,3,5,6,7]) (by simp [ivn,setAll_len]; omega) fun w51 h=>⟨⟨by simp at h7 hi ⊢; omega,by simp at h7 hi ⊢; omega⟩,⟨i + 1,rfl,h7,?_⟩,msr h7⟩
          rw [ivn_setN] at h
          rw [List.take_add_one,hv,Option.toList_some,setAll_snoc]
          exact h.pick 8 [1,2,3,4,0,5,6,7]
        · have h7:i = (n :: r).length:=by have:=of_decide_eq_false h7; omega
          subst h7
          rw [List.take_length] at h
          refine ifT_iff.2 ⟨hfl,?_⟩
          let M':=seaL ko kl kw bl N (slP oa 0 oc 1) oc (slP wa 0 wc 2) wc (Dig.opOf t) (setAll (N + 1) (lowUp low3 n t) (n :: r)) (wkOf t) ++ [mapA km mp]
          have hp1:(M' ++ (Q gs2 ++ L)).Perm (Q gs2 ++ (M' ++ L)):=by
            rw [← List.append_assoc,← List.append_assoc]; exact List.perm_append_comm.append_right L
          have h8:St w50 (own 1 o25 (n :: r).length c25 (ivn (n :: r)) :: (Q gs2 ++ (M' ++ L))):=h.perm (List.Perm.cons _ hp1)
          have hrun:=hD gs2 (n :: r) (M' ++ L) w50 o25 c25 hP.good (fun v hv=>by rw [hN]; exact hP.lt v (List.mem_append_right _ hv)) h8
          refine hrun.mono ?_
          rintro _ w52 ⟨rfl,h⟩
          have elow:lf (setAll (N + 1) (lowUp low3 n t) (n :: r)) = fun v=>if v∈n :: r then N + 1 else lf low3 v:=by
            rw [lf_setAll _ _ _ (fun m hm=>by rw [hlu]; exact hgN m hm),hlowU]
          have hnew:WDI ko kl kw bl km N k es Q L ⟨t,setAll (N + 1) (lowUp low3 n t) (n :: r),gs2 ++ [n :: r],mp,slP oa 0 oc 1,oc,slP wa 0 wc 2,wc⟩ w52:=by
            refine ⟨by show (setAll _ _ _).length = _; rw [setAll_len]; exact hlu,?_,?_,ma2,St.bring (M:=Q (gs2 ++ [n :: r])) (Q:=M') (L:=L) h⟩
            · show Dig.Inv _ _ (lf (setAll _ _ _)) _ _
              rw [elow]; exact hP
            · intro v hv
              show lf (setAll _ _ _) v≠0
              rw [elow]
              simp only
              split
              · omega
              · exact hs3 v hv
          refine ⟨rfl,⟨_,hnew⟩,?_⟩
          have l1:=mea_le (f:=fun x=>Dig.todo (En es) N (lf x.low) x.S) hnew
          refine Nat.lt_of_le_of_lt l1 (Nat.lt_of_lt_of_le ?_ ht3)
          show Dig.todo _ _ (lf (setAll _ _ _)) _ < _
          rw [elow]
          unfold Dig.todo
          rw [Dig.todo_same (low:=lf low3)]
          · simp only [List.map_cons,List.sum_cons]; omega
          · intro v hv
            show (if v∈n :: r then N + 1 else lf low3 v) = 0↔lf low3 v = 0
            split
            · rename_i e
              have h9:lf low3 v≠0:=fun h0=>(hI3.un v hv).1 h0 (by simp only [Dig.opOf,List.mem_append]; exact Or.inl (Or.inr e))
              constructor <;> intro <;> omega
            · exact Iff.rfl
      · have h6:lf low3 n≠(Dig.opOf t).length + 1:=fun e=>by rw [e] at h6; simp at h6
        cases t with
        | nil =>
          exfalso
          have h8:=hI3.ok.1.top
          have h9:=hI3.ok.1.pos n (by simp)
          simp [Dig.opOf] at h8 h6
          omega
        | cons x t =>
        obtain ⟨u,ku,ru⟩:=x
        have huN:u < N:=hI3.lt u (by simp [Dig.opOf])
        have eset:=lf_set (low:=low3) (i:=u) (x:=min (lf low3 u) (lf low3 n)) (by omega)
        have hmg:=hI3.merge h4 h6
        have hpu:=hI3.ok.2.2.1.pos u (by simp)
        have hpn:=hI3.ok.1.pos n (by simp)
        have hnew:WDI ko kl kw bl km N k es Q L ⟨(u,ku,ru ++ n :: r) :: t,lowUp low3 n ((u,ku,ru) :: t),gs2,mp,oa,oc,slP wa 0 wc 2,wc⟩ w45:=by
          refine ⟨hlu,?_,?_,ma2,?_⟩
          · show Dig.Inv _ _ (lf (low3.set u _)) _ _
            rw [eset]; exact hmg
          · intro v hv
            show lf (low3.set u _) v≠0
            rw [eset]
            by_cases ev:v = u
            · subst ev; rw [Dig.upd_same]; omega
            · rw [Dig.upd_ne ev]; exact hs3 v hv
          · have e1:Dig.opOf ((u,ku,ru ++ n :: r) :: t) = Dig.opOf ((n,j,r) :: (u,ku,ru) :: t):=by simp [Dig.opOf]
            show St w45 (seaL _ _ _ _ _ _ _ _ _ (Dig.opOf ((u,ku,ru ++ n :: r) :: t)) _ _ ++ _)
            rw [e1]
            exact h
        refine ⟨⟨_,hnew⟩,?_⟩
        have l1:=mea_le (f:=fun x=>Dig.todo (En es) N (lf x.low) x.S) hnew
        refine Nat.lt_of_le_of_lt l1 (Nat.lt_of_lt_of_le ?_ ht3)
        show Dig.todo _ _ (lf (low3.set u _)) _ < _
        rw [eset]
        unfold Dig.todo
        rw [Dig.todo_same (low:=lf low3)]
        · simp only [List.map_cons,List.sum_cons]; omega
        · intro v hv
          by_cases ev:v = u
          · subst ev; rw [Dig.upd_same]
            constructor <;> intro <;> omega
          · rw [Dig.upd_ne ev]
end Go.Proofs.YtngdohpikfcifaaGreatDoor
set_option linter.unusedVariables false
set_option maxRecDepth 4000
namespace Go.V
def rightB (es:List (List Int)):Bool:=!es.any fun l=>l.any fun x=>decide (x < 0) || decide ((es.length:Int)≤x)
theorem rightB_iff {es:List (List Int)}:rightB es = true↔RightP es:=by
  unfold rightB RightP
  rw [Bool.not_eq_true',List.any_eq_false]
  constructor
  · intro h l hl x hx
    have:=h l hl
    rw [Bool.not_eq_true,List.any_eq_false] at this
    have:=this x hx
    simp at this; omega
  · intro h l hl
    rw [Bool.not_eq_true,List.any_eq_false]
    intro x hx
    have:=h l hl x hx
    simp; omega
end Go.V
namespace Go.Proofs.YtngdohpikfcifaaGreatDoor
open Go.V
variable {w:World} {a:Option Addr} {l c:Nat} {d:FuncId} {e:List Value}
theorem y_CtI {xs:List Int} {p:Int→Bool} (hfl:Fn d = true) (hr:rdS (hp w) xs a l) (hb:l≤4611686018427387904)
    (hP:∀ x∈xs,∀ u,hp u = hp w→Run Tryz.prog d (.int .i64 x :: e) u fun v u'=>v = .bool (p x)∧hp u' = hp w) :
    Run Tryz.prog n_slices_ContainsFunc_int_int_ [.slice a l c,.func (.func d) (Array.mk []) ⟨e⟩] w fun v w'=>v = .bool (xs.any p)∧hp w' = hp w:=by
  refine run_slices_ContainsFunc_int_int_ _ _ _ _ _ w _ ?_
  have key:Run Tryz.prog n_slices_IndexFunc_int_int_ [.slice a l c,.func (.func d) (Array.mk []) ⟨e⟩] w fun v w'=>∃ n:Int,v = .int .i64 n∧(xs.any p = decide (0≤n))∧hp w' = hp w:=by
    refine run_slices_IndexFunc_int_int_ _ _ _ _ _ w _ ?_
    have hxl:=hr.1
    refine ⟨fun z w'=>∃ j:Nat,z = j∧j≤l∧(∀ k∈xs.take j,p k = false)∧hp w' = hp w,fun z _=>l - z.toNat,⟨0,rfl,Nat.zero_le _,fun k hk=>by simp at hk,rfl⟩,?_⟩
    rintro _ z w1 ⟨j,rfl,hj,hno,e1⟩
    refine br_intro (fun h1=>?_) fun h1=>?_
    rotate_left
    · have h1:j = l:=by have:=of_decide_eq_false h1; omega
      rw [List.take_of_length_le (by omega)] at hno
      exact ⟨_,rfl,by rw [List.any_eq_false.2 fun x hx=>by rw [hno x hx]; simp]; rfl,e1⟩
    have h1:j < l:=by have:=of_decide_eq_true h1; omega
    obtain ⟨k,hk⟩ : ∃ k,xs[j]? = some k:=⟨xs[j]'(by omega),List.getElem?_eq_getElem _⟩
    obtain ⟨ad,had,hc⟩:=hr.at hk
    refine idx_i had h1 ⟨k,hc w1 (Gr.of_eq e1),ifT_iff.2 ⟨hfl,(hP k (List.mem_of_getElem? hk) w1 e1).mono ?_⟩⟩
    rintro _ w2 ⟨rfl,e2⟩
    refine ⟨_,rfl,br_intro (fun hb=>?_) fun hb=>?_⟩
    · exact ⟨_,rfl,by rw [List.any_eq_true.2 ⟨k,List.mem_of_getElem? hk,hb⟩]; exact (decide_eq_true (Int.natCast_nonneg j)).symm,e2⟩
    · refine ⟨⟨by omega,by omega⟩,⟨j + 1,by simp,by omega,fun y hy=>?_,e2⟩,msr h1⟩
      rw [List.take_add_one,hk] at hy
      rcases List.mem_append.1 hy with hy | hy
      · exact hno y hy
      · simp at hy; subst hy; exact hb
  refine key.mono ?_
  rintro _ w' ⟨n,rfl,h1,h2⟩
  exact ⟨n,rfl,by rw [h1],h2⟩
theorem y_CtL {xs:List (List Int)} {p:List Int→Bool} (hfl:Fn d = true) (hr:rdS (hp w) xs a l) (hb:l≤4611686018427387904)
    (hP:∀ x∈xs,∀ u o l c,hp u = hp w→rdS (hp w) x o l→Run Tryz.prog d (.slice o l c :: e) u fun v u'=>v = .bool (p x)∧hp u' = hp w) :
    Run Tryz.prog n_slices_ContainsFunc_LLint_int_ [.slice a l c,.func (.func d) (Array.mk []) ⟨e⟩] w fun v w'=>v = .bool (xs.any p)∧hp w' = hp w:=by
  refine run_slices_ContainsFunc_LLint_int_ _ _ _ _ _ w _ ?_
  have key:Run Tryz.prog n_slices_IndexFunc_LLint_int_ [.slice a l c,.func (.func d) (Array.mk []) ⟨e⟩] w fun v w'=>∃ n:Int,v = .int .i64 n∧(xs.any p = decide (0≤n))∧hp w' = hp w:=by
    refine run_slices_IndexFunc_LLint_int_ _ _ _ _ _ w _ ?_
    have hxl:=hr.1
    refine ⟨fun z w'=>∃ j:Nat,z = j∧j≤l∧(∀ k∈xs.take j,p k = false)∧hp w' = hp w,fun z _=>l - z.toNat,⟨0,rfl,Nat.zero_le _,fun k hk=>by simp at hk,rfl⟩,?_⟩
    rintro _ z w1 ⟨j,rfl,hj,hno,e1⟩
    refine br_intro (fun h1=>?_) fun h1=>?_
    rotate_left
    · have h1:j = l:=by have:=of_decide_eq_false h1; omega
      rw [List.take_of_length_le (by omega)] at hno
      exact ⟨_,rfl,by rw [List.any_eq_false.2 fun x hx=>by rw [hno x hx]; simp]; rfl,e1⟩
    have h1:j < l:=by have:=of_decide_eq_true h1; omega
    obtain ⟨k,ad,vs,hk,had,hrow,o,l1,c1,rfl,hle,hrd⟩:=hr.get h1
    rw [mulS_eq,show j * Rep.n (List Int) = j from Nat.mul_one j] at hrow
    refine idx_i had h1 ⟨o,l1,c1,hrow.cell0 (Gr.of_eq e1),ifT_iff.2 ⟨hfl,(hP k (List.mem_of_getElem? hk) w1 o l1 c1 e1 hrd).mono ?_⟩⟩
    rintro _ w2 ⟨rfl,e2⟩
    refine ⟨_,rfl,br_intro (fun hb=>?_) fun hb=>?_⟩
    · exact ⟨_,rfl,by rw [List.any_eq_true.2 ⟨k,List.mem_of_getElem? hk,hb⟩]; exact (decide_eq_true (Int.natCast_nonneg j)).symm,e2⟩
    · refine ⟨⟨by omega,by omega⟩,⟨j + 1,by simp,by omega,fun y hy=>?_,e2⟩,msr h1⟩
      rw [List.take_add_one,hk] at hy
      rcases List.mem_append.1 hy with hy | hy
      · exact hno y hy
      · simp at hy; subst hy; exact hb
  refine key.mono ?_
  rintro _ w' ⟨n,rfl,h1,h2⟩
  exact ⟨n,rfl,by rw [h1],h2⟩
theorem y_right {es:List (List Int)} (hr:rdS (hp w) es a l) (hb:l≤4611686018427387904) (hB:∀ x∈es,x.length≤4611686018427387904) :
    Run Tryz.prog n_digraph_right [.slice a l c] w fun v w'=>v = .bool (rightB es)∧Gr w w':=by
  refine run_digraph_right _ _ _ w _ ?_
  have hl:=hr.1
  refine newC_i (St.all w) fun k1 w1 h1=>?_
  have g1:Gr w w1:=h1.gone1
  have hcel:=(rdCel 0 h1.l).cell0 (sub.refl _)
  refine ⟨_,_,_,hcel,(y_CtL (p:=fun l=>l.any fun x=>decide (x < 0) || decide ((es.length:Int)≤x)) (d:=n_digraph_right_S1) (e:=[vP (some (aM k1))]) rfl (hr.mono g1) hb ?_).mono ?_⟩
  · intro x hx u o l' c' hu hrx
    refine run_digraph_right_S1 _ _ _ _ u _ ((y_CtI (p:=fun x=>decide (x < 0) || decide ((es.length:Int)≤x)) (d:=n_digraph_right_S1_S1) (e:=[vP (some (aM k1))]) rfl (by rw [hu]; exact hrx) (by have:=hrx.1; have:=hB x hx; omega) ?_).mono ?_)
    · intro y hy u2 hu2
      refine run_digraph_right_S1_S1 _ _ u2 _ (br_intro (fun h=>?_) fun h=>?_)
      · exact ⟨by rw [show decide (y < 0) = true from h]; rfl,hu2⟩
      · refine ⟨_,_,_,by rw [cell_hp (hu2.trans hu)]; exact hcel,by rw [show decide (y < 0) = false from h,Bool.false_or,hl],hu2⟩
    · rintro _ w2 ⟨rfl,h2⟩
      exact ⟨_,rfl,rfl,h2.trans hu⟩
  · rintro _ w2 ⟨rfl,h2⟩
    exact ⟨_,rfl,rfl,g1.trans (Gr.of_eq h2)⟩
end Go.Proofs.YtngdohpikfcifaaGreatDoor
set_option linter.unusedVariables false
set_option maxRecDepth 4000
namespace Go.V
theorem eqIn_ptr2 {P:Program} {w:World} (d:Nat) {t e:TypeId} {a b:Addr} {q:Bool} {i:TypeInfo} (h:P.underlying t = some (.pointer e)) (hi:P.info? e = some i) (hz:i.size≠0) (hs:(sameAddr a b).run P w = .ok q w) :
    (Op.equalIn (d + 1) t (.pointer (some a)) (.pointer (some b))).run P w = .ok q w:=by
  simp [Op.equalIn,run_und h,sizeOf,typeInfo,hi,hz,hs]
theorem equal_ptr2 {P:Program} {w:World} {t e:TypeId} {a b:Addr} {q:Bool} {i:TypeInfo} (h:P.underlying t = some (.pointer e)) (hi:P.info? e = some i) (hz:i.size≠0) (hs:(sameAddr a b).run P w = .ok q w) :
    (Op.equal t (.pointer (some a)) (.pointer (some b))).run P w = .ok q w:=eqIn_ptr2 9999 h hi hz hs
theorem run_cmp_ptr {P:Program} {w:World} {t e:TypeId} {xo yo:Operand} {a b:Addr} {q:Bool} {i:TypeInfo} (h:P.underlying t = some (.pointer e)) (hi:P.info? e = some i) (hz:i.size≠0) (hs:(sameAddr a b).run P w = .ok q w) :
    (cmpS .neq t xo yo (.pointer (some a)) (.pointer (some b))).run P w = .ok (.bool (!q)) w:=by
  unfold cmpS
  have hg:(eqGuard .neq t xo yo (.pointer (some a)) (.pointer (some b))).run P w = .ok () w:=eqGuard_ok (by simp) (by simp)
  simp [hg,Go.binOp,equal_ptr2 h hi hz hs]
theorem cmp_ptr_n {P:Program} {w:World} {L:List Asn} {Ty:TypeId→Option TyI} (hT:TyOk P Ty) {t e:TypeId} {i:TyI} {xo yo:Operand} {k1 k2:Nat} {v1 v2:List Value} (hk:kdOfT Ty t = .ptr e) (hi:Ty e = some i) (hz:i.size≠0) (h:St w (cel k1 v1 :: cel k2 v2 :: L)) :
    (cmpS .neq t xo yo (.pointer (some ⟨k1,0,none⟩)) (.pointer (some ⟨k2,0,none⟩))).run P w = .ok (.bool true) w:=by
  obtain ⟨d,hd,hd'⟩:=undOf hT hk (by simp)
  rw [kd_ptr hd'] at hd
  obtain ⟨info,d2,ha⟩:=tyAt hT hi
  obtain ⟨e1,h1⟩:=cel_ex.1 h
  obtain ⟨e2,h2⟩:=cel_ex.1 h.swap
  have hne:(⟨k1,0,none⟩ : Addr)≠⟨k2,0,none⟩:=by
    intro e
    cases e
    obtain ⟨g1,g2,dd,s1,s2,⟨_,x1⟩,g3,g4,dd',s3,s4,⟨_,x2⟩,_⟩:=h
    rcases dd k1 with h | h
    · rw [h] at x1; cases x1
    · rw [s3 k1 _ x2] at h; cases h
  exact run_cmp_ptr hd ha.inf (by rw [← ha.size]; exact hz) (run_sameAddr_other w hne h1.get h2.get)
theorem cmp_ptr_s {P:Program} {w:World} {Ty:TypeId→Option TyI} (hT:TyOk P Ty) {t e:TypeId} {i:TyI} {xo yo:Operand} {a:Addr} (hk:kdOfT Ty t = .ptr e) (hi:Ty e = some i) (hz:i.size≠0) :
    (cmpS .neq t xo yo (.pointer (some a)) (.pointer (some a))).run P w = .ok (.bool false) w:=by
  obtain ⟨d,hd,hd'⟩:=undOf hT hk (by simp)
  rw [kd_ptr hd'] at hd
  obtain ⟨info,d2,ha⟩:=tyAt hT hi
  exact run_cmp_ptr hd ha.inf (by rw [← ha.size]; exact hz) (run_sameAddr_same w a)
def HasP (es ow:List (List Int)) (v:Nat) (x:Nat):Prop:=∃ u,Dig.Rc (En es) v u∧(x:Int)∈ow.getD u []
structure SolB (es ow:List (List Int)) (v:Nat) (bs:List Bool):Prop where
  ln:bs.length = 1024
  fn:∀ x,fnB bs x = true↔x < 1024∧HasP es ow v x
theorem HasP.mutual {es ow:List (List Int)} {v u x:Nat} (h:Dig.Rc (En es) v u) (hx:HasP es ow u x):HasP es ow v x:=by
  obtain ⟨y,h1,h2⟩:=hx
  exact ⟨y,h.trans h1,h2⟩
theorem SolB.same {es ow:List (List Int)} {v u:Nat} {bs:List Bool} (h:SolB es ow v bs) (h1:Dig.Rc (En es) v u) (h2:Dig.Rc (En es) u v):SolB es ow u bs :=
  ⟨h.ln,fun x=>by rw [h.fn]; exact and_congr_right fun _=>⟨fun hx=>hx.mutual h2,fun hx=>hx.mutual h1⟩⟩
theorem HasP.step {es ow:List (List Int)} {g:List Nat} {v:Nat} (hv:v∈g) (hg:∀ a∈g,∀ b∈g,Dig.Rc (En es) a b) {x:Nat} :
    HasP es ow v x↔(∃ n∈g,(x:Int)∈ow.getD n [])∨∃ n∈g,∃ m∈En es n,m∉g∧HasP es ow m x:=by
  constructor
  · rintro ⟨u,h1,h2⟩
    have key:∀ a b,Dig.Rc (En es) a b→a∈g→(x:Int)∈ow.getD b []→(∃ n∈g,(x:Int)∈ow.getD n [])∨∃ n∈g,∃ m∈En es n,m∉g∧HasP es ow m x:=by
      intro a b h
      induction h with
      | refl a=>intro ha hx; exact .inl ⟨a,ha,hx⟩
      | @step a m b hm hr ih =>
        intro ha hx
        by_cases hmg:m∈g
        · exact ih hmg hx
        · exact .inr ⟨a,ha,m,hm,hmg,b,hr,hx⟩
    exact key v u h1 hv h2
  · rintro (⟨n,hn,hx⟩ | ⟨n,hn,m,hm,_,hx⟩)
    · exact ⟨n,hg v hv n hn,hx⟩
    · exact ((hg v hv n hn).trans (Dig.Rc.one hm)) |> fun h=>hx.mutual h
end Go.V
set_option linter.unusedVariables false
set_option maxRecDepth 4000
namespace Go.V
def pvl (l:List (Option Addr)):List Value:=l.map fun p=>Value.pointer p
theorem pvl_set (l:List (Option Addr)) (i:Nat) (p:Option Addr):(pvl l).set i (.pointer p) = pvl (l.set i p):=by simp [pvl,List.map_set]
theorem pvl_get {l:List (Option Addr)} {i:Nat} {p:Option Addr} (h:l[i]? = some p):(pvl l)[i]? = some (.pointer p):=by simp [pvl,h]
def setP (p:Option Addr) (l:List (Option Addr)) (g:List Nat):List (Option Addr):=g.foldl (fun l m=>l.set m p) l
theorem setP_len (p:Option Addr):∀ (g:List Nat) (l:List (Option Addr)),(setP p l g).length = l.length
  | [],_=>rfl
  | m :: g,l=>by show (setP p (l.set m p) g).length = _; rw [setP_len p g]; simp
theorem setP_snoc (p:Option Addr) (l:List (Option Addr)) (g:List Nat) (m:Nat):setP p l (g ++ [m]) = (setP p l g).set m p:=by simp [setP]
theorem setP_get (p:Option Addr):∀ (g:List Nat) (l:List (Option Addr)),(∀ m∈g,m < l.length)→∀ v,(setP p l g)[v]? = if v∈g then some p else l[v]?
  | [],l,_,v=>by simp [setP]
  | m :: g,l,h,v=>by
    have:=setP_get p g (l.set m p) (fun y hy=>by rw [List.length_set]; exact h y (by simp [hy])) v
    show (setP p (l.set m p) g)[v]? = _
    rw [this]
    by_cases e:v∈g
    · simp [e]
    · have hm:=h m (by simp)
      by_cases e2:v = m
      · subst e2; simp [e,hm]
      · rw [if_neg e,List.getElem?_set_ne (Ne.symm e2),if_neg (by simp [e,e2])]
section
variable {w:World} {L:List Asn}
end
end Go.V
set_option linter.unusedVariables false
set_option maxRecDepth 4000
namespace Go.V
theorem starL_at {L:List Asn} {h:Hp} {A:Asn} (i:Nat) (hl:starL L h) (e:nthA L i = A:=by rfl) (hi:Nat.blt i (lenA L) = true:=by rfl):∃ h1,sub h1 h∧A h1:=by
  have:=starL_nth i (by simpa [lenA_eq] using hi) hl
  rwa [e] at this
structure SolF (es ow:List (List Int)) (N:Nat) (gs:List (List Nat)) (sets:List (Option Addr)) (ps:List Go.Proofs.YtngdohpikfcifaaGreatDoor.Ls) (gr:List (Nat × List Bool)):Prop where
  ls:sets.length = N
  lp:ps.length = N
  lg:gr.length = gs.length
  st:∀ (i:Nat) g b B,gs[i]? = some g→gr[i]? = some (b,B)→∀ v∈g,sets[v]? = some (some ⟨b,0,none⟩)∧SolB es ow v B∧∃ p,ps[v]? = some p∧p.2 = mbI B
end Go.V
namespace Go.Proofs.YtngdohpikfcifaaGreatDoor
open Go.V
variable {w:World} {L:List Asn} {a oa:Option Addr} {N c oc l ks bs ko bo ke kn:Nat} {es ow:List (List Int)} {h0:Hp}
def setG (gr:List (Nat × List Bool)):List Asn:=gr.map fun p=>setO (some ⟨p.1,0,none⟩) p.2
def solA (es ow:List (List Int)) (ks bs ko bo N:Nat) (gs:List (List Nat)):Asn:=V.ex fun y:List (Option Addr) × List Ls × List (Nat × List Bool) =>
  sta [V.pu (SolF es ow N gs y.1 y.2.1 y.2.2),cel ks [.slice (some ⟨bs,0,none⟩) N N],cel bs (pvl y.1),cel ko [.slice (some ⟨bo,0,none⟩) N N],cel bo (y.2.1.map slP'),sta (y.2.1.map owP'),sta (setG y.2.2)]
theorem solA_iff {gs:List (List Nat)}:St w (solA es ow ks bs ko bo N gs :: L)↔∃ (sets:List (Option Addr)) (ps:List Ls) (gr:List (Nat × List Bool)),SolF es ow N gs sets ps gr ∧
    St w (cel ks [.slice (some ⟨bs,0,none⟩) N N] :: cel bs (pvl sets) :: cel ko [.slice (some ⟨bo,0,none⟩) N N] :: cel bo (ps.map slP') :: sta (ps.map owP') :: sta (setG gr) :: L):=by
  unfold solA
  rw [St.ex]
  constructor
  · rintro ⟨⟨sets,ps,gr⟩,h⟩
    have h:=St.pu.1 (St.flat.1 h)
    exact ⟨sets,ps,gr,h.1,h.2⟩
  · rintro ⟨sets,ps,gr,h1,h2⟩
    exact ⟨⟨sets,ps,gr⟩,St.flat.2 (St.pu.2 ⟨h1,h2⟩)⟩
theorem cmp_sets {k1 k2:Nat} {B1 B2:List Bool} {xo yo:Operand} (h:St w (setO (some ⟨k1,0,none⟩) B1 :: setO (some ⟨k2,0,none⟩) B2 :: L)) :
    (cmpS .neq ty_p_bits_Set xo yo (.pointer (some ⟨k1,0,none⟩)) (.pointer (some ⟨k2,0,none⟩))).run Tryz.prog w = .ok (.bool true) w:=by
  rcases setM_cases h with ⟨e,_⟩ | ⟨b,a,c,ws,e,_,h⟩
  · cases e
  · cases e
    rcases setM_cases (h.pick 3 [2,0,1]) with ⟨e,_⟩ | ⟨b',a',c',ws',e,_,h⟩
    · cases e
    · cases e
      exact cmp_ptr_n tyOk (rfl:kdOfT Ty ty_p_bits_Set = .ptr _) rfl (by decide) (h.pick 4 [2,0,1,3])
structure SolC (es ow:List (List Int)) (h0:Hp) (ke kn N:Nat) (a oa:Option Addr) (c oc:Nat):Prop where
  ce:rowH h0 ⟨ke,0,none⟩ [.slice a N c]
  cn:rowH h0 ⟨kn,0,none⟩ [.slice oa N oc]
  re:rdS h0 es a N
  rn:rdS h0 ow oa N
  tab:tabA h0
  bE:∀ x∈es,x.length * 8≤140737488355328
  bO:∀ x∈ow,x.length * 8≤140737488355328
  bN:N * 24≤140737488355328
  rO:∀ x∈ow,∀ y∈x,0≤y∧y < 1024
theorem done_S (hR:RightP es) (C:SolC es ow h0 ke kn N a oa c oc):DoneC n_digraph_Solve_S2 [.pointer (some (aM ks)),.pointer (some (aM kn)),.pointer (some (aM ke)),.pointer (some (aM ko))] es fun gs=>[solA es ow ks bs ko bo N gs,has h0]:=by
  intro gs g F w o gc hG hlt h
  have hN:es.length = N:=C.re.1
  have hgN:∀ v∈g,v < N:=fun v hv=>by have:=hlt v (by simp [hv]); omega
  have hgl:g.length≤N:=(hG.len hlt).2 g (by simp) |> fun h=>by omega
  have hgm:∀ x∈g,∀ y∈g,Dig.Rc (En es) x y:=(hG.2 gs g [] rfl).2.1
  have hge:∀ x∈g,∀ y∈En es x,y∈g∨y∈gs.flatten:=(hG.2 gs g [] rfl).2.2
  have hgd:∀ x∈g,x∉gs.flatten:=fun x hx=>(Dig.nodup_split hG.1 rfl hx).1
  have bN:=C.bN
  obtain ⟨sets,ps,gr,hF,h⟩:=solA_iff.1 (h.pick 3 [1,0,2])
  refine run_digraph_Solve_S2 _ _ _ _ _ _ _ w _ ((s_Of 1024 (xs:=[]) rdS.nil (by decide)).mono ?_)
  rintro _ w1 ⟨b,rfl,h1⟩
  have h:=h1.on1 h
  -- [0 set,1 ks,2 bs,3 ko,4 bo,5 lists,6 sets,7 group,8 has]
  refine ⟨_,rfl,fun z w'=>∃ i:Nat,z = i∧i≤g.length∧St w' (setO (some ⟨b,0,none⟩) (ofB 1024 []) :: cel ks [.slice (some ⟨bs,0,none⟩) N N] :: cel bs (pvl (setP (some ⟨b,0,none⟩) sets (g.take i))) :: cel ko [.slice (some ⟨bo,0,none⟩) N N] :: cel bo (ps.map slP') :: sta (ps.map owP') :: sta (setG gr) :: own 1 o g.length gc (ivn g) :: has h0 :: F),
    fun z _=>g.length - z.toNat,⟨0,rfl,Nat.zero_le _,h⟩,?_⟩
  rintro _ z w2 ⟨i,rfl,hi,h⟩
  refine br_intro (fun h1=>?_) fun h1=>?_
  · have h1:i < g.length:=by have:=of_decide_eq_true h1; omega
    obtain ⟨v,hv⟩ : ∃ v,g[i]? = some v:=⟨g[i],List.getElem?_eq_getElem _⟩
    have hvN:=hgN v (List.mem_of_getElem? hv)
    obtain ⟨gad,hga,hgc⟩:=own_cell (h.pick 9 [7,0,1,2,3,4,5,6,8]) (ivn_get' hv)
    refine idx_i hga h1 ⟨_,hgc,_,_,_,(rdCel 1 h.l).cell0 (sub.refl _),idx_i rfl hvN ?_⟩
    rw [add_lit0]
    refine st1_i (h.pick 9 [2,0,1,3,4,5,6,7,8]) (by simp [pvl,setP_len,hF.ls]; omega) fun w3 h=>⟨⟨by omega,by omega⟩,⟨i + 1,rfl,h1,?_⟩,msr h1⟩
    rw [pvl_set] at h
    rw [List.take_add_one,hv,Option.toList_some,setP_snoc]
    exact h.pick 9 [1,2,0,3,4,5,6,7,8]
  have h1:i = g.length:=by have:=of_decide_eq_false h1; omega
  subst h1
  rw [List.take_length] at h
  have hmax:∀ x:Nat,(ofB 1024 []).length = 1024∧fnB (ofB 1024 []) x = false:=fun x=>⟨by unfold ofB; rw [addB_len,List.length_replicate]; decide,by unfold ofB; rw [fnB_add]; simp [addS,fnB_rep]⟩
  have hsets:∀ v,(setP (some ⟨b,0,none⟩) sets g)[v]? = if v∈g then some (some (⟨b,0,none⟩ : Addr)) else sets[v]?:=setP_get _ g sets fun m hm=>by rw [hF.ls]; exact hgN m hm
  -- the numbers come together
  let Part:Nat→Nat→Prop:=fun i x=>(∃ n∈g.take i,(x:Int)∈ow.getD n [])∨∃ n∈g.take i,∃ m∈En es n,m∉g∧HasP es ow m x
  refine ⟨fun z w'=>∃ (i:Nat) (B:List Bool),z = i∧i≤g.length∧B.length = 1024∧(∀ x,fnB B x = true↔x < 1024∧Part i x)∧St w' (setO (some ⟨b,0,none⟩) B :: cel ks [.slice (some ⟨bs,0,none⟩) N N] :: cel bs (pvl (setP (some ⟨b,0,none⟩) sets g)) :: cel ko [.slice (some ⟨bo,0,none⟩) N N] :: cel bo (ps.map slP') :: sta (ps.map owP') :: sta (setG gr) :: own 1 o g.length gc (ivn g) :: has h0 :: F),
    fun z _=>g.length - z.toNat,⟨0,_,rfl,Nat.zero_le _,(hmax 0).1,fun x=>?_,h⟩,?_⟩
  · rw [(hmax x).2]
    constructor
    · intro h; cases h
    · rintro ⟨_,⟨n,hn,_⟩ | ⟨n,hn,_⟩⟩ <;> simp at hn
  rintro _ z w4 ⟨i,B,rfl,hi,hBl,hBf,h⟩
  refine br_intro (fun h1=>?_) fun h1=>?_
  · have h1:i < g.length:=by have:=of_decide_eq_true h1; omega
    obtain ⟨n,hn⟩ : ∃ n,g[i]? = some n:=⟨g[i],List.getElem?_eq_getElem _⟩
    have hng:=List.mem_of_getElem? hn
    have hnN:=hgN n hng
    have s0:=rdH 8 h.l
    obtain ⟨gad,hga,hgc⟩:=own_cell (h.pick 9 [7,0,1,2,3,4,5,6,8]) (ivn_get' hn)
    obtain ⟨xo,oad,ov,hxo,hoa,horow,o4,l4,c4,rfl,hle4,hrd4⟩:=C.rn.get (i:=n) hnN
    rw [mulS_eq,show n * Rep.n (List Int) = n from Nat.mul_one n] at horow
    obtain ⟨xe,ead,ev,hxe,hea,herow,o6,l6,c6,rfl,hle6,hrd6⟩:=C.re.get (i:=n) hnN
    rw [mulS_eq,show n * Rep.n (List Int) = n from Nat.mul_one n] at herow
    have hlo:=hrd4.1
    have hle:=hrd6.1
    have hxoB:=C.bO xo (List.mem_of_getElem? hxo)
    have hxeB:=C.bE xe (List.mem_of_getElem? hxe)
    refine idx_i hga h1 ⟨_,hgc,_,_,_,C.cn.cell0 s0,idx_i hoa hnN ⟨o4,l4,c4,horow.cell0 s0,(s_Add (xs:=xo) h (fun hh hl=>hrd4.mono (rdH 7 hl)) (by omega)).mono ?_⟩⟩
    rintro _ w5 ⟨rfl,h⟩
    have s0:=rdH 8 h.l
    refine ⟨_,rfl,_,_,_,C.ce.cell0 s0,idx_i hea hnN ⟨o6,l6,c6,herow.cell0 s0,?_⟩⟩
    have hen:=en_get hxe
    have how:ow.getD n [] = xo:=by rw [List.getD_eq_getElem?_getD,hxo]; rfl
    refine ⟨fun z w'=>∃ (j:Nat) (B' : List Bool),z = j∧j≤l6∧B'.length = 1024∧(∀ x,fnB B' x = true↔x < 1024∧(Part i x∨(x:Int)∈xo∨∃ m∈(En es n).take j,m∉g∧HasP es ow m x))∧St w' (setO (some ⟨b,0,none⟩) B' :: cel ks [.slice (some ⟨bs,0,none⟩) N N] :: cel bs (pvl (setP (some ⟨b,0,none⟩) sets g)) :: cel ko [.slice (some ⟨bo,0,none⟩) N N] :: cel bo (ps.map slP') :: sta (ps.map owP') :: sta (setG gr) :: own 1 o g.length gc (ivn g) :: has h0 :: F),
      fun z _=>l6 - z.toNat,⟨0,_,rfl,Nat.zero_le _,by rw [addB_len]; exact hBl,fun x=>?_,h⟩,?_⟩
    · rw [fnB_add,addS,hBl,Bool.or_eq_true,hBf,Bool.and_eq_true,decide_eq_true_eq,List.contains_iff_mem]
      constructor
      · rintro (⟨p1,p2⟩ | ⟨p1,p2⟩)
        · exact ⟨p1,.inl p2⟩
        · exact ⟨p1,.inr (.inl p2)⟩
      · rintro ⟨p1,p2 | p2 | ⟨m,hm,_⟩⟩
        · exact .inl ⟨p1,p2⟩
        · exact .inr ⟨p1,p2⟩
        · simp at hm
    rintro _ z w6 ⟨j,B',rfl,hj,hBl',hBf',h⟩
    have s0:=rdH 8 h.l
    refine br_intro (fun h2=>?_) fun h2=>?_
    · have h2:j < l6:=by have:=of_decide_eq_true h2; omega
      obtain ⟨mI,hmI⟩ : ∃ mI,xe[j]? = some mI:=⟨xe[j]'(by omega),List.getElem?_eq_getElem _⟩
      obtain ⟨m,hmE,rfl⟩ : ∃ m:Nat,(En es n)[j]? = some m∧mI = (m:Int):=by
        refine ⟨mI.toNat,by rw [hen,List.getElem?_map,hmI]; rfl,?_⟩
        have:=hR xe (List.mem_of_getElem? hxe) mI (List.mem_of_getElem? hmI)
        omega
      have hmN:m < N:=by have:=en_lt hR (List.mem_of_getElem? hmE); omega
      have htk:∀ {B'' : List Bool},(∀ x,fnB B'' x = true↔fnB B' x = true∨(x < 1024∧m∉g∧HasP es ow m x))→∀ x,fnB B'' x = true↔x < 1024∧(Part i x∨(x:Int)∈xo∨∃ m∈(En es n).take (j + 1),m∉g∧HasP es ow m x):=by
        intro B'' hB x
        rw [hB,hBf',List.take_add_one,hmE,Option.toList_some]
        constructor
        · rintro (⟨p1,p2 | p2 | ⟨y,q1,q2⟩⟩ | ⟨p1,p2⟩)
          · exact ⟨p1,.inl p2⟩
          · exact ⟨p1,.inr (.inl p2)⟩
          · exact ⟨p1,.inr (.inr ⟨y,List.mem_append_left _ q1,q2⟩)⟩
          · exact ⟨p1,.inr (.inr ⟨m,by simp,p2⟩)⟩
        · rintro ⟨p1,p2 | p2 | ⟨y,q1,q2⟩⟩
          · exact .inl ⟨p1,.inl p2⟩
          · exact .inl ⟨p1,.inr (.inl p2)⟩
          · rcases List.mem_append.1 q1 with q1 | q1
            · exact .inl ⟨p1,.inr (.inr ⟨y,q1,q2⟩)⟩
            · simp at q1; subst q1; exact .inr ⟨p1,q2⟩
      obtain ⟨ead2,hea2,hc2⟩:=hrd6.at hmI
      have rowS:=(rdCel 2 h.l)
      refine idx_i hea2 h2 ⟨(m:Int),hc2 w6 s0,_,_,_,(rdCel 1 h.l).cell0 (sub.refl _),idx_i rfl hmN ?_⟩
      by_cases hmg:m∈g
      · have hsm:(setP (some ⟨b,0,none⟩) sets g)[m]? = some (some (⟨b,0,none⟩ : Addr)):=by rw [hsets,if_pos hmg]
        refine ⟨some ⟨b,0,none⟩,rowS.cell (sub.refl _) (pvl_get hsm),⟨_,cmp_ptr_s tyOk (rfl:kdOfT Ty ty_p_bits_Set = .ptr _) rfl (by decide),false,rfl,?_⟩⟩
        refine ⟨⟨by omega,by omega⟩,⟨j + 1,B',rfl,h2,hBl',htk fun x=>⟨.inl,fun h=>h.resolve_right fun h=>h.2.1 hmg⟩,h⟩,msr h2⟩
      · have hmf:m∈gs.flatten:=(hge n hng m (List.mem_of_getElem? hmE)).resolve_left hmg
        obtain ⟨g2,hg2,hmg2⟩:=List.mem_flatten.1 hmf
        obtain ⟨k2,hk2⟩:=List.getElem?_of_mem hg2
        obtain ⟨⟨b2,B2⟩,hb2⟩ : ∃ y,gr[k2]? = some y:=⟨gr[k2]'(by rw [hF.lg]; exact (List.getElem?_eq_some_iff.1 hk2).1),List.getElem?_eq_getElem _⟩
        obtain ⟨f1,f2,_⟩:=hF.st k2 g2 b2 B2 hk2 hb2 m hmg2
        have hsm:(setP (some ⟨b,0,none⟩) sets g)[m]? = some (some (⟨b2,0,none⟩ : Addr)):=by rw [hsets,if_neg hmg,f1]
        have hgr:(setG gr)[k2]? = some (setO (some ⟨b2,0,none⟩) B2):=by unfold setG; rw [List.getElem?_map,hb2]; rfl
        have hcmp:=cmp_sets (xo:=Operand.tmp 52) (yo:=Operand.tmp 53) ((St.staGet (h.pick 9 [6,0,1,2,3,4,5,7,8]) hgr).pick 3 [0,2])
        refine ⟨some ⟨b2,0,none⟩,rowS.cell (sub.refl _) (pvl_get hsm),⟨_,hcmp,true,rfl,?_⟩⟩
        refine ⟨_,_,_,(rdCel 1 h.l).cell0 (sub.refl _),idx_i rfl hmN ⟨some ⟨b2,0,none⟩,rowS.cell (sub.refl _) (pvl_get hsm),newC_i h fun k15 w7 h=>?_⟩⟩
        have h:=h.pick 10 [1,0,2,3,4,5,6,7,8,9]
        refine (s_Union (os:=[some ⟨b2,0,none⟩]) (vss:=[B2]) h (fun hh hl=>rdS_of_row rfl (.inr ⟨_,rfl,(show rowH hh ⟨k15,0,none⟩ [.pointer (some ⟨b2,0,none⟩)] from rdCel 0 hl)⟩)) rfl (fun hh hl y q v hq hv=>?_) (fun hh hl=>rdV.mono (rdH 8 hl) C.tab) (by simp)).mono ?_
        · obtain ⟨h1,s1,ha⟩:=starL_at 6 hl (A:=sta (setG gr))
          obtain ⟨h3,s3,h4⟩:=starL_in (List.mem_of_getElem? hgr) ha
          cases y with
          | zero=>cases hq; cases hv; exact .inl ((setO_R h4).mono (s3.trans s1))
          | succ y=>simp at hq
        rintro _ w8 ⟨rfl,h⟩
        refine ⟨_,rfl,⟨by omega,by omega⟩,⟨j + 1,unionB B' [B2],rfl,h2,by rw [unionB_len]; exact hBl',htk fun x=>?_,h.pick 10 [0,2,3,4,5,6,7,8,9]⟩,msr h2⟩
        show fnB (addB B' (mbI B2)) x = true↔_
        rw [fnB_add_mb,hBl',Bool.or_eq_true,Bool.and_eq_true,decide_eq_true_eq,f2.fn]
        constructor
        · rintro (p | ⟨p1,_,p2⟩)
          · exact .inl p
          · exact .inr ⟨p1,hmg,p2⟩
        · rintro (p | ⟨p1,_,p2⟩)
          · exact .inl p
          · exact .inr ⟨p1,p1,p2⟩
    · have h2:j = l6:=by have:=of_decide_eq_false h2; omega
      subst h2
      refine ⟨⟨by omega,by omega⟩,⟨i + 1,B',rfl,h1,hBl',fun x=>?_,h⟩,msr h1⟩
      have hjl:(En es n).take j = En es n:=List.take_of_length_le (by rw [hen,List.length_map]; omega)
      rw [hBf',hjl]
      refine and_congr_right fun _=>?_
      show _↔(∃ n∈g.take (i + 1),_)∨∃ n∈g.take (i + 1),_
      rw [List.take_add_one,hn,Option.toList_some]
      constructor
      · rintro ((⟨y,q1,q2⟩ | ⟨y,q1,q2⟩) | q | q)
        · exact .inl ⟨y,List.mem_append_left _ q1,q2⟩
        · exact .inr ⟨y,List.mem_append_left _ q1,q2⟩
        · exact .inl ⟨n,by simp,by rw [how]; exact q⟩
        · exact .inr ⟨n,by simp,q⟩
      · rintro (⟨y,q1,q2⟩ | ⟨y,q1,q2⟩)
        · rcases List.mem_append.1 q1 with q1 | q1
          · exact .inl (.inl ⟨y,q1,q2⟩)
          · simp at q1; subst q1; exact .inr (.inl (by rw [how] at q2; exact q2))
        · rcases List.mem_append.1 q1 with q1 | q1
          · exact .inl (.inr ⟨y,q1,q2⟩)
          · simp at q1; subst q1; exact .inr (.inr q2)
  have h1:i = g.length:=by have:=of_decide_eq_false h1; omega
  subst h1
  have hSol:∀ v∈g,SolB es ow v B:=fun v hv=>⟨hBl,fun x=>by
    rw [hBf]
    refine and_congr_right fun _=>?_
    show (∃ n∈g.take g.length,_)∨(∃ n∈g.take g.length,_)↔_
    rw [List.take_length,HasP.step hv hgm]⟩
  refine (s_Members (h.setR) (rdV.mono (rdH 8 h.l) C.tab)).mono ?_
  rintro _ w9 ⟨a5,c5,rfl,h5⟩
  have h:=h5.on1 h
  have hml:(mbI B).length = cntB B:=mbI_len B
  have hmb:cntB B≤1024:=by have:=cntB_le B; omega
  refine ⟨_,_,_,rfl,fun z w'=>∃ (i:Nat) (ps' : List Ls),z = i∧i≤g.length∧ps'.length = N∧(∀ v∈g.take i,∃ p,ps'[v]? = some p∧p.2 = mbI B)∧(∀ v,v∉g→ps'[v]? = ps[v]?) ∧
      St w' (own 1 a5 (cntB B) c5 (iv (mbI B)) :: setO (some ⟨b,0,none⟩) B :: cel ks [.slice (some ⟨bs,0,none⟩) N N] :: cel bs (pvl (setP (some ⟨b,0,none⟩) sets g)) :: cel ko [.slice (some ⟨bo,0,none⟩) N N] :: cel bo (ps'.map slP') :: sta (ps'.map owP') :: sta (setG gr) :: own 1 o g.length gc (ivn g) :: has h0 :: F),
    fun z _=>g.length - z.toNat,⟨0,ps,rfl,Nat.zero_le _,hF.lp,fun v hv=>by simp at hv,fun _ _=>rfl,h⟩,?_⟩
  rintro _ z w10 ⟨i,ps',rfl,hi,hpl,hp1,hp2,h⟩
  refine br_intro (fun h1=>?_) fun h1=>?_
  · have h1:i < g.length:=by have:=of_decide_eq_true h1; omega
    obtain ⟨v,hv⟩ : ∃ v,g[i]? = some v:=⟨g[i],List.getElem?_eq_getElem _⟩
    have hvN:=hgN v (List.mem_of_getElem? hv)
    obtain ⟨gad,hga,hgc⟩:=own_cell (h.pick 10 [8,0,1,2,3,4,5,6,7,9]) (ivn_get' hv)
    refine idx_i hga h1 ⟨_,hgc,fun w11 hd=>?_⟩
    have h:=h.eq (drawn_hp hd)
    have rko:=rdCel 4 h.l
    refine ⟨fun u=>Gr w11 u,Gr.refl _,_,_,_,fun u hu=>rko.cell0 hu,(y_CloneI (xs:=mbI B) (rdI_of hml (rdOv 0 h.l)) (by omega) (by omega)).mono ?_⟩
    rintro _ w13 ⟨o13,c13,rfl,h13⟩
    have g13:Gr w11 w13:=h13.gone1
    have h:=h13.on1 h
    refine ⟨_,_,_,rfl,g13,idx_i rfl hvN ?_⟩
    rw [add_lit0]
    refine st1_i (h.pick 11 [6,0,1,2,3,4,5,7,8,9,10]) (by simp; omega) fun w14 h=>⟨⟨by omega,by omega⟩,⟨i + 1,ps'.set v ((o13,c13),mbI B),rfl,h1,by rw [List.length_set]; exact hpl,fun u hu=>?_,fun u hu=>?_,?_⟩,msr h1⟩
    · by_cases e:u = v
      · subst e; exact ⟨_,by rw [List.getElem?_set_self (by omega)],rfl⟩
      · rw [List.take_add_one,hv,Option.toList_some] at hu
        rcases List.mem_append.1 hu with hu | hu
        · obtain ⟨p,q1,q2⟩:=hp1 u hu
          exact ⟨p,by rw [List.getElem?_set_ne (Ne.symm e)]; exact q1,q2⟩
        · simp at hu; exact absurd hu e
    · have e:u≠v:=fun e=>hu (e ▸ List.mem_of_getElem? hv)
      rw [List.getElem?_set_ne (Ne.symm e)]; exact hp2 u hu
    · have h:=St.staSet (A:=own 1 o13 (mbI B).length c13 (iv (mbI B))) (M:=ps'.map owP') (h.pick 11 [1,7,0,2,3,4,5,6,8,9,10]) (n:=v) (by simp; omega)
      have e1:(ps'.map slP').set v (.slice o13 (mbI B).length c13) = (ps'.set v ((o13,c13),mbI B)).map slP':=by rw [List.map_set]; rfl
      have e2:(ps'.map owP').set v (own 1 o13 (mbI B).length c13 (iv (mbI B))) = (ps'.set v ((o13,c13),mbI B)).map owP':=by rw [List.map_set]; rfl
      rw [e1,e2] at h
      exact h.pick 10 [2,3,4,5,6,1,0,7,8,9]
  have h1:i = g.length:=by have:=of_decide_eq_false h1; omega
  subst h1
  rw [List.take_length] at hp1
  refine ⟨rfl,?_⟩
  show St w10 (solA es ow ks bs ko bo N (gs ++ [g]) :: has h0 :: F)
  refine solA_iff.2 ⟨setP (some ⟨b,0,none⟩) sets g,ps',gr ++ [(b,B)],⟨by rw [setP_len]; exact hF.ls,hpl,by simp [hF.lg],fun i g' b' B' hi1 hi2 v hv=>?_⟩,?_⟩
  · by_cases e:i < gs.length
    · rw [List.getElem?_append_left e] at hi1
      rw [List.getElem?_append_left (by rw [hF.lg]; exact e)] at hi2
      have hvf:v∈gs.flatten:=List.mem_flatten.2 ⟨g',List.mem_of_getElem? hi1,hv⟩
      have hvg:v∉g:=fun h=>hgd v h hvf
      obtain ⟨q1,q2,q3⟩:=hF.st i g' b' B' hi1 hi2 v hv
      exact ⟨by rw [hsets,if_neg hvg]; exact q1,q2,by rw [hp2 v hvg]; exact q3⟩
    · have hil:=(List.getElem?_eq_some_iff.1 hi1).1
      simp at hil
      have e:i = gs.length:=by omega
      subst e
      rw [List.getElem?_append_right (Nat.le_refl _),Nat.sub_self] at hi1
      rw [List.getElem?_append_right (by rw [hF.lg]; exact Nat.le_refl _),hF.lg,Nat.sub_self] at hi2
      cases hi1; cases hi2
      exact ⟨by rw [hsets,if_pos hv],hSol v hv,hp1 v hv⟩
  · have e1:setG (gr ++ [(b,B)]) = setG gr ++ [setO (some ⟨b,0,none⟩) B]:=by simp [setG]
    rw [e1]
    exact (St.snoc (h.pick 10 [1,7,2,3,4,5,6,9])).pick 7 [1,2,3,4,5,0,6]
end Go.Proofs.YtngdohpikfcifaaGreatDoor
set_option linter.unusedVariables false
set_option maxRecDepth 4000
namespace Go.V
def memB (l:List Int):Bool:=!l.any fun x=>decide (x < 0) || decide (1024≤x)
theorem memB_iff {l:List Int}:memB l = true↔∀ x∈l,0≤x∧x < 1024:=by
  unfold memB
  rw [Bool.not_eq_true',List.any_eq_false]
  refine forall_congr' fun x=>forall_congr' fun hx=>?_
  simp
def solOk (es ow:List (List Int)):Bool:=rightB es && ow.length == es.length && ow.all memB
end Go.V
namespace Go.Proofs.YtngdohpikfcifaaGreatDoor
open Go.V
variable {w:World} {L:List Asn} {a oa:Option Addr} {N M c oc l:Nat} {es ow:List (List Int)}
def SolsP (es ow:List (List Int)) (ps:List Ls):Prop:=ps.length = es.length∧∀ v,v < es.length→∃ B p,SolB es ow v B∧ps[v]? = some p∧p.2 = mbI B
theorem d_Solve (hr:rdS (hp w) es a N) (ho:rdS (hp w) ow oa M) (ht:tabA (hp w)) (hB:∀ l∈es,l.length * 8≤140737488355328) (hO:∀ l∈ow,l.length * 8≤140737488355328) (hb:N * 24≤140737488355328) (hM:M * 24≤140737488355328) :
    Run Tryz.prog n_digraph_Solve [.slice a N c,.slice oa M oc] w fun v w'=>(solOk es ow = false∧v = .tuple (Array.mk [.slice none 0 0,.int .i64 1])∧Gr w w') ∨
      (solOk es ow = true∧∃ (bo:Nat) (ps:List Ls),SolsP es ow ps∧v = .tuple (Array.mk [.slice (some ⟨bo,0,none⟩) N N,.int .i64 0])∧St w' (own 1 (some ⟨bo,0,none⟩) N N (ps.map slP') :: sta (ps.map owP') :: all w)):=by
  have hN:=hr.1
  have hMl:=ho.1
  refine run_digraph_Solve _ _ _ _ _ _ w _ ?_
  refine newC_i (St.all w) fun ke w1 h=>newC_i h fun kn w2 h=>?_
  have g2:Gr w w2:=h.tail.gone1
  refine ⟨fun b w'=>b = !(rightB es && M == N)∧Gr w2 w',⟨_,_,_,(rdCel 1 h.l).cell0 (sub.refl _),(y_right (hr.mono g2) (by omega) fun x hx=>by have:=hB x hx; omega).mono ?_⟩,?_⟩
  · rintro _ w3 ⟨rfl,g3⟩
    have h:=h.gr g3
    refine ⟨_,rfl,br_intro (fun h1=>?_) fun h1=>?_⟩
    · have h1:rightB es = false:=by simpa using h1
      exact ⟨by rw [h1]; rfl,g3⟩
    · have h1:rightB es = true:=by simpa using h1
      refine ⟨_,_,_,(rdCel 0 h.l).cell0 (sub.refl _),_,_,_,(rdCel 1 h.l).cell0 (sub.refl _),?_,g3⟩
      rw [h1,Bool.true_and]
      by_cases e:M = N
      · subst e; simp
      · have:((M:Int) != (N:Int)) = true:=by simp; omega
        rw [this]; simp [e]
  rintro _ b2 w4 ⟨rfl,g4⟩
  refine br_intro (fun h1=>?_) fun h1=>?_
  · refine .inl ⟨?_,rfl,g2.trans g4⟩
    have h1:(rightB es && M == N) = false:=by cases hq:(rightB es && M == N) with
      | false=>rfl
      | true=>rw [hq] at h1; cases h1
    unfold solOk
    rw [hMl,hN,h1]; rfl
  have h1:(rightB es && M == N) = true:=by cases hq:(rightB es && M == N) with
    | true=>rfl
    | false=>rw [hq] at h1; cases h1
  obtain ⟨h2,h3⟩:=Bool.and_eq_true_iff.1 h1
  have h3:M = N:=by simpa using h3
  subst h3
  have h:=h.gr g4
  have hre:=hr.mono (g2.trans g4)
  have hro:=ho.mono (g2.trans g4)
  refine ⟨_,_,_,(rdCel 0 h.l).cell0 (sub.refl _),fun z w'=>∃ i:Nat,z = i∧i≤M∧(∀ x∈ow.take i,memB x = true)∧hp w' = hp w4,fun z _=>M - z.toNat,⟨0,rfl,Nat.zero_le _,fun x hx=>by simp at hx,rfl⟩,?_⟩
  rintro _ z w5 ⟨i,rfl,hi,hme,e5⟩
  refine br_intro (fun h4=>?_) fun h4=>?_
  · have h4:i < M:=by have:=of_decide_eq_true h4; omega
    obtain ⟨x,ad,vs,hx,had,hrow,o,l1,c1,rfl,hle,hrd⟩:=hro.get h4
    rw [mulS_eq,show i * Rep.n (List Int) = i from Nat.mul_one i] at hrow
    have hxB:=hO x (List.mem_of_getElem? hx)
    have hxl:=hrd.1
    refine idx_i had h4 ⟨o,l1,c1,hrow.cell0 (Gr.of_eq e5),(y_CtI (p:=fun x=>decide (x < 0) || decide (1024≤x)) (d:=n_digraph_Solve_S1) (e:=[]) rfl (by rw [e5]; exact hrd) (by omega) ?_).mono ?_⟩
    · intro y hy u hu
      refine run_digraph_Solve_S1 _ u _ (br_intro (fun h=>?_) fun h=>?_)
      · exact ⟨by rw [show decide (y < 0) = true from h]; rfl,hu⟩
      · exact ⟨by rw [show decide (y < 0) = false from h,Bool.false_or],hu⟩
    rintro _ w6 ⟨rfl,e6⟩
    refine ⟨_,rfl,br_intro (fun h5=>?_) fun h5=>?_⟩
    · refine .inl ⟨?_,rfl,(g2.trans g4).trans (Gr.of_eq (e6.trans e5))⟩
      unfold solOk
      rw [Bool.and_eq_false_iff]
      right
      rw [List.all_eq_false]
      exact ⟨x,List.mem_of_getElem? hx,by unfold memB; rw [h5]; decide⟩
    · refine ⟨⟨by omega,by omega⟩,⟨i + 1,rfl,h4,fun y hy=>?_,e6.trans e5⟩,msr h4⟩
      rw [List.take_add_one,hx] at hy
      rcases List.mem_append.1 hy with hy | hy
      · exact hme y hy
      · simp at hy; subst hy; unfold memB; rw [h5]; rfl
  have h4:i = M:=by have:=of_decide_eq_false h4; omega
  subst h4
  rw [List.take_of_length_le (by omega)] at hme
  have h:=h.eq e5
  have hok:solOk es ow = true:=by
    unfold solOk
    rw [h2,hMl,hN]
    simp
    exact hme
  refine ⟨_,_,_,(rdCel 1 h.l).cell0 (sub.refl _),⟨by omega,rfl,by omega⟩,?_⟩
  -- from here on what there is stays as it is
  have hall:=St.all w5
  refine newC_i hall fun bs w7 h7=>newC_i h7 fun ks w8 h8=>st1_i h8 (by simp) fun w9 h9=>?_
  have c1:∀ {u:World} {v:List Value} {L' : List Asn} {b:Nat},Gr w5 u→u.cell? (aM ke) = some (.slice a i c):=fun g=>(rdCel 1 h.l).cell0 g
  refine ⟨_,_,_,c1 (v:=[]) (L':=[]) (b:=0) h9.tail.tail.has,⟨by omega,rfl,by omega⟩,newC_i h9 fun bo w10 h10=>newC_i h10 fun ko w11 h11=>st1_i h11 (by simp) fun w12 h12=>?_⟩
  refine ⟨_,_,_,c1 (v:=[]) (L':=[]) (b:=0) h12.tail.tail.tail.tail.has,?_⟩
  have hre5:rdS (hp w5) es a i:=by rw [e5]; exact hre
  have hro5:rdS (hp w5) ow oa i:=by rw [e5]; exact hro
  have C:SolC es ow (hp w5) ke kn i a oa c oc:=⟨rdCel 1 h.l,rdCel 0 h.l,hre5,hro5,by rw [e5]; exact rdV.mono (g2.trans g4) ht,hB,hO,hb,fun x hx=>memB_iff.1 (hme x hx)⟩
  have hR:=rightB_iff.1 h2
  have hst:St w12 ([solA es ow ks bs ko bo i [],has (hp w5)] ++ []):=by
    have q1:reps (Int.toNat (i:Int)) [vP none] = pvl (List.replicate i none):=by rw [reps_one]; simp [pvl]
    have q2:reps (Int.toNat (i:Int)) [vS none 0 0] = (List.replicate i (((none,0),[]):Ls)).map slP':=by rw [reps_one]; simp [slP']
    rw [q1,q2] at h12
    have h13:=(St.flat (M:=setG [])).2 (sta_reps (A:=owP' ((none,0),[])) (fun w L h=>own_nil 1 h) i h12)
    have q3:List.replicate i (owP' ((none,0),[])) = (List.replicate i (((none,0),[]):Ls)).map owP':=by simp
    rw [q3] at h13
    exact solA_iff.2 ⟨_,_,[],⟨by simp,by simp,rfl,fun k g b B hk=>by simp at hk⟩,h13.pick 7 [4,5,2,3,1,0,6]⟩
  refine (d_each (Q:=fun gs=>[solA es ow ks bs ko bo i gs,has (hp w5)]) (L:=[]) rfl (done_S hR C) (fun gs hh hs=>hre5.mono (rdH 1 hs)) hR hB hb hst).mono ?_
  rintro _ w13 ⟨rfl,gs,hG,hall2,h⟩
  obtain ⟨sets,ps,gr,hF,h⟩:=solA_iff.1 h
  refine ⟨rfl,_,_,_,(rdCel 2 h.l).cell0 (sub.refl _),.inr ⟨hok,bo,ps,⟨by rw [hF.lp,hN],fun v hv=>?_⟩,rfl,?_⟩⟩
  · have hvf:=(hall2 v).2 (by omega)
    obtain ⟨g,hg,hvg⟩:=List.mem_flatten.1 hvf
    obtain ⟨k,hk⟩:=List.getElem?_of_mem hg
    obtain ⟨⟨b,B⟩,hb2⟩ : ∃ y,gr[k]? = some y:=⟨gr[k]'(by rw [hF.lg]; exact (List.getElem?_eq_some_iff.1 hk).1),List.getElem?_eq_getElem _⟩
    obtain ⟨_,q2,p,q3,q4⟩:=hF.st k g b B hk hb2 v hvg
    exact ⟨B,p,q2,q3,q4⟩
  · have h:=h.pick 7 [3,4,6]
    have h:=own_some (sz:=1) (l:=i) (c:=i) (cs:=[]) (by rw [List.append_nil]; exact h) (by simp [hF.lp]) (by simp [hF.lp]) (Nat.le_refl _)
    have g5:Gr w w5:=(g2.trans g4).trans (Gr.of_eq e5)
    exact ((h.pick 3 [2,0,1]).head (B:=has (hp w)) fun hh hs=>sub.trans g5 hs).pick 3 [1,2,0]
end Go.Proofs.YtngdohpikfcifaaGreatDoor
set_option linter.unusedVariables false
set_option maxRecDepth 4000
namespace Go.V
open Go.Proofs.YtngdohpikfcifaaGreatDoor
theorem SolB.one {es ow:List (List Int)} {v:Nat} {B B' : List Bool} (h:SolB es ow v B) (h' : SolB es ow v B'):B = B' :=
  fnB_inj (by rw [h.ln,h'.ln]) fun k=>by
    have:=(h.fn k).trans (h'.fn k).symm
    cases h1:fnB B k <;> cases h2:fnB B' k <;> simp_all
theorem SolsP.one {es ow:List (List Int)} {ps ps' : List Ls} (h:SolsP es ow ps) (h' : SolsP es ow ps'):ps.map (·.2) = ps'.map (·.2):=by
  apply List.ext_getElem?
  intro v
  by_cases hv:v < es.length
  · obtain ⟨B,p,q1,q2,q3⟩:=h.2 v hv
    obtain ⟨B',p',r1,r2,r3⟩:=h'.2 v hv
    rw [List.getElem?_map,List.getElem?_map,q2,r2]
    simp only [Option.map_some]
    rw [q3,r3,q1.one r1]
  · rw [List.getElem?_eq_none (by rw [List.length_map,h.1]; omega),List.getElem?_eq_none (by rw [List.length_map,h'.1]; omega)]
end Go.V
set_option linter.unusedVariables false
set_option maxRecDepth 4000
namespace Go.V
open Go.Proofs.YtngdohpikfcifaaGreatDoor
section
variable {es ow:List (List Int)}
open Classical in
noncomputable def solRow (es ow:List (List Int)) (v:Nat):List Int:=rowF 1024 fun x=>decide (HasP es ow v x)
noncomputable def solL (es ow:List (List Int)):List (List Int):=(List.range es.length).map (solRow es ow)
theorem solL_len:(solL es ow).length = es.length:=by unfold solL; simp
theorem solL_get {v:Nat} (h:v < es.length):(solL es ow)[v]? = some (solRow es ow v):=by unfold solL; simp [h]
theorem solRow_mem {v:Nat} {z:Int}:z∈solRow es ow v↔∃ x:Nat,z = x∧x < 1024∧HasP es ow v x:=by
  unfold solRow; rw [rowF_mem]; simp
theorem solRow_rise {v:Nat}:Rise (solRow es ow v):=rowF_rise _ _
theorem solRow_len {v:Nat}:(solRow es ow v).length≤1024:=rowF_len _ _
theorem HasP.iff {v x:Nat}:HasP es ow v x↔(x:Int)∈ow.getD v []∨∃ m∈En es v,HasP es ow m x:=by
  constructor
  · rintro ⟨u,h,hx⟩
    cases h with
    | refl=>exact .inl hx
    | step h1 h2=>exact .inr ⟨_,h1,_,h2,hx⟩
  · rintro (h | ⟨m,h1,u,h2,hx⟩)
    · exact ⟨v,.refl v,h⟩
    · exact ⟨u,.step h1 h2,hx⟩
theorem HasP.least {Q:Nat→Nat→Prop} (h1:∀ v x:Nat,(x:Int)∈ow.getD v []→Q v x) (h2:∀ v m x:Nat,m∈En es v→Q m x→Q v x) {v x:Nat} (h:HasP es ow v x):Q v x:=by
  obtain ⟨u,h,hx⟩:=h
  induction h with
  | refl a=>exact h1 a x hx
  | step ha hb ih=>exact h2 _ _ _ ha (ih hx)
theorem mbI_row (B:List Bool):mbI B = rowF B.length (fnB B):=by
  unfold mbI rowF
  rfl
theorem rowF_congr {n:Nat} {f f' : Nat→Bool} (h:∀ k,k < n→f k = f' k):rowF n f = rowF n f':=by
  unfold rowF
  rw [List.filter_congr fun k hk=>h k (List.mem_range.1 hk)]
open Classical in
theorem SolB.row {v:Nat} {B:List Bool} (h:SolB es ow v B):mbI B = solRow es ow v:=by
  rw [mbI_row,h.ln]
  unfold solRow
  refine rowF_congr fun k hk=>?_
  have:=h.fn k
  cases hb:fnB B k with
  | true=>rw [hb] at this; exact (decide_eq_true (this.1 rfl).2).symm
  | false=>rw [hb] at this; exact (decide_eq_false fun hh=>by have:=this.2 ⟨hk,hh⟩; cases this).symm
theorem SolsP.rows {ps:List Ls} (h:SolsP es ow ps):ps.map (·.2) = solL es ow:=by
  apply List.ext_getElem?
  intro v
  by_cases hv:v < es.length
  · obtain ⟨B,p,q1,q2,q3⟩:=h.2 v hv
    rw [List.getElem?_map,q2,solL_get hv]
    simp only [Option.map_some]
    rw [q3,q1.row]
  · rw [List.getElem?_eq_none (by rw [List.length_map,h.1]; omega),List.getElem?_eq_none (by rw [solL_len]; omega)]
theorem sol_is {rs:List (List Int)} (hl:rs.length = es.length) (h:∀ (v:Nat) row,rs[v]? = some row→Rise row∧∀ z,z∈row↔∃ x:Nat,z = x∧x < 1024∧HasP es ow v x):rs = solL es ow:=by
  apply List.ext_getElem?
  intro v
  by_cases hv:v < es.length
  · have hr:rs[v]? = some (rs[v]'(by omega)):=List.getElem?_eq_getElem _
    obtain ⟨h1,h2⟩:=h v _ hr
    rw [hr,solL_get hv,rise_eq h1 solRow_rise fun z=>(h2 z).trans solRow_mem.symm]
  · rw [List.getElem?_eq_none (by omega),List.getElem?_eq_none (by rw [solL_len]; omega)]
end
section
variable {g:GramT} {nn nn' : List Bool} {ss ss' : List SQ}
def DirL (g:GramT) (ss:List SQ):List (List Int):=(TrL g ss).map (dirOf g ss)
noncomputable def RgL (g:GramT) (nn:List Bool) (ss:List SQ):List (List Int):=solL (RdsL g nn ss) (DirL g ss)
noncomputable def FgL (g:GramT) (nn:List Bool) (ss:List SQ):List (List Int):=solL (IncL g nn ss) (RgL g nn ss)
theorem DirL_es (h:esOf ss = esOf ss'):DirL g ss = DirL g ss':=by
  unfold DirL; rw [TrL_es h]; exact List.map_congr_left fun t _=>dirOf_es h t
theorem RgL_es (h:esOf ss = esOf ss'):RgL g nn ss = RgL g nn ss':=by unfold RgL; rw [RdsL_es h,DirL_es h]
theorem FgL_es (h:esOf ss = esOf ss'):FgL g nn ss = FgL g nn ss':=by unfold FgL; rw [IncL_es h,RgL_es h]
theorem RdsL_len:(RdsL g nn ss).length = (TrL g ss).length:=by unfold RdsL; simp
theorem IncL_len:(IncL g nn ss).length = (TrL g ss).length:=by unfold IncL; simp
theorem DirL_len:(DirL g ss).length = (TrL g ss).length:=by unfold DirL; simp
theorem RgL_len:(RgL g nn ss).length = (TrL g ss).length:=by unfold RgL; rw [solL_len,RdsL_len]
theorem FgL_len:(FgL g nn ss).length = (TrL g ss).length:=by unfold FgL; rw [solL_len,IncL_len]
structure LookT where
  st:Int
  prod:Int
  tm:List Int
deriving DecidableEq
instance:Inhabited LookT:=⟨⟨0,0,[]⟩⟩
open Classical in
noncomputable def lookOf (g:GramT) (fs:List (List Int)) (b:BackT):LookT:=⟨b.st,b.prod,rowF g.T fun x=>decide (∃ t∈b.tr,(x:Int)∈fs.getD t.toNat [])⟩
noncomputable def LooksL (g:GramT) (nn:List Bool) (ss:List SQ):List LookT:=(BksL g ss).map (lookOf g (FgL g nn ss))
theorem LooksL_es (h:esOf ss = esOf ss'):LooksL g nn ss = LooksL g nn ss':=by unfold LooksL; rw [BksL_es h,FgL_es h]
end
end Go.V
set_option linter.unusedVariables false
set_option maxRecDepth 4000
namespace Go.V
open Go.Proofs.YtngdohpikfcifaaGreatDoor
section
variable {g:GramT} {nn:List Bool} {ss:List SQ}
theorem nn_ex (hc:ClosedP g):∃ nn,NnP g nn:=by
  refine ⟨(List.range g.N).map fun i=>@decide (Nul g ((g.T + i:Nat):Int)) (Classical.propDecidable _),by simp,fun i=>?_⟩
  unfold fnB
  rw [List.getD_eq_getElem?_getD,List.getElem?_map]
  by_cases hi:i < g.N
  · rw [List.getElem?_range hi]
    simp
  · rw [List.getElem?_eq_none (by simp; omega)]
    simp only [Option.map_none,Option.getD_none,Bool.false_eq_true,false_iff]
    intro h
    have:((g.T + i:Nat):Int) < g.T + g.N:=by
      cases hs:((g.T + i:Nat):Int) with
      | ofNat n =>
        rw [hs] at h
        generalize hz:(Int.ofNat n) = z at h
        cases h with
        | mk p hp _ =>
          have:=(inG (.inr hc)).1 p hp |>.1
          omega
      | negSucc n=>omega
    omega
structure RowF (F:GramT→List Bool→List SQ→List (List Int)):Prop where
  es:∀ {g nn ss ss'},esOf ss = esOf ss'→F g nn ss = F g nn ss'
  ln:∀ {g nn ss},(F g nn ss).length = (TrL g ss).length
def Tells (F:GramT→List Bool→List SQ→List (List Int)) (g:GramT) (w:World) (v:Value) (w' : World):Prop:=∃ (ss:List SQ) (ask int f:Int) (nn:List Bool) (o:Option Addr) (c:Nat) (ds:List (Lq Int)),v = .tuple #[.slice o ds.length c,.int .i64 f]∧Res g ss ask int f∧(f = 0→NnP g nn)∧ds.map (·.2) = F g nn ss∧St w' (own 1 o ds.length c (ds.map slQ) :: sta (ds.map (owQ 1 iv)) :: all w)
theorem RowF.nil {F:GramT→List Bool→List SQ→List (List Int)} (h:RowF F):F g nn [] = []:=by
  have:=h.ln (g:=g) (nn:=nn) (ss:=[])
  exact List.eq_nil_of_length_eq_zero (by rw [this]; simp [TrL,TrN])
theorem rf_dir:RowF fun g _ ss=>DirL g ss:=⟨fun h=>DirL_es h,DirL_len⟩
theorem rf_rds:RowF RdsL:=⟨fun h=>RdsL_es h,RdsL_len⟩
theorem rf_inc:RowF IncL:=⟨fun h=>IncL_es h,IncL_len⟩
theorem rf_rg:RowF RgL:=⟨fun h=>RgL_es h,RgL_len⟩
theorem Res.nil {a i f:Int} (h:Res g ss a i f) (hf:f≠0):ss = []:=by
  rcases h with ⟨_,e,_⟩ | ⟨_,_,e,_⟩ | ⟨_,_,_,_,e⟩ <;> first | exact e | exact absurd e hf
theorem dir_mem (hc:ClosedP g) (hA:AutI g ss) {l:List Int} (hl:l∈DirL g ss):l.length≤66∧Rise l∧∀ z∈l,0≤z∧z < g.T:=by
  obtain ⟨t,ht,rfl⟩:=List.mem_map.1 hl
  obtain ⟨hT,hN,_⟩:=hc.sizes
  obtain ⟨i,q,k,e,hi,hq,he,hge,rfl⟩:=TrN_mem ht
  obtain ⟨_,_,j,r,hj,hj1,hr,hrk,_⟩:=aut_edge hc hA hq he
  rw [dirOf_eq (j:=j) (q:=r) (by rw [← hj]; exact nxt_edge hA hq he) hr,dir_wnt hc hA hr]
  refine ⟨?_,rowF_rise _ _,fun z hz=>?_⟩
  · have:=rowF_len g.T (wnt g ss ⟨(i:Int),e.sym⟩ j)
    unfold rowF at this
    omega
  · obtain ⟨n,rfl,h1,_⟩:=rowF_mem.1 (show z∈rowF g.T (wnt g ss ⟨(i:Int),e.sym⟩ j) from hz)
    omega
theorem right_row {n:Nat} {f:Nat→Nat→Bool}:rightB ((List.range n).map fun i=>rowF n (f i)) = true:=by
  rw [rightB_iff]
  intro l hl x hx
  obtain ⟨i,_,rfl⟩:=List.mem_map.1 hl
  obtain ⟨k,rfl,h1,_⟩:=rowF_mem.1 hx
  simp; omega
theorem sol_mem {es ow:List (List Int)} {l:List Int} (h:l∈solL es ow):l.length≤1024∧Rise l∧∀ z∈l,0≤z∧z < 1024:=by
  unfold solL at h
  obtain ⟨v,_,rfl⟩:=List.mem_map.1 h
  refine ⟨solRow_len,solRow_rise,fun z hz=>?_⟩
  obtain ⟨x,rfl,h1,_⟩:=solRow_mem.1 hz
  omega
end
end Go.V
namespace Go.Proofs.YtngdohpikfcifaaGreatDoor
open Go.V
variable {w:World} {L:List Asn} {g:GramT} {x:GA}
set_option maxHeartbeats 2000000 in
theorem y_lksolved {f1 f2:FuncId} {E O:GramT→List Bool→List SQ→List (List Int)} (hE:RowF E) (hO:RowF O) (hf1:Fn f1 = true) (hf2:Fn f2 = true) (hg:gR (hp w) g x) (ht:tabA (hp w))
    (C1:∀ u,Gr w u→Run Tryz.prog f1 [.agg ⟨x.cells⟩] u (Tells O g u)) (C2:∀ u,Gr w u→Run Tryz.prog f2 [.agg ⟨x.cells⟩] u (Tells E g u))
    (hOb:∀ {nn ss},ClosedP g→AutI g ss→∀ l∈O g nn ss,l.length≤33280∧∀ z∈l,0≤z∧z < 1024) (hEb:∀ {nn ss},ClosedP g→AutI g ss→rightB (E g nn ss) = true∧∀ l∈E g nn ss,l.length≤33280) :
    Run Tryz.prog n_look_relation_solved [.agg #[.func (.func f1) #[] #[],.func (.func f2) #[] #[]],.agg ⟨x.cells⟩] w (Tells (fun g nn ss=>solL (E g nn ss) (O g nn ss)) g w):=by
  refine run_look_relation_solved _ _ _ _ _ _ _ _ _ _ _ _ _ _ _ _ _ w _ (newC_i (St.all w) fun k1 w1 h=>?_)
  have g01:Gr w w1:=h.gone1
  have r1:rowH (hp w1) (aM k1) _:=rdCel 0 h.l
  clear h
  refine gbox (hg.mono g01) fun k2 w2 g12 hg2 B=>?_
  have g02:Gr w w2:=g01.trans g12
  refine ⟨_,_,r1.cell g12 (j:=0) rfl,_,_,_,_,_,_,_,_,_,_,_,_,_,B.row (sub.refl _),ifT_iff.2 ⟨hf1,(C1 w2 g02).mono ?_⟩⟩
  rintro _ w3 ⟨ss,ask,int,f,nn,o,c,ds,rfl,hR,hn,hds,h⟩
  have g23:Gr w2 w3:=rdH 2 h.l
  have g03:=g02.trans g23
  refine ⟨_,_,_,_,rfl,br_intro (fun h1=>?_) fun h1=>?_⟩
  · have h1:f≠0:=by simpa using h1
    have hz:=hR.nil h1
    subst hz
    refine ⟨[],ask,int,f,nn,none,0,[],rfl,hR,hn,?_,own_nil 1 ((St.flat (M:=[])).2 (St.here g03))⟩
    show [] = solL (E g nn []) (O g nn [])
    rw [hE.nil,hO.nil]; rfl
  have h1:f = 0:=by simpa using h1
  subst h1
  obtain ⟨hc,hA⟩:=hR.aut rfl
  have hnn:=hn rfl
  have rO:=rdLq h
  rw [hds] at rO
  have hdl:ds.length = (TrL g ss).length:=by have:=congrArg List.length hds; rw [List.length_map,hO.ln] at this; exact this
  have hnl:=trl_le hc hA
  clear h
  refine ⟨_,_,r1.cell (g12.trans g23) (j:=1) rfl,_,_,_,_,_,_,_,_,_,_,_,_,_,B.row g23,ifT_iff.2 ⟨hf2,(C2 w3 g03).mono ?_⟩⟩
  rintro _ w4 ⟨ss2,ask2,int2,f2',nn2,o2,c2,ds2,rfl,hR2,hn2,hds2,h⟩
  have g34:Gr w3 w4:=rdH 2 h.l
  have g04:=g03.trans g34
  obtain ⟨ef,hes⟩ : f2' = 0∧esOf ss = esOf ss2:=by
    obtain ⟨e1,e2,_⟩:=hR.one hR2
    exact ⟨by omega,e2⟩
  subst ef
  have en:=(hn2 rfl).inj hnn
  subst en
  rw [← hE.es hes] at hds2
  have rE2:=rdLq h
  rw [hds2] at rE2
  have hdl2:ds2.length = (TrL g ss).length:=by have:=congrArg List.length hds2; rw [List.length_map,hE.ln] at this; exact this
  clear h
  obtain ⟨q1,q2⟩:=hEb (nn:=nn2) hc hA
  have q3:=hOb (nn:=nn2) hc hA
  refine ⟨_,_,_,_,rfl,br_intro (fun h1=>by simp at h1) fun _=>?_⟩
  refine (d_Solve rE2 (rO.mono g34) (rdV.mono g04 ht) (fun l hl=>by have:=q2 l hl; omega) (fun l hl=>by have:=(q3 l hl).1; omega) (by omega) (by omega)).mono ?_
  have hok:solOk (E g nn2 ss) (O g nn2 ss) = true:=by
    unfold solOk
    rw [q1,hO.ln,hE.ln,Bool.true_and]
    simp only [beq_self_eq_true,Bool.true_and,List.all_eq_true]
    exact fun l hl=>memB_iff.2 (q3 l hl).2
  rintro _ w5 (⟨h1,_⟩ | ⟨_,bo,ps,hps,rfl,h⟩)
  · rw [hok] at h1; cases h1
  have hpl:ps.length = ds2.length:=by rw [hps.1,hE.ln,hdl2]
  refine ⟨_,_,_,_,rfl,ss,ask,int,0,nn2,some ⟨bo,0,none⟩,ds2.length,ps,by rw [hpl],hR,hn,SolsP.rows hps,?_⟩
  rw [hpl]
  exact St.on2 h (has_i g04)
end Go.Proofs.YtngdohpikfcifaaGreatDoor
set_option linter.unusedVariables false
set_option maxRecDepth 4000
namespace Go.Proofs.YtngdohpikfcifaaGreatDoor
open Go.V
variable {w:World} {L:List Asn} {g:GramT} {x:GA}
theorem y_relations:Run Tryz.prog n_look_relations [] w fun v w'=>∃ k:Nat,v = .slice (some (aM k)) 2 2∧St w' (cel k [.func (.func n_trans_Direct) #[] #[],.func (.func n_relate_Reads) #[] #[],.func (.func n_look_Reading) #[] #[],.func (.func n_relate_Includes) #[] #[]] :: all w) :=
  run_look_relations w _ (newC_i (St.all w) fun k1 w1 h=>⟨k1,rfl,h⟩)
theorem t_Direct (hg:gR (hp w) g x) (hb:okG g):Run Tryz.prog n_trans_Direct [.agg ⟨x.cells⟩] w (Tells (fun g _ ss=>DirL g ss) g w):=by
  refine (y_trDirect hg hb).mono ?_
  rintro _ w1 ⟨ss,ask,int,f,o,c,ds,rfl,hR,hds,h⟩
  by_cases hf:f = 0
  · obtain ⟨nn,hn⟩:=nn_ex (hR.aut hf).1
    exact ⟨ss,ask,int,f,nn,o,c,ds,rfl,hR,fun _=>hn,hds,h⟩
  · exact ⟨ss,ask,int,f,[],o,c,ds,rfl,hR,fun h=>absurd h hf,hds,h⟩
theorem t_Reads (hg:gR (hp w) g x) (hb:okG g) (ht:tabA (hp w)):Run Tryz.prog n_relate_Reads [.agg ⟨x.cells⟩] w (Tells RdsL g w):=y_Reads hg hb ht
theorem t_Includes (hg:gR (hp w) g x) (hb:okG g) (ht:tabA (hp w)):Run Tryz.prog n_relate_Includes [.agg ⟨x.cells⟩] w (Tells IncL g w):=y_Includes hg hb ht
set_option maxHeartbeats 1000000 in
theorem t_Reading (hg:gR (hp w) g x) (hb:okG g) (ht:tabA (hp w)):Run Tryz.prog n_look_Reading [.agg ⟨x.cells⟩] w (Tells RgL g w):=by
  refine run_look_Reading _ _ _ _ _ _ _ _ _ _ _ _ _ w _ (gbox hg fun k1 w1 gw hg1 B=>?_)
  intro w2 hd
  have g12:Gr w1 w2:=Gr.of_eq (drawn_hp hd)
  refine ⟨fun u=>Gr w1 u,g12,_,_,_,_,_,_,_,_,_,_,_,_,_,fun u g=>B.row g,y_relations.mono ?_⟩
  rintro _ w3 ⟨k,rfl,h⟩
  have g23:Gr w2 w3:=rdH 1 h.l
  have g13:=g12.trans g23
  have r:rowH (hp w3) (aM k) _:=rdCel 0 h.l
  clear h
  have gw3:Gr w w3:=sub.trans gw g13
  refine ⟨_,_,_,rfl,fun u=>Gr w3 u,Gr.refl _,fun u g=>g13.trans g,idx_n (i:=0) rfl (by decide) ⟨_,_,_,_,fun u g=>(r.part 0 2).at g rfl,?_⟩⟩
  refine (y_lksolved rf_rds rf_dir rfl rfl (hg1.mono g13) (rdV.mono gw3 ht) (fun u g=>t_Direct (hg1.mono (g13.trans g)) hb) (fun u g=>t_Reads (hg1.mono (g13.trans g)) hb (rdV.mono (sub.trans gw3 g) ht)) (fun hc hA l hl=>?_) fun hc hA=>⟨right_row,fun l hl=>?_⟩).mono ?_
  · obtain ⟨h1,_,h2⟩:=dir_mem hc hA hl
    obtain ⟨hT,_⟩:=hc.sizes
    exact ⟨by omega,fun z hz=>by have:=h2 z hz; omega⟩
  · unfold RdsL at hl
    obtain ⟨j,_,rfl⟩:=List.mem_map.1 hl
    exact Nat.le_trans (rowF_len _ _) (trl_le hc hA)
  · rintro _ w4 ⟨ss,ask,int,f,nn,o,c,ds,rfl,hR,hn,hds,h⟩
    exact ⟨_,_,_,_,rfl,rdH 2 h.l,ss,ask,int,f,nn,o,c,ds,rfl,hR,hn,hds,St.on2 h (has_i gw3)⟩
set_option maxHeartbeats 1000000 in
theorem t_Following (hg:gR (hp w) g x) (hb:okG g) (ht:tabA (hp w)):Run Tryz.prog n_look_Following [.agg ⟨x.cells⟩] w (Tells FgL g w):=by
  refine run_look_Following _ _ _ _ _ _ _ _ _ _ _ _ _ w _ (gbox hg fun k1 w1 gw hg1 B=>?_)
  intro w2 hd
  have g12:Gr w1 w2:=Gr.of_eq (drawn_hp hd)
  refine ⟨fun u=>Gr w1 u,g12,_,_,_,_,_,_,_,_,_,_,_,_,_,fun u g=>B.row g,y_relations.mono ?_⟩
  rintro _ w3 ⟨k,rfl,h⟩
  have g23:Gr w2 w3:=rdH 1 h.l
  have g13:=g12.trans g23
  have r:rowH (hp w3) (aM k) _:=rdCel 0 h.l
  clear h
  have gw3:Gr w w3:=sub.trans gw g13
  refine ⟨_,_,_,rfl,fun u=>Gr w3 u,Gr.refl _,fun u g=>g13.trans g,idx_n (i:=1) rfl (by decide) ⟨_,_,_,_,fun u g=>(r.part 1 2).at g rfl,?_⟩⟩
  refine (y_lksolved rf_inc rf_rg rfl rfl (hg1.mono g13) (rdV.mono gw3 ht) (fun u g=>t_Reading (hg1.mono (g13.trans g)) hb (rdV.mono (sub.trans gw3 g) ht)) (fun u g=>t_Includes (hg1.mono (g13.trans g)) hb (rdV.mono (sub.trans gw3 g) ht)) (fun hc hA l hl=>?_) fun hc hA=>⟨right_row,fun l hl=>?_⟩).mono ?_
  · obtain ⟨h1,_,h2⟩:=sol_mem hl
    exact ⟨by omega,h2⟩
  · unfold IncL at hl
    obtain ⟨j,_,rfl⟩:=List.mem_map.1 hl
    exact Nat.le_trans (rowF_len _ _) (trl_le hc hA)
  · rintro _ w4 ⟨ss,ask,int,f,nn,o,c,ds,rfl,hR,hn,hds,h⟩
    exact ⟨_,_,_,_,rfl,rdH 2 h.l,ss,ask,int,f,nn,o,c,ds,rfl,hR,hn,hds,St.on2 h (has_i gw3)⟩
end Go.Proofs.YtngdohpikfcifaaGreatDoor
set_option linter.unusedVariables false
set_option maxRecDepth 4000
namespace Go.V
open Go.Proofs.YtngdohpikfcifaaGreatDoor
section
variable {g:GramT} {nn:List Bool} {ss:List SQ}
theorem bks_mem {b:BackT} (h:b∈BksL g ss):∃ q m:Nat,q < ss.length∧m < g.prods.length∧b = ⟨(q:Int),(m:Int),rowF (TrL g ss).length (backB g ss q m)⟩∧rowF (TrL g ss).length (backB g ss q m)≠[]:=by
  unfold BksL at h
  obtain ⟨q,hq,h⟩:=List.mem_flatMap.1 h
  unfold bkRow at h
  obtain ⟨m,hm,h⟩:=List.mem_flatMap.1 h
  unfold bkAt at h
  split at h
  · simp at h
  · rename_i hne
    rw [List.mem_singleton] at h
    exact ⟨q,m,List.mem_range.1 hq,List.mem_range.1 hm,h,hne⟩
theorem bks_tr {b:BackT} (h:b∈BksL g ss) {t:Int} (ht:t∈b.tr):∃ j:Nat,t = j∧j < (TrL g ss).length:=by
  obtain ⟨q,m,_,_,rfl,_⟩:=bks_mem h
  obtain ⟨j,rfl,h1,_⟩:=rowF_mem.1 ht
  exact ⟨j,rfl,h1⟩
theorem bks_len (hc:ClosedP g) (hA:AutI g ss):(BksL g ss).length≤24832∧∀ b∈BksL g ss,b.tr.length≤33280:=by
  refine ⟨?_,fun b hb=>?_⟩
  · have h1:=BksN_len g ss ss.length
    have h256:=hA.dn.2.1
    obtain ⟨sT,sN,sP,_⟩:=hc.sizes
    have h2:ss.length * g.prods.length≤256 * 97:=Nat.mul_le_mul h256 sP
    show (BksN g ss ss.length).length≤_
    omega
  · obtain ⟨q,m,_,_,rfl,_⟩:=bks_mem hb
    exact Nat.le_trans (rowF_len _ _) (trl_le hc hA)
def toLk (b:BkQ):LookT:=⟨b.1.1,b.1.2,b.2.2⟩
def LkB (g:GramT) (fs:List (List Int)) (tr:List Int) (B:List Bool):Prop:=B.length = g.T∧∀ y,fnB B y = true↔y < g.T∧∃ t∈tr,(y:Int)∈fs.getD t.toNat []
theorem LkB.nil (hT:g.T≤1024) (fs:List (List Int)):LkB g fs [] (ofB (g.T:Int) []):=by
  have e:ofN (g.T:Int) = g.T:=ofN_nat hT
  refine ⟨by rw [ofB_len,e],fun y=>?_⟩
  unfold ofB
  rw [fnB_add]; unfold addS
  rw [fnB_rep]; simp
theorem LkB.snoc {fs:List (List Int)} {tr row:List Int} {t:Int} {B:List Bool} (h:LkB g fs tr B) (hr:fs.getD t.toNat [] = row):LkB g fs (tr ++ [t]) (addB B row):=by
  refine ⟨by rw [addB_len]; exact h.1,fun y=>?_⟩
  rw [fnB_add]; unfold addS
  rw [Bool.or_eq_true,Bool.and_eq_true,decide_eq_true_eq,h.2,h.1,List.contains_iff_mem]
  constructor
  · rintro (⟨h1,t',h2,h3⟩ | ⟨h1,h2⟩)
    · exact ⟨h1,t',by simp [h2],h3⟩
    · exact ⟨h1,t,by simp,by rw [hr]; exact h2⟩
  · rintro ⟨h1,t',h2,h3⟩
    rcases List.mem_append.1 h2 with h2 | h2
    · exact .inl ⟨h1,t',h2,h3⟩
    · rw [List.mem_singleton] at h2
      subst h2
      exact .inr ⟨h1,by rw [← hr]; exact h3⟩
open Classical in
theorem LkB.row {fs:List (List Int)} {b:BackT} {B:List Bool} (h:LkB g fs b.tr B):lookOf g fs b = ⟨b.st,b.prod,mbI B⟩:=by
  unfold lookOf
  rw [mbI_row,h.1]
  congr 1
  refine rowF_congr fun k hk=>?_
  have:=h.2 k
  cases hb:fnB B k with
  | true=>rw [hb] at this; exact decide_eq_true (this.1 rfl).2
  | false=>rw [hb] at this; exact decide_eq_false fun hh=>by have:=this.2 ⟨hk,hh⟩; cases this
theorem LooksL_len:(LooksL g nn ss).length = (BksL g ss).length:=by unfold LooksL; simp
end
end Go.V
namespace Go.Proofs.YtngdohpikfcifaaGreatDoor
open Go.V
variable {w:World} {L:List Asn} {g:GramT} {x:GA}
set_option maxHeartbeats 4000000 in
theorem t_Sets (hg:gR (hp w) g x) (hb:okG g) (ht:tabA (hp w)):Run Tryz.prog n_look_Sets [.agg ⟨x.cells⟩] w fun v w'=>∃ (ss:List SQ) (ask int f:Int) (nn:List Bool) (o:Option Addr) (c:Nat) (ds:List BkQ),v = .tuple #[.slice o ds.length c,.int .i64 f]∧Res g ss ask int f∧(f = 0→NnP g nn)∧ds.map toLk = LooksL g nn ss∧St w' (own 3 o ds.length c (bkV ds) :: sta (bkO ds) :: all w):=by
  refine run_look_Sets _ _ _ _ _ _ _ _ _ _ _ _ _ w _ (gbox hg fun k1 w1 gw hg1 B=>?_)
  have zero:∀ {ss:List SQ} {ask int f:Int} {w' : World},Res g ss ask int f→f≠0→Gr w w'→∃ (ss:List SQ) (ask int f' : Int) (nn:List Bool) (o:Option Addr) (c:Nat) (ds:List BkQ),(.tuple #[.slice none 0 0,.int .i64 f] : Value) = .tuple #[.slice o ds.length c,.int .i64 f']∧Res g ss ask int f'∧(f' = 0→NnP g nn)∧ds.map toLk = LooksL g nn ss∧St w' (own 3 o ds.length c (bkV ds) :: sta (bkO ds) :: all w):=fun {ss ask int f w'} hR h1 hw=>by
    have hz:=hR.nil h1
    subst hz
    exact ⟨[],ask,int,f,[],none,0,[],rfl,hR,fun h=>absurd h h1,rfl,own_nil 3 ((St.flat (M:=[])).2 (St.here hw))⟩
  refine ⟨_,_,_,_,_,_,_,_,_,_,_,_,_,B.row (sub.refl _),(t_Following hg1 hb (rdV.mono gw ht)).mono ?_⟩
  rintro _ w2 ⟨ss,ask,int,f,nn,o,c,fs,rfl,hR,hn,hfs,h⟩
  have g12:Gr w1 w2:=rdH 2 h.l
  refine ⟨_,_,_,_,rfl,br_intro (fun h1=>zero hR (by simpa using h1) (gw.trans g12)) fun h1=>?_⟩
  have h1:f = 0:=by simpa using h1
  subst h1
  obtain ⟨hc,hA⟩:=hR.aut rfl
  have hnn:=hn rfl
  have rF:=rdLq h
  rw [hfs] at rF
  have hfl:fs.length = (TrL g ss).length:=by have:=congrArg List.length hfs; rw [List.length_map,FgL_len] at this; exact this
  rw [hfl] at rF ⊢
  have hnl:=trl_le hc hA
  clear h hfs
  refine ⟨_,_,_,_,_,_,_,_,_,_,_,_,_,B.row g12,(y_Lookback (hg1.mono g12) hb (rdV.mono (gw.trans g12) ht)).mono ?_⟩
  rintro _ w3 ⟨ss2,ask2,int2,f2,o2,c2,ds2,rfl,hR2,hds2,h⟩
  have g23:Gr w2 w3:=rdH 2 h.l
  obtain ⟨_,hes,_,_,ef,_⟩:=hR.one hR2
  subst ef
  rw [← BksL_es hes] at hds2
  have rB:=rdBk h
  rw [hds2] at rB
  have hdl:ds2.length = (BksL g ss).length:=by have:=congrArg List.length hds2; rw [List.length_map] at this; exact this
  rw [hdl] at rB ⊢
  clear h hds2
  obtain ⟨hbl,htl⟩:=bks_len hc hA
  obtain ⟨sT,_⟩:=hc.sizes
  have g13:=g12.trans g23
  have gw3:Gr w w3:=gw.trans g13
  have rF:=rF.mono g23
  have tl:=hg.t.1
  refine ⟨_,_,_,_,rfl,br_intro (fun h1=>by simp at h1) fun _=>?_⟩
  refine ⟨fun o n c z w'=>∃ (i:Nat) (bs:List BkQ),z = i∧i≤(BksL g ss).length∧n = bs.length∧bs.map toLk = ((BksL g ss).take i).map (lookOf g (FgL g nn ss))∧St w' (own 3 o n c (bkV bs) :: sta (bkO bs) :: all w3),fun _ _ _ z _=>(BksL g ss).length - z.toNat,
    ⟨0,[],rfl,Nat.zero_le _,rfl,rfl,own_nil 3 ((St.flat (M:=[])).2 (St.all w3))⟩,?_⟩
  rintro _ o4 _ c4 _ w4 ⟨i,bs,rfl,hi,rfl,hbs,h⟩
  have s34:sub (hp w3) (hp w4):=rdH 2 h.l
  have hbsl:bs.length = i:=by have:=congrArg List.length hbs; rw [List.length_map,List.length_map,List.length_take] at this; omega
  refine br_intro (fun h1=>?_) fun h1=>?_
  rotate_left
  · have h1:i = (BksL g ss).length:=by have:=of_decide_eq_false h1; omega
    rw [h1,List.take_length] at hbs
    refine run_slices_Clip_api_Look_api_Look_ _ _ _ w4 _ (slc_clip (own_le h) ⟨_,_,_,rfl,ss,ask,int,0,nn,_,_,bs,rfl,hR,hn,hbs,?_⟩)
    have h:=own_clip h
    exact St.on2 h (has_i gw3)
  have h1:i < (BksL g ss).length:=by have:=of_decide_eq_true h1; omega
  obtain ⟨b,ad,ta,tc,hb1,rfl,rb,rt⟩:=rdBk_get rB h1
  have hbm:=List.mem_of_getElem? hb1
  have htb:=htl b hbm
  refine idx_n rfl h1 ⟨_,_,_,_,_,rb.at s34 rfl,newC_i h fun kb w5 h=>stR_i h rfl (by simp [oneC]) fun w6 h=>?_⟩
  have s36:sub (hp w3) (hp w6):=rdH 3 h.l
  refine ⟨_,_,_,B.c0 (sub.trans g13 s36),?_⟩
  rw [← tl]
  refine (s_Of (xs:=[]) (l:=0) (a:=none) (g.T:Int) rdS.nil (by omega)).mono ?_
  rintro _ w7 ⟨kp,rfl,h7⟩
  have h:=h7.on1 h
  clear h7
  refine ⟨_,rfl,_,_,_,(rdCel 1 h.l).cell (sub.refl _) (j:=2) rfl,fun z w'=>∃ (k:Nat) (Bs:List Bool),z = k∧k≤b.tr.length∧LkB g (FgL g nn ss) (b.tr.take k) Bs∧St w' (setO (some ⟨kp,0,none⟩) Bs :: cel kb [.int .i64 b.st,.int .i64 b.prod,.slice ta b.tr.length tc] :: own 3 o4 bs.length c4 (bkV bs) :: sta (bkO bs) :: all w3),fun z _=>b.tr.length - z.toNat,
    ⟨0,_,rfl,Nat.zero_le _,LkB.nil (by omega) _,h⟩,?_⟩
  clear h
  rintro _ _ w8 ⟨k,Bs,rfl,hk,hB,h⟩
  have s38:sub (hp w3) (hp w8):=rdH 4 h.l
  refine br_intro (fun h2=>?_) fun h2=>?_
  · have h2:k < b.tr.length:=by have:=of_decide_eq_true h2; omega
    obtain ⟨t,tad,ht1,hta,ht2⟩:=rt.get1 h2
    obtain ⟨j,rfl,hj⟩:=bks_tr hbm (List.mem_of_getElem? ht1)
    obtain ⟨row,rad,ra,rc,hr1,rfl,hr2,hr3⟩:=rdLq_row rF hj
    have hrl:=(sol_mem (es:=IncL g nn ss) (ow:=RgL g nn ss) (List.mem_of_getElem? hr1)).1
    refine idx_i hta h2 ⟨_,ht2 _ s38,idx_i rfl hj ⟨_,_,_,hr2 _ s38,(s_Add h (fun hh hl=>hr3.mono (rdH 3 hl)) (by omega)).mono ?_⟩⟩
    rintro _ w9 ⟨rfl,h⟩
    refine ⟨_,rfl,⟨by omega,by omega⟩,⟨k + 1,_,by simp,h2,?_,h⟩,msr h2⟩
    rw [take_succ_get ht1]
    exact hB.snoc (by rw [Int.toNat_natCast,List.getD_eq_getElem?_getD,hr1]; rfl)
  have h2:k = b.tr.length:=by have:=of_decide_eq_false h2; omega
  rw [h2,List.take_length] at hB
  intro w10 hd
  have h:=h.eq (drawn_hp hd)
  have rk:rowH (hp w10) (aM kb) _:=rdCel 1 h.l
  have hset:setR (hp w10) (some ⟨kp,0,none⟩) Bs:=by
    obtain ⟨g1,g2,_,s1,_,ha,_⟩:=h
    exact (setO_R ha).mono s1
  refine ⟨fun u=>rowH (hp u) (aM kb) [.int .i64 b.st,.int .i64 b.prod,.slice ta b.tr.length tc],rk,_,fun u r=>r.cell0 (sub.refl _),_,fun u r=>r.cell (sub.refl _) (j:=1) rfl,(s_Members hset (rdV.mono (sub.trans gw3 (rdH 4 h.l)) ht)).mono ?_⟩
  rintro _ w13 ⟨a',c',rfl,h13⟩
  have h:=h13.on1 h
  clear h13
  refine ⟨_,_,_,rfl,rdCel 2 h.l,newC_i h fun kn w14 h=>⟨rdCel 3 h.l,?_⟩⟩
  refine (app_one (us:=bkV bs) tyOk (rfl:kdOfT Ty _ = .slice _) (rfl:kdOfT Ty _ = .slice _) rfl rfl rfl (h.pick 6 [0,4,1,2,3,5]) rfl (by simp [oneC]) (by show (bs.length + 1) * 40≤_; omega) (by omega)).mono ?_
  rintro _ w15 ⟨o',c5,rfl,h⟩
  refine ⟨_,_,_,rfl,rdCel 4 h.l,⟨by omega,by omega⟩,⟨i + 1,bs ++ [((b.st,b.prod),((a',c'),mbI Bs))],by simp,h1,by simp,?_,?_⟩,msr h1⟩
  · rw [List.map_append,hbs,List.take_add_one,hb1,List.map_append]
    show _ ++ [(⟨b.st,b.prod,mbI Bs⟩ : LookT)] = _ ++ [lookOf g (FgL g nn ss) b]
    rw [hB.row]
  · have e1:bkV (bs ++ [((b.st,b.prod),((a',c'),mbI Bs))]) = bkV bs ++ [.int .i64 b.st,.int .i64 b.prod,.slice a' (cntB Bs) c']:=by
      rw [bkV_app]
      unfold bkV bkE slQ
      simp [mbI_len]
    have e2:bkO (bs ++ [((b.st,b.prod),((a',c'),mbI Bs))]) = bkO bs ++ [own 1 a' (cntB Bs) c' (iv (mbI Bs))]:=by
      unfold bkO owQ
      simp [mbI_len]
    rw [e1,e2]
    have h:=St.snoc (h.pick 6 [2,5,0,1,3,4])
    exact h.pick 6 [1,0,5]
end Go.Proofs.YtngdohpikfcifaaGreatDoor
set_option linter.unusedVariables false
namespace Go.Proofs.YtngdohpikfcifaaGreatDoor
open Go.V
abbrev n_presagelaw13_LookWithin:FuncId:=5
def ann_presagelaw13_LookWithin:Ann:={ rngs:=[],loops:=[(9,[(9,(.one .bool))]),(12,[(9,(.one .bool)),(10,(.one (.int .i64)))]),(16,[(9,(.one .bool)),(12,(.one (.int .i64)))]),(27,[(17,(.one (.int .i64)))])],joins:=[(5,[(36,(.one .bool))]),(30,[(170,(.one .bool))])],blocks:=[] }
set_option maxRecDepth 100000 in
def vc_presagelaw13_LookWithin (a:Option Addr) (b c:Nat) (d:Option Addr) (e f:Nat) (g:Option Addr) (i j:Nat) (k:Int) (l:Option Addr) (m n:Nat) (w:World) (R:Value→WP):Prop :=  new w (oC [vS a b c,vS d e f,vS g i j,iI k,vS l m n] 27) fun k1 w1=>RunE Proofs.Tryz.prog Ev 7 [] w1 fun v1 w2=>∃ b1,v1 = vB b1∧∃ o1 k2 k3 o2 k4 k5 o3 k6 k7 n1 o4 k8 k9,V.rowAt w2 (aM k1) 0 5 = some [vS o1 k2 k3,vS o2 k4 k5,vS o3 k6 k7,iI n1,vS o4 k8 k9]∧RunE Proofs.Tryz.prog Ev 19 [vA (Array.mk [vS o1 k2 k3,vS o2 k4 k5,vS o3 k6 k7,iI n1,vS o4 k8 k9])] w2 fun v2 w3=>∃ o5 k10 k11 n2,v2 = vT (Array.mk [vS o5 k10 k11,iI n2])∧∃ o6 k12 k13 o7 k14 k15 o8 k16 k17 n3 o9 k18 k19,V.rowAt w3 (aM k1) 0 5 = some [vS o6 k12 k13,vS o7 k14 k15,vS o8 k16 k17,iI n3,vS o9 k18 k19]∧RunE Proofs.Tryz.prog Ev 24 [vA (Array.mk [vS o6 k12 k13,vS o7 k14 k15,vS o8 k16 k17,iI n3,vS o9 k18 k19])] w3 fun v3 w4=>∃ o10 k20 k21 n4,v3 = vT (Array.mk [vS o10 k20 k21,iI n4])∧∃ (x1:lP [(36,shB)]),br (n2 != 0) (x1 true w4) (x1 (n4 != 0) w4)∧∀ (I1:Nat→Value) (b2:Bool) (w5:World),x1 b2 w5→br b2 (br b1 (br ((↑k10:Int) == 0) (R (vB (n2 != 0)) w5) (R (vB false) w5)) (R (vB false) w5)) (∃ o11 k22 k23 o12 k24 k25 o13 k26 k27 n5 o14 k28 k29,V.rowAt w5 (aM k1) 0 5 = some [vS o11 k22 k23,vS o12 k24 k25,vS o13 k26 k27,iI n5,vS o14 k28 k29]∧RunE Proofs.Tryz.prog Ev 25 [vA (Array.mk [vS o11 k22 k23,vS o12 k24 k25,vS o13 k26 k27,iI n5,vS o14 k28 k29])] w5 fun v4 w6=>∃ n6,v4 = iI n6∧mkOk n6 n6 24∧new w6 (Obj.cells (Array.mk (reps (Int.toNat n6) [vS none 0 0])) 24) fun k30 w7=>∃ o15 k31 k32,World.cell? w7 (aM k1) = some (vS o15 k31 k32)∧new w7 (oC [iI 0] 3) fun k33 w8=>idx (some (aM k30)) (Int.toNat n6) (↑k31:Int) 1 fun a1=>st1 w8 a1 (vS (some (aM k33)) 1 1) fun w9=>∃ (x2:lP [(9,shB)]),∃ (x3:lN [(9,shB)]),x2 true w9∧∀ (I2:Nat→Value) (b3:Bool) (w10:World),x2 b3 w10→br b3 (∃ (x4:lP [(9,shB),(10,shI)]),∃ (x5:lN [(9,shB),(10,shI)]),x4 false 0 w10∧∀ (I3:Nat→Value) (b4:Bool) (n7:Int) (w11:World),x4 b4 n7 w11→∃ o16 k34 k35,World.cell? w11 (Addr.add (aM k1) 4) = some (vS o16 k34 k35)∧br (decide (n7 < (↑k34:Int))) (∃ o17 k36 k37,World.cell? w11 (Addr.add (aM k1) 4) = some (vS o17 k36 k37)∧idx o17 k36 n7 3 fun a2=>∃ o18 k38 k39,World.cell? w11 (Addr.add a2 1) = some (vS o18 k38 k39)∧∃ (x6:lP [(9,shB),(12,shI)]),∃ (x7:lN [(9,shB),(12,shI)]),x6 b4 0 w11∧∀ (I4:Nat→Value) (b5:Bool) (n8:Int) (w12:World),x6 b5 n8 w12→br (decide (n8 < (↑k38:Int))) (∀ w13,drawn w12 w13→∃ (I5:World→Prop),I5 w13∧∃ o19 k40 k41 o20 k42 k43 o21 k44 k45 n9 o22 k46 k47,(∀ w14,I5 w14→V.rowAt w14 (aM k1) 0 5 = some [vS o19 k40 k41,vS o20 k42 k43,vS o21 k44 k45,iI n9,vS o22 k46 k47])∧inI (n8 + 1)∧slc o18 k38 k39 (some (n8 + 1)) none none 1 fun (o23:Option Addr) (k48 k49:Nat)=>RunE Proofs.Tryz.prog Ev 26 [vA (Array.mk [vS o19 k40 k41,vS o20 k42 k43,vS o21 k44 k45,iI n9,vS o22 k46 k47]),vS o23 k48 k49] w13 fun v5 w15=>∃ o24 k50 k51 b6 n10,v5 = vT (Array.mk [vS o24 k50 k51,vB b6,iI n10])∧I5 w15∧br (n10 != 0) (R (vB false) w15) (idx o18 k38 n8 1 fun a3=>∃ n11,World.cell? w15 a3 = some (iI n11)∧idx (some (aM k30)) (Int.toNat n6) n11 1 fun a4=>∃ o25 k52 k53,World.cell? w15 a4 = some (vS o25 k52 k53)∧∀ w16,drawn w15 w16→∃ (I6:World→Prop),I6 w16∧idx o18 k38 n8 1 fun a5=>∃ n12,(∀ w17,I6 w17→World.cell? w17 a5 = some (iI n12))∧idx o18 k38 n8 1 fun a6=>∃ n13,(∀ w18,I6 w18→World.cell? w18 a6 = some (iI n13))∧idx (some (aM k30)) (Int.toNat n6) n13 1 fun a7=>∃ o26 k54 k55,(∀ w19,I6 w19→World.cell? w19 a7 = some (vS o26 k54 k55))∧RunE Proofs.Tryz.prog Ev 22 [vS o26 k54 k55,vS o24 k50 k51] w16 fun v6 w20=>∃ o27 k56 k57,v6 = vS o27 k56 k57∧I6 w20∧idx (some (aM k30)) (Int.toNat n6) n12 1 fun a8=>st1 w20 a8 (vS o27 k56 k57) fun w21=>br b6 (∀ w22,drawn w21 w22→∃ (I7:World→Prop),I7 w22∧idx o18 k38 n8 1 fun a9=>∃ n14,(∀ w23,I7 w23→World.cell? w23 a9 = some (iI n14))∧idx o18 k38 n8 1 fun a10=>∃ n15,(∀ w24,I7 w24→World.cell? w24 a10 = some (iI n15))∧idx (some (aM k30)) (Int.toNat n6) n15 1 fun a11=>∃ o28 k58 k59,(∀ w25,I7 w25→World.cell? w25 a11 = some (vS o28 k58 k59))∧∃ o29 k60 k61,(∀ w26,I7 w26→World.cell? w26 (Addr.add (aM k1) 4) = some (vS o29 k60 k61))∧idx o29 k60 n7 3 fun a12=>∃ n16,(∀ w27,I7 w27→World.cell? w27 a12 = some (iI n16))∧idx (some (aM k30)) (Int.toNat n6) n16 1 fun a13=>∃ o30 k62 k63,(∀ w28,I7 w28→World.cell? w28 a13 = some (vS o30 k62 k63))∧RunE Proofs.Tryz.prog Ev 22 [vS o28 k58 k59,vS o30 k62 k63] w22 fun v7 w29=>∃ o31 k64 k65,v7 = vS o31 k64 k65∧I7 w29∧idx (some (aM k30)) (Int.toNat n6) n14 1 fun a14=>st1 w29 a14 (vS o31 k64 k65) fun w30=>br b5 (inI (n8 + 1)∧x6 true (n8 + 1) w30∧x7 true (n8 + 1) w30 < x7 b5 n8 w12) (idx o18 k38 n8 1 fun a15=>∃ n17,World.cell? w30 a15 = some (iI n17)∧idx (some (aM k30)) (Int.toNat n6) n17 1 fun a16=>∃ o32 k66 k67,World.cell? w30 a16 = some (vS o32 k66 k67)∧inI (n8 + 1)∧x6 (decide ((↑k52:Int) < (↑k66:Int))) (n8 + 1) w30∧x7 (decide ((↑k52:Int) < (↑k66:Int))) (n8 + 1) w30 < x7 b5 n8 w12)) (br b5 (inI (n8 + 1)∧x6 true (n8 + 1) w21∧x7 true (n8 + 1) w21 < x7 b5 n8 w12) (idx o18 k38 n8 1 fun a17=>∃ n18,World.cell? w21 a17 = some (iI n18)∧idx (some (aM k30)) (Int.toNat n6) n18 1 fun a18=>∃ o33 k68 k69,World.cell? w21 a18 = some (vS o33 k68 k69)∧inI (n8 + 1)∧x6 (decide ((↑k52:Int) < (↑k68:Int))) (n8 + 1) w21∧x7 (decide ((↑k52:Int) < (↑k68:Int))) (n8 + 1) w21 < x7 b5 n8 w12)))) (inI (n7 + 1)∧x4 b5 (n7 + 1) w12∧x5 b5 (n7 + 1) w12 < x5 b4 n7 w11)) (x2 b4 w11∧x3 b4 w11 < x3 b3 w10)) (∃ (x8:lP [(17,shI)]),∃ (x9:lN [(17,shI)]),x8 0 w10∧∀ (I8:Nat→Value) (n19:Int) (w31:World),x8 n19 w31→br (decide (n19 < (↑k10:Int))) (∃ (x10:lP [(170,shB)]),(∀ w32,drawn w31 w32→∃ (I9:World→Prop),I9 w32∧idx o5 k10 n19 3 fun a19=>∃ n20,(∀ w33,I9 w33→World.cell? w33 (Addr.add a19 1) = some (iI n20))∧br (decide (n20 < 1)) (x10 true w32) (idx o5 k10 n19 3 fun a20=>∃ n21,(∀ w34,I9 w34→World.cell? w34 (Addr.add a20 1) = some (iI n21))∧∃ o34 k70 k71,(∀ w35,I9 w35→World.cell? w35 (Addr.add (aM k1) 4) = some (vS o34 k70 k71))∧x10 (decide ((↑k70:Int)≤n21)) w32))∧∀ (I10:Nat→Value) (b7:Bool) (w36:World),x10 b7 w36→br b7 (R (vB false) w36) (∀ w37,drawn w36 w37→∃ (I11:World→Prop),I11 w37∧∃ o35 k72 k73,(∀ w38,I11 w38→World.cell? w38 (Addr.add (aM k1) 4) = some (vS o35 k72 k73))∧idx o5 k10 n19 3 fun a21=>∃ n22,(∀ w39,I11 w39→World.cell? w39 (Addr.add a21 1) = some (iI n22))∧idx o35 k72 n22 3 fun a22=>∃ n23,(∀ w40,I11 w40→World.cell? w40 a22 = some (iI n23))∧idx (some (aM k30)) (Int.toNat n6) n23 1 fun a23=>∃ o36 k74 k75,(∀ w41,I11 w41→World.cell? w41 a23 = some (vS o36 k74 k75))∧idx o5 k10 n19 3 fun a24=>∃ o37 k76 k77,World.cell? w37 (Addr.add a24 2) = some (vS o37 k76 k77)∧RunE Proofs.Tryz.prog Ev 22 [vS o36 k74 k75,vS o37 k76 k77] w37 fun v8 w42=>∃ o38 k78 k79,v8 = vS o38 k78 k79∧RunE Proofs.Tryz.prog Ev 23 [vS o38 k78 k79,vS o36 k74 k75] w42 fun v9 w43=>∃ b8,v9 = vB b8∧br (!b8) (R (vB false) w43) (inI (n19 + 1)∧x8 (n19 + 1) w43∧x9 (n19 + 1) w43 < x9 n19 w31))) (br b1 (∃ o39 k80 k81,World.cell? w31 (Addr.add (aM k1) 1) = some (vS o39 k80 k81)∧R (vB ((↑k20:Int) == (↑k80:Int))) w31) (R (vB false) w31))))
set_option maxRecDepth 100000 in
theorem run_presagelaw13_LookWithin (a:Option Addr) (b c:Nat) (d:Option Addr) (e f:Nat) (g:Option Addr) (i j:Nat) (k:Int) (l:Option Addr) (m n:Nat) (w:World) (R:Value→WP) (h:vc_presagelaw13_LookWithin a b c d e f g i j k l m n w R):Run Tryz.prog 5 [(.agg #[(.slice a b c),(.slice d e f),(.slice g i j),(.int .i64 k),(.slice l m n)])] w R:=rv Tryz.func5 ann_presagelaw13_LookWithin (by kernel_rfl) h

abbrev n_presagelaw13_awake:FuncId:=7
def ann_presagelaw13_awake:Ann:={ rngs:=[],loops:=[],joins:=[],blocks:=[] }
set_option maxRecDepth 100000 in
def vc_presagelaw13_awake  (w:World) (R:Value→WP):Prop :=  RunE Proofs.Tryz.prog Ev 31 [] w fun v1 w1=>∃ o1 k1 k2 o2 k3 k4 o3 k5 k6 n1 o4 k7 k8,v1 = vA (Array.mk [vS o1 k1 k2,vS o2 k3 k4,vS o3 k5 k6,iI n1,vS o4 k7 k8])∧new w1 (oC [vS none 0 0,vS none 0 0,vS none 0 0,iI 0,vS none 0 0] 27) fun k9 w2=>stR w2 (aM k9) [vS o1 k1 k2,vS o2 k3 k4,vS o3 k5 k6,iI n1,vS o4 k7 k8] fun w3=>∃ o5 k10 k11 o6 k12 k13 o7 k14 k15 n2 o8 k16 k17,V.rowAt w3 (aM k9) 0 5 = some [vS o5 k10 k11,vS o6 k12 k13,vS o7 k14 k15,iI n2,vS o8 k16 k17]∧RunE Proofs.Tryz.prog Ev 11 [vA (Array.mk [vS o5 k10 k11,vS o6 k12 k13,vS o7 k14 k15,iI n2,vS o8 k16 k17])] w3 fun v2 w4=>∃ o9 k18 k19 n3,v2 = vT (Array.mk [vS o9 k18 k19,iI n3])∧∃ o10 k20 k21 o11 k22 k23 o12 k24 k25 n4 o13 k26 k27,V.rowAt w4 (aM k9) 0 5 = some [vS o10 k20 k21,vS o11 k22 k23,vS o12 k24 k25,iI n4,vS o13 k26 k27]∧RunE Proofs.Tryz.prog Ev 12 [vA (Array.mk [vS o10 k20 k21,vS o11 k22 k23,vS o12 k24 k25,iI n4,vS o13 k26 k27])] w4 fun v3 w5=>∃ o14 k28 k29 n5,v3 = vT (Array.mk [vS o14 k28 k29,iI n5])∧∃ o15 k30 k31 o16 k32 k33 o17 k34 k35 n6 o18 k36 k37,V.rowAt w5 (aM k9) 0 5 = some [vS o15 k30 k31,vS o16 k32 k33,vS o17 k34 k35,iI n6,vS o18 k36 k37]∧RunE Proofs.Tryz.prog Ev 19 [vA (Array.mk [vS o15 k30 k31,vS o16 k32 k33,vS o17 k34 k35,iI n6,vS o18 k36 k37])] w5 fun v4 w6=>∃ o19 k38 k39 n7,v4 = vT (Array.mk [vS o19 k38 k39,iI n7])∧br (n3 == 0) (br (n5 == 0) (br (n7 == 0) (br ((↑k18:Int) == 5) (idx o9 k18 2 1 fun a1=>∃ o20 k40 k41,World.cell? w6 a1 = some (vS o20 k40 k41)∧br ((↑k40:Int) == 1) (idx o9 k18 2 1 fun a2=>∃ o21 k42 k43,World.cell? w6 a2 = some (vS o21 k42 k43)∧idx o21 k42 0 1 fun a3=>∃ n8,World.cell? w6 a3 = some (iI n8)∧br (n8 == 2) (br ((↑k28:Int) == 5) (idx o14 k28 4 1 fun a4=>∃ o22 k44 k45,World.cell? w6 a4 = some (vS o22 k44 k45)∧br ((↑k44:Int) == 2) (br ((↑k38:Int) == 6) (idx o19 k38 1 3 fun a5=>∃ o23 k46 k47,World.cell? w6 (Addr.add a5 2) = some (vS o23 k46 k47)∧R (vB ((↑k46:Int) == 2)) w6) (R (vB false) w6)) (R (vB false) w6)) (R (vB false) w6)) (R (vB false) w6)) (R (vB false) w6)) (R (vB false) w6)) (R (vB false) w6)) (R (vB false) w6)) (R (vB false) w6)
set_option maxRecDepth 100000 in
theorem run_presagelaw13_awake  (w:World) (R:Value→WP) (h:vc_presagelaw13_awake  w R):Run Tryz.prog 7 [] w R:=rv Tryz.func7 ann_presagelaw13_awake (by kernel_rfl) h

abbrev n_presagelaw13_both:FuncId:=22
def ann_presagelaw13_both:Ann:={ rngs:=[],loops:=[(3,[(5,(.one .slice)),(6,(.one (.int .i64)))])],joins:=[],blocks:=[] }
set_option maxRecDepth 100000 in
def vc_presagelaw13_both (a:Option Addr) (b c:Nat) (d:Option Addr) (e f:Nat) (w:World) (R:Value→WP):Prop :=  ∃ (x1:lP [(5,shS),(6,shI)]),∃ (x2:lN [(5,shS),(6,shI)]),x1 a b c 0 w∧∀ (I1:Nat→Value) (o1:Option Addr) (k1 k2:Nat) (n1:Int) (w1:World),x1 o1 k1 k2 n1 w1→br (decide (n1 < (↑e:Int))) (idx d e n1 1 fun a1=>∃ n2,World.cell? w1 a1 = some (iI n2)∧RunE Proofs.Tryz.prog Ev 56 [vS o1 k1 k2,iI n2] w1 fun v1 w2=>∃ o2 k3 k4,v1 = vS o2 k3 k4∧inI (n1 + 1)∧x1 o2 k3 k4 (n1 + 1) w2∧x2 o2 k3 k4 (n1 + 1) w2 < x2 o1 k1 k2 n1 w1) (R (vS o1 k1 k2) w1)
set_option maxRecDepth 100000 in
theorem run_presagelaw13_both (a:Option Addr) (b c:Nat) (d:Option Addr) (e f:Nat) (w:World) (R:Value→WP) (h:vc_presagelaw13_both a b c d e f w R):Run Tryz.prog 22 [(.slice a b c),(.slice d e f)] w R:=rv Tryz.func22 ann_presagelaw13_both (by kernel_rfl) h

abbrev n_presagelaw13_small:FuncId:=31
def ann_presagelaw13_small:Ann:={ rngs:=[],loops:=[],joins:=[],blocks:=[] }
set_option maxRecDepth 100000 in
def vc_presagelaw13_small  (w:World) (R:Value→WP):Prop :=  new w (oC [vS none 0 0,vS none 0 0,vS none 0 0,iI 0,vS none 0 0] 27) fun k1 w1=>new w1 (oC [Value.string (ByteArray.mk (Array.mk [])),iI 0,Value.string (ByteArray.mk (Array.mk [120])),iI 0,Value.string (ByteArray.mk (Array.mk [121])),iI 0] 92) fun k2 w2=>new w2 (oC [Value.string (ByteArray.mk (Array.mk [])),Value.string (ByteArray.mk (Array.mk [115])),Value.string (ByteArray.mk (Array.mk [97])),Value.string (ByteArray.mk (Array.mk [98]))] 9) fun k3 w3=>new w3 (oC [iI 4] 3) fun k4 w4=>new w4 (oC [iI 5,iI 4,iI 6] 3) fun k5 w5=>new w5 (oC [iI 1] 3) fun k6 w6=>new w6 (oC [iI 2] 3) fun k7 w7=>new w7 (oC [iI 3,vS (some (aM k4)) 1 1,iI 0,iI 4,vS (some (aM k5)) 3 3,iI 0,iI 4,vS (some (aM k6)) 1 1,iI 0,iI 5,vS none 0 0,iI 0,iI 6,vS none 0 0,iI 0,iI 6,vS (some (aM k7)) 1 1,iI 0] 55) fun k8 w8=>stR w8 (aM k1) [vS (some (aM k2)) 3 3,vS (some (aM k3)) 4 4,vS none 0 0,iI 4,vS (some (aM k8)) 6 6] fun w9=>∃ o1 k9 k10 o2 k11 k12 o3 k13 k14 n1 o4 k15 k16,V.rowAt w9 (aM k1) 0 5 = some [vS o1 k9 k10,vS o2 k11 k12,vS o3 k13 k14,iI n1,vS o4 k15 k16]∧R (vG [vS o1 k9 k10,vS o2 k11 k12,vS o3 k13 k14,iI n1,vS o4 k15 k16]) w9
set_option maxRecDepth 100000 in
theorem run_presagelaw13_small  (w:World) (R:Value→WP) (h:vc_presagelaw13_small  w R):Run Tryz.prog 31 [] w R:=rv Tryz.func31 ann_presagelaw13_small (by kernel_rfl) h

end Go.Proofs.YtngdohpikfcifaaGreatDoor
set_option linter.unusedVariables false
set_option maxRecDepth 4000
namespace Go.Proofs.YtngdohpikfcifaaGreatDoor
open Go.V
variable {w:World} {L:List Asn} {g:GramT} {x:GA}
set_option maxHeartbeats 2000000 in
theorem l_small13:Run Tryz.prog n_presagelaw13_small [] w fun v w'=>∃ x:GA,v = .agg ⟨x.cells⟩∧gR (hp w') reG x∧Gr w w':=by
  refine run_presagelaw13_small w _ ?_
  refine newC_i (St.all w) fun k1 w1 h=>newC_i h fun k2 w2 h=>newC_i h fun k3 w3 h=>newC_i h fun k4 w4 h=>newC_i h fun k5 w5 h=>newC_i h fun k6 w6 h=>newC_i h fun k7 w7 h=>newC_i h fun k8 w8 h=>stR_i (h.pick 9 [7,0,1,2,3,4,5,6,8]) rfl (by intro v hv; simp at hv; rcases hv with rfl | rfl | rfl | rfl | rfl <;> rfl) fun w9 h=>?_
  have r8:rowH (hp w9) ⟨k8,0,none⟩ _:=rdCel 1 h.l
  have r7:rowH (hp w9) ⟨k7,0,none⟩ _:=rdCel 2 h.l
  have r6:rowH (hp w9) ⟨k6,0,none⟩ _:=rdCel 3 h.l
  have r5:rowH (hp w9) ⟨k5,0,none⟩ _:=rdCel 4 h.l
  have r4:rowH (hp w9) ⟨k4,0,none⟩ _:=rdCel 5 h.l
  have r3:rowH (hp w9) ⟨k3,0,none⟩ _:=rdCel 6 h.l
  have r2:rowH (hp w9) ⟨k2,0,none⟩ _:=rdCel 7 h.l
  have r1:rowH (hp w9) ⟨k1,0,none⟩ _:=rdCel 0 h.l
  have g9:sub (hp w) (hp w9):=rdH 8 h.l
  have p4:rdS (hp w9) ([4] : List Int) (some ⟨k4,0,none⟩) 1:=rdI_of rfl (.inr ⟨_,rfl,r4⟩)
  have p5:rdS (hp w9) ([5,4,6] : List Int) (some ⟨k5,0,none⟩) 3:=rdI_of rfl (.inr ⟨_,rfl,r5⟩)
  have p6:rdS (hp w9) ([1] : List Int) (some ⟨k6,0,none⟩) 1:=rdI_of rfl (.inr ⟨_,rfl,r6⟩)
  have p7:rdS (hp w9) ([2] : List Int) (some ⟨k7,0,none⟩) 1:=rdI_of rfl (.inr ⟨_,rfl,r7⟩)
  have p0:rdS (hp w9) ([] : List Int) none 0:=rdI_of rfl (.inl rfl)
  refine ⟨_,_,_,_,_,_,_,_,_,_,_,_,_,r1.at (sub.refl _) rfl,⟨some ⟨k2,0,none⟩,3,3,some ⟨k3,0,none⟩,4,4,none,0,0,4,some ⟨k8,0,none⟩,6,6⟩,rfl,⟨?_,?_,?_,rfl,?_,Nat.le_refl _,Nat.le_refl _,Nat.le_refl _,Nat.le_refl _⟩,g9⟩
  · refine rdS_lit9 (xs:=reG.terms) r2 fun i t hi=>?_
    match i,hi with
    | 0,hi=>cases hi; rfl
    | 1,hi=>cases hi; rfl
    | 2,hi=>cases hi; rfl
    | i + 3,hi=>cases hi
  · exact rdS_of_row (xs:=reG.nons) rfl (.inr ⟨_,rfl,r3⟩)
  · exact p0
  · refine rdS_lit9 (xs:=reG.prods) r8 fun i t hi=>?_
    match i,hi with
    | 0,hi=>cases hi; exact ⟨_,_,_,rfl,by decide,p4⟩
    | 1,hi=>cases hi; exact ⟨_,_,_,rfl,by decide,p5⟩
    | 2,hi=>cases hi; exact ⟨_,_,_,rfl,by decide,p6⟩
    | 3,hi=>cases hi; exact ⟨_,_,_,rfl,by decide,p0⟩
    | 4,hi=>cases hi; exact ⟨_,_,_,rfl,by decide,p0⟩
    | 5,hi=>cases hi; exact ⟨_,_,_,rfl,by decide,p7⟩
    | i + 6,hi=>cases hi
end Go.Proofs.YtngdohpikfcifaaGreatDoor
set_option linter.unusedVariables false
set_option maxRecDepth 4000
namespace Go.V
open Go.Proofs.YtngdohpikfcifaaGreatDoor
instance:Rep LookT:={ n:=3,rd:=fun h x vs=>∃ (a:Option Addr) (c:Nat),vs = [.int .i64 x.st,.int .i64 x.prod,.slice a x.tm.length c]∧rdS h x.tm a x.tm.length,mono:=fun s ⟨a,c,e,r⟩=>⟨a,c,e,r.mono s⟩,len:=fun ⟨_,_,e,_⟩=>by rw [e]; rfl }
section
variable {w:World} {L:List Asn} {o:Option Addr} {c:Nat}
theorem rdLk {ds:List BkQ} (h:St w (own 3 o ds.length c (bkV ds) :: sta (bkO ds) :: L)):rdS (hp w) (ds.map toLk) o ds.length:=by
  have hr:=rdOv 0 h.l
  refine ⟨by simp,fun i x hi=>?_⟩
  rw [List.getElem?_map] at hi
  cases hd:ds[i]? with
  | none=>rw [hd] at hi; cases hi
  | some p =>
    rw [hd] at hi
    simp only [Option.map_some,Option.some.injEq] at hi
    subst hi
    have hA:(bkO ds)[i]? = some (owQ 1 iv p.2):=by unfold bkO; rw [List.getElem?_map,hd]; rfl
    have h2:=St.out (h.pick 2 [1]) hA
    have rp:rdS (hp w) p.2.2 p.2.1.1 p.2.2.length:=rdI_of rfl (rdOv 0 h2.l)
    rcases hr with e | ⟨ad,e,hc⟩
    · have h1:=congrArg List.length e
      rw [bkV_len,List.length_nil] at h1
      have:=(List.getElem?_eq_some_iff.1 hd).1; omega
    · exact ⟨ad,bkE p,e,rowH_unflat (n:=3) (fun _=>rfl) ds ad hc i p hd,p.2.1.1,p.2.1.2,rfl,rp⟩
theorem rdLk_get {h:Hp} {xs:List LookT} {l i:Nat} (r:rdS h xs o l) (hi:i < l):∃ x ad a c,xs[i]? = some x∧o = some ad∧rowH h (ad.add (mulS i 3)) [.int .i64 x.st,.int .i64 x.prod,.slice a x.tm.length c]∧rdS h x.tm a x.tm.length:=by
  obtain ⟨x,ad,vs,hx,ha,hr,a,c',rfl,hx2⟩:=r.get hi
  exact ⟨x,ad,a,c',hx,ha,hr,hx2⟩
end
def hasC (es ow:List (List Int)):Nat→Nat→Nat→Bool
  | 0,v,x=>(ow.getD v []).contains (x:Int)
  | k + 1,v,x=>(ow.getD v []).contains (x:Int) || (En es v).any fun m=>hasC es ow k m x
theorem hasC_sound {es ow:List (List Int)} {x:Nat}:∀ k v,hasC es ow k v x = true→HasP es ow v x
  | 0,v,h=>HasP.iff.2 (.inl (List.contains_iff_mem.1 h))
  | k + 1,v,h=>by
    rw [hasC,Bool.or_eq_true,List.any_eq_true] at h
    rcases h with h | ⟨m,h1,h2⟩
    · exact HasP.iff.2 (.inl (List.contains_iff_mem.1 h))
    · exact HasP.iff.2 (.inr ⟨m,h1,hasC_sound k m h2⟩)
def riseB:List Int→Bool
  | []=>true
  | a :: l=>l.all (fun b=>decide (a < b)) && riseB l
theorem riseB_iff:∀ {l:List Int},riseB l = true→Rise l
  | [],_=>.nil
  | a :: l,h=>by
    rw [riseB,Bool.and_eq_true,List.all_eq_true] at h
    exact .cons (fun b hb=>of_decide_eq_true (h.1 b hb)) (riseB_iff h.2)
def chkS (es ow rs:List (List Int)) (K:Nat):Bool:=decide (rs.length = es.length) && decide (ow.length = es.length) && (List.range es.length).all fun v=>riseB (rs.getD v []) && (rs.getD v []).all (fun z=>decide (0≤z) && decide (z < 1024) && hasC es ow K v z.toNat) && (ow.getD v []).all (fun z=>(rs.getD v []).contains z) && (En es v).all fun m=>(rs.getD m []).all fun z=>(rs.getD v []).contains z
theorem chkS_is {es ow rs:List (List Int)} {K:Nat} (h:chkS es ow rs K = true):rs = solL es ow:=by
  unfold chkS at h
  simp only [Bool.and_eq_true,decide_eq_true_eq,List.all_eq_true,List.mem_range,List.contains_iff_mem] at h
  obtain ⟨⟨h1,h2⟩,h3⟩:=h
  have key:∀ v x,HasP es ow v x→(x:Int)∈rs.getD v []:=fun v x hh=>by
    refine HasP.least (Q:=fun v x=>(x:Int)∈rs.getD v []) (fun v x hx=>?_) (fun v m x hm hx=>?_) hh
    · by_cases hv:v < es.length
      · exact (h3 v hv).1.2 _ hx
      · rw [List.getD_eq_getElem?_getD,List.getElem?_eq_none (by omega)] at hx
        simp at hx
    · by_cases hv:v < es.length
      · exact (h3 v hv).2 m hm _ hx
      · unfold En at hm
        rw [List.getD_eq_getElem?_getD,List.getElem?_eq_none (by omega)] at hm
        simp at hm
  refine sol_is h1 fun v row hr=>?_
  have hv:v < es.length:=by rw [← h1]; exact (List.getElem?_eq_some_iff.1 hr).1
  have e:rs.getD v [] = row:=by rw [List.getD_eq_getElem?_getD,hr]; rfl
  obtain ⟨⟨⟨q1,q2⟩,_⟩,_⟩:=h3 v hv
  rw [e] at q1 q2
  refine ⟨riseB_iff q1,fun z=>⟨fun hz=>?_,?_⟩⟩
  · obtain ⟨⟨q3,q4⟩,q5⟩:=q2 z hz
    exact ⟨z.toNat,by omega,by omega,hasC_sound K v q5⟩
  · rintro ⟨x,rfl,_,hx⟩
    have:=key v x hx
    rwa [e] at this
def lookC (g:GramT) (fs:List (List Int)) (b:BackT):LookT:=⟨b.st,b.prod,rowF g.T fun x=>b.tr.any fun t=>(fs.getD t.toNat []).contains (x:Int)⟩
open Classical in
theorem lookC_eq (g:GramT) (fs:List (List Int)) (b:BackT):lookOf g fs b = lookC g fs b:=by
  unfold lookOf lookC
  congr 1
  refine rowF_congr fun k _=>?_
  rw [Bool.eq_iff_iff,decide_eq_true_eq,List.any_eq_true]
  exact exists_congr fun t=>and_congr_right fun _=>List.contains_iff_mem.symm
def reR:List (List Int):=[[0],[1],[2],[1],[]]
def reF:List (List Int):=[[0],[1],[0,2],[1],[0,2]]
set_option maxRecDepth 100000 in
theorem re_chk:chkS (RdsL reG reN reS) (DirL reG reS) reR 5 = true∧chkS (IncL reG reN reS) reR reF 5 = true∧(BksL reG reS).length = 6∧((BksL reG reS)[1]?.map fun b=>(lookC reG reF b).tm.length) = some 2:=by decide +kernel
theorem re_R:RgL reG reN reS = reR:=(chkS_is re_chk.1).symm
theorem re_F:FgL reG reN reS = reF:=by
  unfold FgL
  rw [re_R]
  exact (chkS_is re_chk.2.1).symm
theorem re_L:(LooksL reG reN reS).length = 6∧((LooksL reG reN reS)[1]?.map fun b=>b.tm.length) = some 2:=by
  refine ⟨by rw [LooksL_len]; exact re_chk.2.2.1,?_⟩
  unfold LooksL
  rw [re_F,List.getElem?_map,Option.map_map,← re_chk.2.2.2]
  congr 1
  funext b
  show (lookOf reG reF b).tm.length = _
  rw [lookC_eq]
end Go.V
namespace Go.Proofs.YtngdohpikfcifaaGreatDoor
open Go.V
variable {w:World} {L:List Asn} {g:GramT} {x:GA}
set_option maxHeartbeats 2000000 in
theorem l_awake13 (ht:tabA (hp w)):Run Tryz.prog n_presagelaw13_awake [] w fun v w'=>v = .bool true∧Gr w w':=by
  refine run_presagelaw13_awake w _ (l_small13.mono ?_)
  rintro _ w1 ⟨x,rfl,hg,g1⟩
  refine ⟨_,_,_,_,_,_,_,_,_,_,_,_,_,rfl,newC_i (St.all w1) fun k9 w2 h=>stR_i h rfl (by intro v hv; simp at hv; rcases hv with rfl | rfl | rfl | rfl | rfl <;> rfl) fun w3 h=>?_⟩
  have s3:sub (hp w1) (hp w3):=h.gone1
  have B:GB (hp w3) k9 x:=gb_of (rdCel 0 h.l)
  have hg:=hg.mono s3
  have g3:Gr w w3:=sub.trans g1 s3
  clear h
  refine ⟨_,_,_,_,_,_,_,_,_,_,_,_,_,B.row (sub.refl _),(t_Reading hg re_ok (rdV.mono g3 ht)).mono ?_⟩
  rintro _ w4 ⟨ss,ask,int,f,nn,o,c,ds,rfl,hR,hnn,hds,h⟩
  obtain ⟨rfl,hes⟩:=re_res hR
  have e:=(hnn rfl).inj re_nul
  subst e
  rw [RgL_es hes,re_R] at hds
  have g34:Gr w3 w4:=rdH 2 h.l
  have rA:=rdLq h
  have hdl:ds.length = 5:=by have:=congrArg List.length hds; rw [List.length_map] at this; exact this
  rw [hds,hdl] at rA
  rw [hdl]
  clear h
  refine ⟨_,_,_,_,rfl,_,_,_,_,_,_,_,_,_,_,_,_,_,B.row g34,(t_Following (hg.mono g34) re_ok (rdV.mono (g3.trans g34) ht)).mono ?_⟩
  rintro _ w5 ⟨ss2,ask2,int2,f2,nn2,o2,c2,ds2,rfl,hR2,hnn2,hds2,h⟩
  obtain ⟨rfl,hes2⟩:=re_res hR2
  have e:=(hnn2 rfl).inj re_nul
  subst e
  rw [FgL_es hes2,re_F] at hds2
  have g45:Gr w4 w5:=rdH 2 h.l
  have rB:=rdLq h
  have hdl2:ds2.length = 5:=by have:=congrArg List.length hds2; rw [List.length_map] at this; exact this
  rw [hds2,hdl2] at rB
  rw [hdl2]
  clear h
  have g35:=g34.trans g45
  refine ⟨_,_,_,_,rfl,_,_,_,_,_,_,_,_,_,_,_,_,_,B.row g35,(t_Sets (hg.mono g35) re_ok (rdV.mono (g3.trans g35) ht)).mono ?_⟩
  rintro _ w6 ⟨ss3,ask3,int3,f3,nn3,o3,c3,ds3,rfl,hR3,hnn3,hds3,h⟩
  obtain ⟨rfl,hes3⟩:=re_res hR3
  have e:=(hnn3 rfl).inj re_nul
  subst e
  rw [LooksL_es hes3] at hds3
  have g56:Gr w5 w6:=rdH 2 h.l
  have rC:=rdLk h
  have hdl3:ds3.length = 6:=by have:=congrArg List.length hds3; rw [List.length_map,re_L.1] at this; exact this
  rw [hds3,hdl3] at rC
  rw [hdl3]
  clear h
  obtain ⟨x1,ad1,a1,c1,hx1,rfl,cx1,rx1⟩:=rdLq_row rA (i:=2) (by decide)
  cases hx1
  obtain ⟨y1,yad,hy1,hya,hy2⟩:=rx1.get1 (i:=0) (by decide)
  cases hy1
  obtain ⟨x2,ad2,a2,c2',hx2,rfl,cx2,rx2⟩:=rdLq_row rB (i:=4) (by decide)
  cases hx2
  obtain ⟨x3,ad3,a3,c3',hx3,rfl,rx3,_⟩:=rdLk_get rC (i:=1) (by decide)
  have hx3l:x3.tm.length = 2:=by have:=re_L.2; rw [hx3] at this; simpa using this
  have gA:Gr w4 w6:=g45.trans g56
  refine ⟨_,_,_,_,rfl,br_t rfl (br_t rfl (br_t rfl (br_t rfl (idx_i (i:=2) rfl (by decide) ⟨_,_,_,cx1 _ gA,br_t rfl (idx_i (i:=2) rfl (by decide) ⟨_,_,_,cx1 _ gA,idx_i (i:=0) hya (by decide) ⟨_,hy2 _ gA,br_t rfl (br_t rfl (idx_i (i:=4) rfl (by decide) ⟨_,_,_,cx2 _ g56,?_⟩))⟩⟩)⟩))))⟩
  refine br_t rfl (br_t rfl (idx_n (i:=1) rfl (by decide) ⟨_,_,_,rx3.cell (sub.refl _) (j:=2) rfl,?_,?_⟩))
  · rw [hx3l]; rfl
  · exact g3.trans (g35.trans g56)
end Go.Proofs.YtngdohpikfcifaaGreatDoor

set_option linter.unusedVariables false
set_option maxRecDepth 4000
namespace Go.Proofs.YtngdohpikfcifaaGreatDoor
open Go.V
variable {w:World} {L:List Asn} {g:GramT} {x:GA}
end Go.Proofs.YtngdohpikfcifaaGreatDoor
set_option linter.unusedVariables false
set_option maxRecDepth 4000
namespace Go.V
structure AsR (h:Hp) (g:GramT) (ss:List SQ) (nn:List Bool) (k:Nat):Prop where
  ex:∃ (x:GA) (ol:Option Addr) (cl:Nat) (on:Option Addr) (cn:Nat),rowH h (aM k) (x.cells ++ [.slice ol (TrL g ss).length cl,.slice on g.N cn])∧gR h g x∧rdS h (TrL g ss) ol (TrL g ss).length∧rdS h nn on g.N
theorem AsR.mono {h h' : Hp} {g:GramT} {ss:List SQ} {nn:List Bool} {k:Nat} (s:sub h h') (r:AsR h g ss nn k):AsR h' g ss nn k:=by
  obtain ⟨x,ol,cl,on,cn,h1,h2,h3,h4⟩:=r.ex
  exact ⟨x,ol,cl,on,cn,h1.mono s,h2.mono s,h3.mono s,h4.mono s⟩
end Go.V
namespace Go.Proofs.YtngdohpikfcifaaGreatDoor
open Go.V
variable {w:World} {L:List Asn} {g:GramT} {x:GA}
end Go.Proofs.YtngdohpikfcifaaGreatDoor
set_option linter.unusedVariables false
set_option maxRecDepth 4000
namespace Go.V
theorem rise_at {l:List Int} (h:Rise l) {i j:Nat} {a b:Int} (ha:l[i]? = some a) (hb:l[j]? = some b) (hij:i < j):a < b:=by
  obtain ⟨h1,rfl⟩:=List.getElem?_eq_some_iff.1 ha
  obtain ⟨h2,rfl⟩:=List.getElem?_eq_some_iff.1 hb
  exact List.pairwise_iff_getElem.1 h i j h1 h2 hij
end Go.V
namespace Go.Proofs.YtngdohpikfcifaaGreatDoor
open Go.V
variable {w:World} {L:List Asn} {g:GramT} {x:GA}
end Go.Proofs.YtngdohpikfcifaaGreatDoor

set_option linter.unusedVariables false
set_option maxRecDepth 4000
namespace Go.V
theorem rowH_pre {h:Hp} {a:Addr} {vs us:List Value} (r:rowH h a (vs ++ us)):rowH h a vs:=fun j v hv=>r j v (by rw [List.getElem?_append_left (List.getElem?_eq_some_iff.1 hv).1]; exact hv)
section
variable {g:GramT} {nn:List Bool} {ss:List SQ}
end
end Go.V
namespace Go.Proofs.YtngdohpikfcifaaGreatDoor
open Go.V
variable {w:World} {L:List Asn} {g:GramT} {x:GA} {ss:List SQ} {nn:List Bool}
end Go.Proofs.YtngdohpikfcifaaGreatDoor
set_option linter.unusedVariables false
set_option maxRecDepth 4000
namespace Go.Proofs.YtngdohpikfcifaaGreatDoor
open Go.V
variable {w:World} {L:List Asn} {g:GramT} {x:GA} {wh:Int}
end Go.Proofs.YtngdohpikfcifaaGreatDoor
set_option linter.unusedVariables false
set_option maxRecDepth 4000
namespace Go.V
section
variable {g:GramT} {ss:List SQ}
end
end Go.V
set_option linter.unusedVariables false
namespace Go.Proofs.YtngdohpikfcifaaGreatDoor
open Go.V
end Go.Proofs.YtngdohpikfcifaaGreatDoor
set_option linter.unusedVariables false
set_option maxRecDepth 4000
namespace Go.Proofs.YtngdohpikfcifaaGreatDoor
open Go.V
section
variable {w:World} {L:List Asn} {g:GramT} {x:GA} {ss:List SQ}
end
end Go.Proofs.YtngdohpikfcifaaGreatDoor
set_option linter.unusedVariables false
set_option maxRecDepth 4000
namespace Go.Proofs.YtngdohpikfcifaaGreatDoor
open Go.V
section
variable {w:World} {L:List Asn} {g:GramT} {x:GA} {ss:List SQ}
end
end Go.Proofs.YtngdohpikfcifaaGreatDoor
set_option linter.unusedVariables false
set_option maxRecDepth 4000
namespace Go.Proofs.YtngdohpikfcifaaGreatDoor
open Go.V
section
variable {w:World} {L:List Asn} {g:GramT} {x:GA} {ss:List SQ} {a:Option Addr} {l c:Nat} {row:List Int}
end
end Go.Proofs.YtngdohpikfcifaaGreatDoor
set_option linter.unusedVariables false
set_option maxRecDepth 4000
namespace Go.V
theorem AsR.es {h:Hp} {g:GramT} {ss ss' : List SQ} {nn:List Bool} {k:Nat} (r:AsR h g ss nn k) (e:esOf ss = esOf ss'):AsR h g ss' nn k:=by
  obtain ⟨x,ol,cl,on,cn,h1,h2,h3,h4⟩:=r.ex
  rw [TrL_es e] at h1 h3
  exact ⟨x,ol,cl,on,cn,h1,h2,h3,h4⟩
end Go.V
namespace Go.Proofs.YtngdohpikfcifaaGreatDoor
open Go.V
variable {w:World} {L:List Asn} {g:GramT} {x:GA}
end Go.Proofs.YtngdohpikfcifaaGreatDoor
set_option linter.unusedVariables false
namespace Go.Proofs.YtngdohpikfcifaaGreatDoor
open Go.V
abbrev n_presageref11_Put:FuncId:=56
def ann_presageref11_Put:Ann:={ rngs:=[],loops:=[(2,[(5,(.one (.int .i64)))])],joins:=[(4,[(5,(.one (.int .i64)))])],blocks:=[] }
set_option maxRecDepth 100000 in
def vc_presageref11_Put (a:Option Addr) (b c:Nat) (d:Int) (w:World) (R:Value→WP):Prop :=  ∃ (x1:lP [(5,shI)]),(∃ (x2:lP [(5,shI)]),∃ (x3:lN [(5,shI)]),x2 0 w∧∀ (I1:Nat→Value) (n1:Int) (w1:World),x2 n1 w1→br (decide (n1 < (↑b:Int))) (idx a b n1 1 fun a1=>∃ n2,World.cell? w1 a1 = some (iI n2)∧br (decide (n2 < d)) (inI (n1 + 1)∧x2 (n1 + 1) w1∧x3 (n1 + 1) w1 < x3 n1 w1) (x1 n1 w1)) (x1 n1 w1))∧∀ (I2:Nat→Value) (n3:Int) (w2:World),x1 n3 w2→br (decide (n3 < (↑b:Int))) (idx a b n3 1 fun a2=>∃ n4,World.cell? w2 a2 = some (iI n4)∧br (n4 == d) (R (vS a b c) w2) (slc a b c none (some n3) none 1 fun (o1:Option Addr) (k1 k2:Nat)=>RunS Proofs.Tryz.prog (apB 24 (Array.mk [vS none 0 0,vS o1 k1 k2])) w2 fun v1 w3=>∃ o2 k3 k4,v1 = vS o2 k3 k4∧new w3 (oC [iI d] 3) fun k5 w4=>RunS Proofs.Tryz.prog (apB 24 (Array.mk [vS o2 k3 k4,vS (some (aM k5)) 1 1])) w4 fun v2 w5=>∃ o3 k6 k7,v2 = vS o3 k6 k7∧slc a b c (some n3) none none 1 fun (o4:Option Addr) (k8 k9:Nat)=>RunS Proofs.Tryz.prog (apB 24 (Array.mk [vS o3 k6 k7,vS o4 k8 k9])) w5 fun v3 w6=>∃ o5 k10 k11,v3 = vS o5 k10 k11∧R (vS o5 k10 k11) w6)) (slc a b c none (some n3) none 1 fun (o6:Option Addr) (k12 k13:Nat)=>RunS Proofs.Tryz.prog (apB 24 (Array.mk [vS none 0 0,vS o6 k12 k13])) w2 fun v4 w7=>∃ o7 k14 k15,v4 = vS o7 k14 k15∧new w7 (oC [iI d] 3) fun k16 w8=>RunS Proofs.Tryz.prog (apB 24 (Array.mk [vS o7 k14 k15,vS (some (aM k16)) 1 1])) w8 fun v5 w9=>∃ o8 k17 k18,v5 = vS o8 k17 k18∧slc a b c (some n3) none none 1 fun (o9:Option Addr) (k19 k20:Nat)=>RunS Proofs.Tryz.prog (apB 24 (Array.mk [vS o8 k17 k18,vS o9 k19 k20])) w9 fun v6 w10=>∃ o10 k21 k22,v6 = vS o10 k21 k22∧R (vS o10 k21 k22) w10)
set_option maxRecDepth 100000 in
theorem run_presageref11_Put (a:Option Addr) (b c:Nat) (d:Int) (w:World) (R:Value→WP) (h:vc_presageref11_Put a b c d w R):Run Tryz.prog 56 [(.slice a b c),(.int .i64 d)] w R:=rv Tryz.func56 ann_presageref11_Put (by kernel_rfl) h

end Go.Proofs.YtngdohpikfcifaaGreatDoor
set_option linter.unusedVariables false
set_option maxRecDepth 4000
namespace Go.V
abbrev wdC (x:GA) (o:Option Addr) (n c:Nat) (a int:Int) (ol:Option Addr) (nl cl:Nat) (on:Option Addr) (nn cn:Nat):List Value:=x.cells ++ [.slice o n c,.int .i64 a,.int .i64 int,.slice ol nl cl,.slice on nn cn]
structure DwR (h:Hp) (g:GramT) (ss:List SQ) (nn:List Bool) (k:Nat):Prop where
  ex:∃ (x:GA) (o:Option Addr) (c:Nat) (a int:Int) (ol:Option Addr) (cl:Nat) (on:Option Addr) (cn:Nat),rowH h (aM k) (wdC x o ss.length c a int ol (TrL g ss).length cl on g.N cn)∧gR h g x∧stRd h ss o∧rdS h (TrL g ss) ol (TrL g ss).length∧rdS h nn on g.N
theorem DwR.mono {h h' : Hp} {g:GramT} {ss:List SQ} {nn:List Bool} {k:Nat} (s:sub h h') (r:DwR h g ss nn k):DwR h' g ss nn k:=by
  obtain ⟨x,o,c,a,int,ol,cl,on,cn,h1,h2,h3,h4,h5⟩:=r.ex
  exact ⟨x,o,c,a,int,ol,cl,on,cn,h1.mono s,h2.mono s,h3.mono s,h4.mono s,h5.mono s⟩
def RowsC (n:Nat) (f:Nat→List Int) (k:Nat) (L:List Asn) (w:World):Prop:=∃ es:List (Lq Int),es.length = n∧(∀ j q,es[j]? = some q→q.2 = f j)∧St w (cel k (es.map slQ) :: sta (es.map (owQ 1 iv)) :: L)
theorem RowsC.gr {n k:Nat} {f:Nat→List Int} {L:List Asn} {w w' : World} (h:RowsC n f k L w) (g:Gr w w'):RowsC n f k L w':=by
  obtain ⟨es,h1,h2,h3⟩:=h
  exact ⟨es,h1,h2,h3.gr g⟩
theorem RowsC.gw {n k:Nat} {f:Nat→List Int} {w0 w:World} (h:RowsC n f k (all w0) w):Gr w0 w:=by
  obtain ⟨es,h1,h2,h3⟩:=h
  exact rdH 2 h3.l
theorem RowsC.iff {n k:Nat} {f f' : Nat→List Int} {L:List Asn} {w:World} (h:RowsC n f k L w) (e:∀ j,j < n→f j = f' j):RowsC n f' k L w:=by
  obtain ⟨es,h1,h2,h3⟩:=h
  refine ⟨es,h1,fun j q hq=>?_,h3⟩
  rw [h2 j q hq,e j (by rw [← h1]; exact (List.getElem?_eq_some_iff.1 hq).1)]
theorem RowsC.take {n k i:Nat} {f:Nat→List Int} {L:List Asn} {w:World} (h:RowsC n f k L w) (hi:i < n):∃ (q:Lq Int) (es:List (Lq Int)),q.2 = f i∧es.length = n∧(es.map slQ)[i]? = some (slQ q)∧St w (own 1 q.1.1 q.2.length q.1.2 (iv q.2) :: sta ((es.map (owQ 1 iv)).eraseIdx i) :: cel k (es.map slQ) :: L) ∧
    ∀ (w' : World) (L' : List Asn) (o:Option Addr) (c:Nat) (xs:List Int),St w' (own 1 o xs.length c (iv xs) :: sta ((es.map (owQ 1 iv)).eraseIdx i) :: cel k ((es.map slQ).set i (.slice o xs.length c)) :: L')→RowsC n (fun j=>if j = i then xs else f j) k L' w':=by
  obtain ⟨es,h1,h2,h3⟩:=h
  obtain ⟨q,hq⟩ : ∃ q,es[i]? = some q:=⟨_,List.getElem?_eq_getElem (by omega)⟩
  have hA:(es.map (owQ 1 iv))[i]? = some (owQ 1 iv q):=by rw [List.getElem?_map,hq]; rfl
  refine ⟨q,es,h2 i q hq,h1,by rw [List.getElem?_map,hq]; rfl,?_,fun w' L' o c xs h=>?_⟩
  · have h:=St.out (h3.pick 2 [1,0]) hA
    exact h
  · refine ⟨es.set i ((o,c),xs),by rw [List.length_set]; exact h1,fun j r hr=>?_,?_⟩
    · by_cases e:i = j
      · subst e
        rw [List.getElem?_set_self (by omega)] at hr
        cases hr
        show xs = if i = i then xs else f i
        rw [if_pos rfl]
      · rw [List.getElem?_set_ne e] at hr
        show r.2 = if j = i then xs else f j
        rw [if_neg (Ne.symm e)]
        exact h2 j r hr
    · have h:=St.back (B:=own 1 o xs.length c (iv xs)) h hA
      rw [show own 1 o xs.length c (iv xs) = owQ 1 iv (((o,c),xs):Lq Int) from rfl,← List.map_set,show (.slice o xs.length c:Value) = slQ (((o,c),xs):Lq Int) from rfl,← List.map_set] at h
      exact h.pick 2 [1,0]
theorem RowsC.start {n k:Nat} {L:List Asn} {w:World} (h:St w (cel k ((List.replicate n (((none,0),[]):Lq Int)).map slQ) :: L)):RowsC n (fun _=>[]) k L w:=by
  have h:=sta_reps (A:=owQ 1 iv (((none,0),[]):Lq Int)) (fun w L h=>own_nil 1 h) n h
  rw [← List.map_replicate] at h
  refine ⟨_,by simp,fun j q hq=>?_,h.pick 2 [1,0]⟩
  rw [List.getElem?_replicate] at hq
  split at hq
  · cases hq; rfl
  · cases hq
theorem RowsC.fin {n k:Nat} {f:Nat→List Int} {L:List Asn} {w:World} (h:RowsC n f k L w):∃ ds:List (Lq Int),ds.length = n∧ds.map (·.2) = (List.range n).map f∧St w (own 1 (some (aM k)) n n (ds.map slQ) :: sta (ds.map (owQ 1 iv)) :: L):=by
  obtain ⟨es,h1,h2,h3⟩:=h
  refine ⟨es,h1,?_,own_some (cs:=[]) (by rw [List.append_nil]; exact h3) (by simp [h1]) (by simp [h1]) (Nat.le_refl _)⟩
  apply List.ext_getElem?
  intro i
  rw [List.getElem?_map,List.getElem?_map]
  by_cases hi:i < n
  · have hd:es[i]? = some es[i]:=List.getElem?_eq_getElem (by omega)
    rw [hd,List.getElem?_range hi]
    exact congrArg some (h2 i _ hd)
  · rw [List.getElem?_eq_none (by omega),List.getElem?_eq_none (by simp; omega)]; rfl
end Go.V
namespace Go.Proofs.YtngdohpikfcifaaGreatDoor
open Go.V
variable {w:World} {L:List Asn} {g:GramT} {x:GA} {ss:List SQ} {nn:List Bool}
end Go.Proofs.YtngdohpikfcifaaGreatDoor
set_option linter.unusedVariables false
set_option maxRecDepth 4000
namespace Go.V
theorem rowH_drop {h:Hp} {a:Addr} {vs:List Value} (r:rowH h a vs) (n:Nat):rowH h (a.add n) (vs.drop n):=fun j v hv=>by
  rw [List.getElem?_drop] at hv
  rw [add_add]
  exact r _ v hv
theorem DwR.aut {h:Hp} {k:Nat} {x:GA} {o ol on:Option Addr} {n c nl cl nN cn:Nat} {a int:Int} (r:rowH h (aM k) (wdC x o n c a int ol nl cl on nN cn)):rowH h ((aM k).add 5) [.slice o n c,.int .i64 a,.int .i64 int] :=
  rowH_pre (us:=[.slice ol nl cl,.slice on nN cn]) (rowH_drop r 5)
end Go.V
namespace Go.Proofs.YtngdohpikfcifaaGreatDoor
open Go.V
variable {w:World} {L:List Asn} {g:GramT} {x:GA} {ss:List SQ} {nn:List Bool}
end Go.Proofs.YtngdohpikfcifaaGreatDoor
set_option linter.unusedVariables false
set_option maxRecDepth 4000
namespace Go.V
theorem rise_put {xs:List Int} {n:Int} {at_:Nat} (hs:Rise xs) (h1:∀ y∈xs.take at_,y < n) (h2:∀ y,xs[at_]? = some y→n < y):Rise (xs.take at_ ++ n :: xs.drop at_)∧∀ z,z∈xs.take at_ ++ n :: xs.drop at_↔z∈xs∨z = n:=by
  have hd:∀ y∈xs.drop at_,n < y:=fun y hy=>by
    obtain ⟨j,hj⟩:=List.getElem?_of_mem hy
    rw [List.getElem?_drop] at hj
    have hlt:=(List.getElem?_eq_some_iff.1 hj).1
    have ha:xs[at_]? = some xs[at_]:=List.getElem?_eq_getElem (by omega)
    have h3:=h2 _ ha
    by_cases e:j = 0
    · subst e; rw [Nat.add_zero,ha] at hj; cases hj; exact h3
    · have:=rise_at hs ha hj (by omega); omega
  refine ⟨?_,fun z=>?_⟩
  · unfold Rise at hs ⊢
    rw [List.pairwise_append,List.pairwise_cons]
    refine ⟨hs.sublist (List.take_sublist _ _),⟨hd,hs.sublist (List.drop_sublist _ _)⟩,fun a ha b hb=>?_⟩
    have h3:=h1 a ha
    rcases List.mem_cons.1 hb with rfl | hb
    · exact h3
    · have:=hd b hb; omega
  · rw [List.mem_append,List.mem_cons]
    have e:z∈xs↔z∈xs.take at_∨z∈xs.drop at_:=by rw [← List.mem_append,List.take_append_drop]
    rw [e]
    constructor
    · rintro (h | h | h)
      · exact .inl (.inl h)
      · exact .inr h
      · exact .inl (.inr h)
    · rintro ((h | h) | h)
      · exact .inl h
      · exact .inr (.inr h)
      · exact .inr (.inl h)
end Go.V
namespace Go.Proofs.YtngdohpikfcifaaGreatDoor
open Go.V
variable {w:World} {L:List Asn} {g:GramT} {x:GA} {ss:List SQ} {nn:List Bool}
set_option maxHeartbeats 1000000 in
theorem d_Put {a:Option Addr} {l c:Nat} {xs:List Int} {n:Int} (h:St w (own 1 a l c (iv xs) :: L)) (hs:Rise xs) (hb:(l + 1) * 8≤140737488355328):Run Tryz.prog n_presageref11_Put [.slice a l c,.int .i64 n] w fun v w'=>∃ (a' : Option Addr) (c' : Nat) (xs' : List Int),v = .slice a' xs'.length c'∧Rise xs'∧(∀ z,z∈xs'↔z∈xs∨z = n)∧xs'.length≤xs.length + 1∧St w' (own 1 a' xs'.length c' (iv xs') :: L):=by
  have hln:xs.length = l:=by have:=own_len h; rw [iv_len] at this; omega
  have hlc:=own_le h
  have rx:rdS (hp w) xs a l:=rdI_of hln (rdOv 0 h.l)
  refine run_presageref11_Put _ _ _ _ w _ ⟨fun z w'=>∃ at_:Nat,z = at_∧at_≤l∧(∀ y∈xs.take at_,y < n)∧(∀ y,xs[at_]? = some y→n≤y)∧w' = w,⟨fun z w'=>∃ at_:Nat,z = at_∧at_≤l∧(∀ y∈xs.take at_,y < n)∧w' = w,fun z _=>l - z.toNat,⟨0,rfl,Nat.zero_le _,by simp,rfl⟩,?_⟩,?_⟩
  · rintro _ _ w1 ⟨at_,rfl,hat,h1,rfl⟩
    refine br_intro (fun h2=>?_) fun h2=>?_
    · have h2:at_ < l:=by have:=of_decide_eq_true h2; omega
      obtain ⟨y,ad,hy1,hya,hy2⟩:=rx.get1 h2
      refine idx_i hya h2 ⟨y,hy2 _ (sub.refl _),br_intro (fun h3=>?_) fun h3=>?_⟩
      · have h3:=of_decide_eq_true h3
        refine ⟨⟨by omega,by omega⟩,⟨at_ + 1,by simp,h2,fun z hz=>?_,rfl⟩,msr h2⟩
        rw [take_succ_get hy1,List.mem_append,List.mem_singleton] at hz
        rcases hz with hz | rfl
        · exact h1 z hz
        · exact h3
      · have h3:=of_decide_eq_false h3
        refine ⟨at_,rfl,hat,h1,fun z hz=>?_,rfl⟩
        rw [hy1] at hz; cases hz; omega
    · have h2:at_ = l:=by have:=of_decide_eq_false h2; omega
      refine ⟨at_,rfl,hat,h1,fun z hz=>?_,rfl⟩
      have:=(List.getElem?_eq_some_iff.1 hz).1
      omega
  rintro _ _ w2 ⟨at_,rfl,hat,h1,h2,e2⟩
  have h:=h.eq (by rw [e2] : hp w2 = hp w)
  have rx:rdS (hp w2) xs a l:=by rw [e2]; exact rx
  have fin:(∀ y,xs[at_]? = some y→n < y)→∀ {w6:World} {o5:Option Addr} {c5:Nat},St w6 (own 1 o5 (0 + at_ + 1 + (l - at_)) c5 ([] ++ (xs.take at_).map Rep1.val ++ [.int .i64 n] ++ (xs.drop at_).map Rep1.val) :: L)→∃ (a' : Option Addr) (c' : Nat) (xs' : List Int),(.slice o5 (0 + at_ + 1 + (l - at_)) c5:Value) = .slice a' xs'.length c'∧Rise xs'∧(∀ z,z∈xs'↔z∈xs∨z = n)∧xs'.length≤xs.length + 1∧St w6 (own 1 a' xs'.length c' (iv xs') :: L):=fun h3 {w6 o5 c5} h=>by
    obtain ⟨r1,r2⟩:=rise_put hs h1 h3
    have el:(xs.take at_ ++ n :: xs.drop at_).length = 0 + at_ + 1 + (l - at_):=by simp; omega
    refine ⟨o5,c5,xs.take at_ ++ n :: xs.drop at_,by rw [el],r1,r2,by rw [el]; omega,?_⟩
    rw [el]
    have e:iv (xs.take at_ ++ n :: xs.drop at_) = [] ++ (xs.take at_).map Rep1.val ++ [.int .i64 n] ++ (xs.drop at_).map Rep1.val:=by
      unfold iv
      rw [List.map_append,List.map_cons,List.nil_append,List.append_assoc]
      rfl
    rw [e]
    exact h
  refine br_intro (fun h3=>?_) fun h3=>?_
  · have h3:at_ < l:=by have:=of_decide_eq_true h3; omega
    obtain ⟨y,ad,hy1,hya,hy2⟩:=rx.get1 h3
    refine idx_i hya h3 ⟨y,hy2 _ (sub.refl _),br_intro (fun h4=>?_) fun h4=>?_⟩
    · have h4:y = n:=by simpa using h4
      subst h4
      refine ⟨a,c,xs,by rw [hln],hs,fun z=>⟨.inl,fun h=>h.elim id fun h=>by rw [h]; exact List.mem_of_getElem? hy1⟩,by omega,by rw [hln]; exact h⟩
    have h4:y≠n:=by simpa using h4
    have hne:∀ z,xs[at_]? = some z→n < z:=fun z hz=>by
      have:=h2 z hz
      rw [hy1] at hz; cases hz
      omega
    refine slc_hiN (by omega) ?_
    rw [slP0]
    refine (app_rd (us:=[]) (xs:=xs.take at_) tyOk (rfl:kdOfT Ty _ = .slice _) (rfl:kdOfT Ty _ = .slice _) rfl rfl rfl (own_nil 1 h) rfl (rx.take (k:=at_) (by omega)) (fun x=>rfl) (by show (0 + at_) * 8≤_; omega) (by omega)).mono ?_
    rintro _ w3 ⟨o2,c2,rfl,h⟩
    refine ⟨_,_,_,rfl,newC_i h fun k5 w4 h=>?_⟩
    refine (app_one (us:=[] ++ (xs.take at_).map Rep1.val) tyOk (rfl:kdOfT Ty _ = .slice _) (rfl:kdOfT Ty _ = .slice _) rfl rfl rfl h rfl (by simp [oneC]) (by show (0 + at_ + 1) * 8≤_; omega) (by omega)).mono ?_
    rintro _ w5 ⟨o3,c3,rfl,h⟩
    have rx5:rdS (hp w5) xs a l:=rdI_of hln (rdOv 2 h.l)
    refine ⟨_,_,_,rfl,slc_from (by omega) hlc ?_⟩
    refine (app_rd (xs:=xs.drop at_) tyOk (rfl:kdOfT Ty _ = .slice _) (rfl:kdOfT Ty _ = .slice _) rfl rfl rfl h rfl (rx5.drop (k:=at_) (m:=c) (by omega) hlc) (fun x=>rfl) (by show (0 + at_ + 1 + (l - at_)) * 8≤_; omega) (by omega)).mono ?_
    rintro _ w6 ⟨o5,c5,rfl,h⟩
    exact ⟨_,_,_,rfl,fin hne (h.pick 3 [0])⟩
  · have hne:∀ z,xs[at_]? = some z→n < z:=fun z hz=>by
      have:=(List.getElem?_eq_some_iff.1 hz).1
      have:=of_decide_eq_false h3
      omega
    refine slc_hiN (by omega) ?_
    rw [slP0]
    refine (app_rd (us:=[]) (xs:=xs.take at_) tyOk (rfl:kdOfT Ty _ = .slice _) (rfl:kdOfT Ty _ = .slice _) rfl rfl rfl (own_nil 1 h) rfl (rx.take (k:=at_) (by omega)) (fun x=>rfl) (by show (0 + at_) * 8≤_; omega) (by omega)).mono ?_
    rintro _ w3 ⟨o2,c2,rfl,h⟩
    refine ⟨_,_,_,rfl,newC_i h fun k5 w4 h=>?_⟩
    refine (app_one (us:=[] ++ (xs.take at_).map Rep1.val) tyOk (rfl:kdOfT Ty _ = .slice _) (rfl:kdOfT Ty _ = .slice _) rfl rfl rfl h rfl (by simp [oneC]) (by show (0 + at_ + 1) * 8≤_; omega) (by omega)).mono ?_
    rintro _ w5 ⟨o3,c3,rfl,h⟩
    have rx5:rdS (hp w5) xs a l:=rdI_of hln (rdOv 2 h.l)
    refine ⟨_,_,_,rfl,slc_from (by omega) hlc ?_⟩
    refine (app_rd (xs:=xs.drop at_) tyOk (rfl:kdOfT Ty _ = .slice _) (rfl:kdOfT Ty _ = .slice _) rfl rfl rfl h rfl (rx5.drop (k:=at_) (m:=c) (by omega) hlc) (fun x=>rfl) (by show (0 + at_ + 1 + (l - at_)) * 8≤_; omega) (by omega)).mono ?_
    rintro _ w6 ⟨o5,c5,rfl,h⟩
    exact ⟨_,_,_,rfl,fin hne (h.pick 3 [0])⟩
end Go.Proofs.YtngdohpikfcifaaGreatDoor
set_option linter.unusedVariables false
set_option maxRecDepth 4000
namespace Go.V
def RowsD (n:Nat) (P:Nat→Int→Prop) (B k:Nat) (L:List Asn) (w:World):Prop:=∃ f:Nat→List Int,(∀ j,j < n→Rise (f j)∧(∀ z,z∈f j↔P j z)∧(f j).length≤B)∧RowsC n f k L w
theorem RowsD.gr {n B k:Nat} {P:Nat→Int→Prop} {L:List Asn} {w w' : World} (h:RowsD n P B k L w) (g:Gr w w'):RowsD n P B k L w':=by
  obtain ⟨f,h1,h2⟩:=h
  exact ⟨f,h1,h2.gr g⟩
theorem RowsD.gw {n B k:Nat} {P:Nat→Int→Prop} {w0 w:World} (h:RowsD n P B k (all w0) w):Gr w0 w:=by
  obtain ⟨f,h1,h2⟩:=h
  exact h2.gw
theorem RowsD.iff {n B k:Nat} {P Q:Nat→Int→Prop} {L:List Asn} {w:World} (h:RowsD n P B k L w) (e:∀ j z,j < n→(P j z↔Q j z)):RowsD n Q B k L w:=by
  obtain ⟨f,h1,h2⟩:=h
  exact ⟨f,fun j hj=>⟨(h1 j hj).1,fun z=>by rw [(h1 j hj).2.1 z,e j z hj],(h1 j hj).2.2⟩,h2⟩
end Go.V
namespace Go.Proofs.YtngdohpikfcifaaGreatDoor
open Go.V
variable {w:World} {L:List Asn} {g:GramT} {x:GA} {ss:List SQ} {nn:List Bool}
end Go.Proofs.YtngdohpikfcifaaGreatDoor
set_option linter.unusedVariables false
set_option maxRecDepth 4000
namespace Go.V
section
variable {g:GramT} {ss:List SQ}
end
end Go.V
namespace Go.Proofs.YtngdohpikfcifaaGreatDoor
open Go.V
variable {w:World} {L:List Asn} {g:GramT} {x:GA} {ss:List SQ} {nn:List Bool}
end Go.Proofs.YtngdohpikfcifaaGreatDoor
set_option linter.unusedVariables false
set_option maxRecDepth 4000
namespace Go.V
end Go.V
namespace Go.Proofs.YtngdohpikfcifaaGreatDoor
open Go.V
variable {w:World} {L:List Asn} {a a2:Option Addr} {l c c2:Nat}
end Go.Proofs.YtngdohpikfcifaaGreatDoor
set_option linter.unusedVariables false
set_option maxRecDepth 4000
namespace Go.Proofs.YtngdohpikfcifaaGreatDoor
open Go.V
variable {w:World} {L:List Asn} {g:GramT} {x:GA}
theorem d_PutSame {a:Option Addr} {l c:Nat} {xs:List Int} {n:Int} (rx:rdS (hp w) xs a l) (hs:Rise xs) (hn:n∈xs) (hb:l≤4611686018427387904):Run Tryz.prog n_presageref11_Put [.slice a l c,.int .i64 n] w fun v w'=>v = .slice a l c∧w' = w:=by
  have hln:=rx.1
  refine run_presageref11_Put _ _ _ _ w _ ⟨fun z w'=>∃ at_:Nat,z = at_∧at_≤l∧(∀ y∈xs.take at_,y < n)∧(∀ y,xs[at_]? = some y→n≤y)∧w' = w,⟨fun z w'=>∃ at_:Nat,z = at_∧at_≤l∧(∀ y∈xs.take at_,y < n)∧w' = w,fun z _=>l - z.toNat,⟨0,rfl,Nat.zero_le _,by simp,rfl⟩,?_⟩,?_⟩
  · rintro _ _ w1 ⟨at_,rfl,hat,h1,rfl⟩
    refine br_intro (fun h2=>?_) fun h2=>?_
    · have h2:at_ < l:=by have:=of_decide_eq_true h2; omega
      obtain ⟨y,ad,hy1,hya,hy2⟩:=rx.get1 h2
      refine idx_i hya h2 ⟨y,hy2 _ (sub.refl _),br_intro (fun h3=>?_) fun h3=>?_⟩
      · have h3:=of_decide_eq_true h3
        refine ⟨⟨by omega,by omega⟩,⟨at_ + 1,by simp,h2,fun z hz=>?_,rfl⟩,msr h2⟩
        rw [take_succ_get hy1,List.mem_append,List.mem_singleton] at hz
        rcases hz with hz | rfl
        · exact h1 z hz
        · exact h3
      · have h3:=of_decide_eq_false h3
        refine ⟨at_,rfl,hat,h1,fun z hz=>?_,rfl⟩
        rw [hy1] at hz; cases hz; omega
    · have h2:at_ = l:=by have:=of_decide_eq_false h2; omega
      refine ⟨at_,rfl,hat,h1,fun z hz=>?_,rfl⟩
      have:=(List.getElem?_eq_some_iff.1 hz).1
      omega
  rintro _ _ w2 ⟨at_,rfl,hat,h1,h2,rfl⟩
  obtain ⟨k,hk⟩:=List.getElem?_of_mem hn
  have hkl:=(List.getElem?_eq_some_iff.1 hk).1
  have hka:at_≤k:=Nat.le_of_not_lt fun hlt=>by
    have:=h1 n (List.mem_of_getElem? (i:=k) (by rw [List.getElem?_take,if_pos hlt]; exact hk))
    omega
  have hal:at_ < l:=by omega
  obtain ⟨y,ad,hy1,hya,hy2⟩:=rx.get1 hal
  have hyn:y = n:=by
    have h3:=h2 y hy1
    by_cases e:at_ = k
    · subst e; rw [hy1] at hk; exact Option.some.inj hk
    · have:=rise_at hs hy1 hk (by omega); omega
  refine br_intro (fun h3=>?_) fun h3=>?_
  · exact idx_i hya hal ⟨y,hy2 _ (sub.refl _),br_t (by simpa using hyn) ⟨rfl,rfl⟩⟩
  · have:=of_decide_eq_false h3; omega
theorem l_both {a b:Option Addr} {l c m cb:Nat} {xs ys:List Int} (h:St w (own 1 a l c (iv xs) :: L)) (hs:Rise xs) (hx:∀ h,starL L h→rdS h ys b m) (hb:(l + m + 1) * 8≤140737488355328):Run Tryz.prog n_presagelaw13_both [.slice a l c,.slice b m cb] w fun v w'=>∃ (a' : Option Addr) (c' : Nat) (xs' : List Int),v = .slice a' xs'.length c'∧Rise xs'∧(∀ z,z∈xs'↔z∈xs∨z∈ys)∧xs'.length≤xs.length + ys.length∧St w' (own 1 a' xs'.length c' (iv xs') :: L):=by
  have hln:xs.length = l:=by have:=own_len h; rw [iv_len] at this; omega
  obtain ⟨h0,hl0,hs0,h1⟩:=h.freeze
  have ry:=hx h0 hl0
  have hyl:=ry.1
  refine run_presagelaw13_both _ _ _ _ _ _ w _ ⟨fun o n c z w'=>∃ (j:Nat) (xs' : List Int),z = j∧j≤m∧n = xs'.length∧Rise xs'∧(∀ z,z∈xs'↔z∈xs∨z∈ys.take j)∧xs'.length≤xs.length + j∧St w' [own 1 o n c (iv xs'),has h0],fun _ _ _ z _=>m - z.toNat,
    ⟨0,xs,rfl,Nat.zero_le _,hln.symm,hs,fun z=>by simp,Nat.le_refl _,h1⟩,?_⟩
  rintro _ o _ c1 _ w1 ⟨j,xs',rfl,hj,rfl,hr,hm,hle,h⟩
  refine br_intro (fun h2=>?_) fun h2=>?_
  · have h2:j < m:=by have:=of_decide_eq_true h2; omega
    obtain ⟨y,ad,hy1,hya,hy2⟩:=ry.get1 h2
    refine idx_i hya h2 ⟨y,hy2 _ (rdH 1 h.l),(d_Put h hr (by omega)).mono ?_⟩
    rintro _ w2 ⟨a2,c2,xs2,rfl,hr2,hm2,hle2,h⟩
    refine ⟨_,_,_,rfl,⟨by omega,by omega⟩,⟨j + 1,xs2,by simp,h2,rfl,hr2,fun z=>?_,by omega,h⟩,msr h2⟩
    rw [hm2,hm,take_succ_get hy1,List.mem_append,List.mem_singleton,or_assoc]
  · have h2:j = m:=by have:=of_decide_eq_false h2; omega
    rw [List.take_of_length_le (by omega)] at hm
    exact ⟨o,c1,xs',rfl,hr,hm,by omega,h.on1 hl0⟩
theorem l_bothSame {a b:Option Addr} {l c m cb:Nat} {xs ys:List Int} (rx:rdS (hp w) xs a l) (ry:rdS (hp w) ys b m) (hs:Rise xs) (hy:∀ z∈ys,z∈xs) (hb:l≤4611686018427387904) (hm:m≤4611686018427387904):Run Tryz.prog n_presagelaw13_both [.slice a l c,.slice b m cb] w fun v w'=>v = .slice a l c∧w' = w:=by
  refine run_presagelaw13_both _ _ _ _ _ _ w _ ⟨fun o n c' z w'=>∃ j:Nat,z = j∧j≤m∧o = a∧n = l∧c' = c∧w' = w,fun _ _ _ z _=>m - z.toNat,⟨0,rfl,Nat.zero_le _,rfl,rfl,rfl,rfl⟩,?_⟩
  rintro _ _ _ _ _ w1 ⟨j,rfl,hj,rfl,rfl,rfl,rfl⟩
  refine br_intro (fun h2=>?_) fun h2=>⟨rfl,rfl⟩
  have h2:j < m:=by have:=of_decide_eq_true h2; omega
  obtain ⟨y,ad,hy1,hya,hy2⟩:=ry.get1 h2
  refine idx_i hya h2 ⟨y,hy2 _ (sub.refl _),(d_PutSame rx hs (hy y (List.mem_of_getElem? hy1)) hb).mono ?_⟩
  rintro _ w2 ⟨rfl,rfl⟩
  exact ⟨_,_,_,rfl,⟨by omega,by omega⟩,⟨j + 1,by simp,h2,rfl,rfl,rfl,rfl⟩,msr h2⟩
end Go.Proofs.YtngdohpikfcifaaGreatDoor
set_option linter.unusedVariables false
set_option maxRecDepth 4000
namespace Go.V
open Go.Proofs.YtngdohpikfcifaaGreatDoor
inductive Rdw (g:GramT) (ss:List SQ):Nat→Nat→Prop
  | now (j x:Nat):x < g.T→(nxt ss j (x:Int)).isSome→Rdw g ss j x
  | via (j k x:Nat) (s:Int):(g.T:Int)≤s→Nul g s→nxt ss j s = some (k:Int)→Rdw g ss k x→Rdw g ss j x
section
variable {g:GramT} {nn:List Bool} {ss:List SQ}
theorem nul_ge (hc:ClosedP g) {s:Int} (h:Nul g s):(g.T:Int)≤s∧s < g.T + g.N:=by
  cases h with
  | mk p hp _=>exact (inG (.inr hc)).1 p hp |>.1
theorem vanB_iff (hn:NnP g nn) {s:Int} (h:(g.T:Int)≤s):vanB g nn s = true↔Nul g s:=by
  unfold vanB
  rw [decide_eq_true h,Bool.true_and,hn.2,show ((g.T + (s.toNat - g.T):Nat):Int) = s by omega]
theorem vanR_iff (hc:ClosedP g) (hn:NnP g nn) {row:List Int}:vanR g nn row = true↔NulR g row:=by
  unfold vanR NulR
  rw [List.all_eq_true]
  refine forall_congr' fun s=>forall_congr' fun _=>⟨fun h=>(vanB_iff hn (vanB_ge h)).1 h,fun h=>(vanB_iff hn (nul_ge hc h).1).2 h⟩
def rest (g:GramT) (y:ItemT):List Int:=match g.prods[y.prod.toNat]? with
  | some p=>p.right.drop y.dot.toNat
  | none=>[]
theorem aft_rest {y:ItemT} (h:0≤aft g y):∃ p,g.prods[y.prod.toNat]? = some p∧p.right[y.dot.toNat]? = some (aft g y)∧rest g y = aft g y :: p.right.drop (y.dot.toNat + 1):=by
  unfold aft at h ⊢
  unfold rest
  cases hp:g.prods[y.prod.toNat]? with
  | none=>rw [hp] at h; simp at h
  | some p =>
    rw [hp] at h
    simp only at h ⊢
    have hl:y.dot.toNat < p.right.length:=by
      refine Nat.lt_of_not_le fun hh=>?_
      rw [List.getD_eq_getElem?_getD,List.getElem?_eq_none hh] at h
      simp at h
    rw [List.getD_eq_getElem?_getD,List.getElem?_eq_getElem hl]
    exact ⟨p,rfl,List.getElem?_eq_getElem hl,List.drop_eq_getElem_cons hl⟩
theorem FstR.head {s:Int} {l:List Int} {x:Nat} (h:Fst g s x):FstR g (s :: l) x:=⟨0,s,rfl,by simp,h⟩
theorem FstR.skip {s:Int} {l:List Int} {x:Nat} (h:Nul g s) (hl:FstR g l x):FstR g (s :: l) x:=by
  obtain ⟨i,y,h1,h2,h3⟩:=hl
  refine ⟨i + 1,y,h1,fun z hz=>?_,h3⟩
  rw [List.take_succ_cons] at hz
  rcases List.mem_cons.1 hz with rfl | hz
  · exact h
  · exact h2 z hz
theorem FstR.left {p:ProdT} {x:Nat} (hp:p∈g.prods) (h:FstR g p.right x):Fst g p.left x:=by
  obtain ⟨i,s,h1,h2,h3⟩:=h
  exact .pr p i s x hp h1 h2 h3
theorem base_of {I:List ItemT} {y:ItemT} (h:ClM g I y):∀ x,FstR g (rest g y) x→∃ z∈I,FstR g (rest g z) x:=by
  induction h with
  | base hx=>exact fun x hr=>⟨_,hx,hr⟩
  | @step y i p h1 h2 h3 h4 ih =>
    intro x hr
    obtain ⟨p',_,_,h5⟩:=aft_rest h2
    refine ih x ?_
    rw [h5,← h4]
    have e:rest g ⟨(i:Int),0⟩ = p.right:=by
      unfold rest
      rw [show g.prods[((⟨(i:Int),0⟩ : ItemT).prod).toNat]? = some p by show g.prods[(i:Int).toNat]? = _; rw [Int.toNat_natCast]; exact h3]
      rfl
    rw [e] at hr
    exact .head (hr.left (List.mem_of_getElem? h3))
theorem Rdw.item (hc:ClosedP g) (hA:AutI g ss) {j x:Nat} (h:Rdw g ss j x):∀ q,ss[j]? = some q→∃ z∈q.1.2,FstR g (rest g z) x:=by
  induction h with
  | now j x hx hs =>
    intro q hq
    obtain ⟨hT,hN,_⟩:=hc.sizes
    rw [nxt_kern hA hq (by omega)] at hs
    have hs:=of_decide_eq_true hs
    obtain ⟨z,hz⟩:=List.exists_mem_of_ne_nil _ hs
    obtain ⟨y,h1,h2,_⟩:=kern_mem.1 hz
    refine base_of h1 x ?_
    obtain ⟨_,_,_,h5⟩:=aft_rest (y:=y) (by rw [h2]; omega)
    rw [h5,h2]
    exact .head (.tm x hx)
  | via j k x s hs hn hk hr ih =>
    intro q hq
    obtain ⟨q',i,e,hq',he,he1,he2⟩:=nxt_inv hk
    rw [hq] at hq'; cases hq'
    obtain ⟨_,_,k',r,hk',_,hr',hrk,_⟩:=aut_edge hc hA hq he
    rw [he2] at hk'
    have hkk:k = k':=by omega
    subst hkk
    obtain ⟨z,hz,hf⟩:=ih r hr'
    rw [hrk,he1] at hz
    obtain ⟨y,h1,h2,rfl⟩:=kern_mem.1 hz
    refine base_of h1 x ?_
    obtain ⟨p,hp,_,h5⟩:=aft_rest (y:=y) (by rw [h2]; omega)
    rw [h5,h2]
    refine .skip hn ?_
    unfold rest at hf
    rw [show g.prods[((⟨y.prod,y.dot + 1⟩ : ItemT).prod).toNat]? = some p from hp] at hf
    obtain ⟨hT,hN,hP,hP2,_,_⟩:=hc.sizes
    have hK:=(aut_at hA hq).1
    have hfit:=h1.fit ((bst_inv (g:=g) (by omega) j).fit _ (List.mem_of_getElem? hK))
    have hd:(y.dot + 1).toNat = y.dot.toNat + 1:=by have:=hfit.2.1; omega
    rw [← hd]
    exact hf
end
end Go.V
set_option linter.unusedVariables false
set_option maxRecDepth 4000
namespace Go.V
open Go.Proofs.YtngdohpikfcifaaGreatDoor
inductive Fol (g:GramT):Int→Nat→Prop
  | st:Fol g (g.T:Int) 0
  | fst (p:ProdT) (k:Nat) (s:Int) (x:Nat):p∈g.prods→p.right[k]? = some s→FstR g (p.right.drop (k + 1)) x→Fol g s x
  | up (p:ProdT) (k:Nat) (s:Int) (x:Nat):p∈g.prods→p.right[k]? = some s→NulR g (p.right.drop (k + 1))→Fol g p.left x→Fol g s x
section
variable {g:GramT} {nn:List Bool} {ss:List SQ}
theorem dirL_at {v:Nat} {t:TransT} (ht:(TrL g ss)[v]? = some t):(DirL g ss).getD v [] = dirOf g ss t:=by
  unfold DirL; rw [List.getD_eq_getElem?_getD,List.getElem?_map,ht]; rfl
theorem en_row {n:Nat} {f:Nat→Nat→Bool} {v m:Nat}:m∈En ((List.range n).map fun i=>rowF n (f i)) v↔v < n∧m < n∧f v m = true:=by
  unfold En
  rw [List.getD_eq_getElem?_getD]
  by_cases hv:v < n
  · rw [List.getElem?_map,List.getElem?_range hv]
    simp only [Option.map_some,Option.getD_some,List.mem_map]
    constructor
    · rintro ⟨z,hz,rfl⟩
      obtain ⟨k,rfl,h1,h2⟩:=rowF_mem.1 hz
      exact ⟨hv,h1,h2⟩
    · rintro ⟨_,h1,h2⟩
      exact ⟨(m:Int),rowF_mem.2 ⟨m,rfl,h1,h2⟩,rfl⟩
  · rw [List.getElem?_eq_none (by simp; omega)]
    simp
    omega
theorem en_rds {v m:Nat}:m∈En (RdsL g nn ss) v↔v < (TrL g ss).length∧m < (TrL g ss).length∧readB g nn ss v m = true:=en_row
theorem en_inc {v m:Nat}:m∈En (IncL g nn ss) v↔v < (TrL g ss).length∧m < (TrL g ss).length∧incB g nn ss v m = true:=en_row
theorem trl_at {v:Nat} {t:TransT} (hc:ClosedP g) (hA:AutI g ss) (ht:(TrL g ss)[v]? = some t):∃ (i j:Nat) (q r:SQ),t.st = i∧ss[i]? = some q∧(g.T:Int)≤t.sym∧nxt ss i t.sym = some (j:Int)∧1≤j∧ss[j]? = some r∧r.1.2 = kern g q.1.2 t.sym:=by
  obtain ⟨i,q,k,e,hi,hq,he,hge,rfl⟩:=TrN_mem (List.mem_of_getElem? ht)
  obtain ⟨_,_,j,r,hj,hj1,hr,hrk,_⟩:=aut_edge hc hA hq he
  exact ⟨i,j,q,r,rfl,hq,hge,by rw [← hj]; exact nxt_edge hA hq he,hj1,hr,hrk⟩
theorem trl_of {i:Nat} {s j:Int} (h:nxt ss i s = some j) (hs:(g.T:Int)≤s):∃ v:Nat,(TrL g ss)[v]? = some ⟨(i:Int),s⟩:=by
  obtain ⟨q,k,e,hq,he,rfl,_⟩:=nxt_inv h
  exact ⟨_,TrL_at hq he hs⟩
theorem dir_iff (hc:ClosedP g) (hA:AutI g ss) {v i j x:Nat} {t:TransT} (ht:(TrL g ss)[v]? = some t) (hi:t.st = i) (hj:nxt ss i t.sym = some (j:Int)):(x:Int)∈(DirL g ss).getD v []↔(t = ⟨0,g.start⟩∧x = 0)∨(x < g.T∧(nxt ss j (x:Int)).isSome):=by
  have hc':=hc.sizes
  obtain ⟨i',j',q,r,h1,h2,h3,h4,h5,h6,_⟩:=trl_at hc hA ht
  have:i' = i:=by omega
  subst this
  rw [hj] at h4
  have:j = j':=by have:=Option.some.inj h4; omega
  subst this
  rw [dirL_at ht,dirOf_eq (j:=j) (q:=r) (by rw [hi]; exact hj) h6,List.mem_append,flT_eq hA h6,List.mem_map]
  refine or_congr ?_ ?_
  · unfold preT
    by_cases e:t = ⟨0,g.start⟩
    · rw [if_pos e]; simp [e]
    · rw [if_neg e]; simp [e]
  · constructor
    · rintro ⟨y,hy,e⟩
      have:y = x:=by have e:(y:Int) = x:=e; omega
      subst this
      obtain ⟨h7,h8⟩:=List.mem_filter.1 hy
      have h7:=List.mem_range.1 h7
      exact ⟨h7,by rw [nxt_kern hA h6 (by omega)]; exact h8⟩
    · rintro ⟨h7,h8⟩
      rw [nxt_kern hA h6 (by omega)] at h8
      exact ⟨x,List.mem_filter.2 ⟨List.mem_range.2 h7,h8⟩,rfl⟩
theorem Rdw.has (hc:ClosedP g) (hA:AutI g ss) (hn:NnP g nn) {j x:Nat} (h:Rdw g ss j x):∀ (v i:Nat) t,(TrL g ss)[v]? = some t→t.st = i→nxt ss i t.sym = some (j:Int)→HasP (RdsL g nn ss) (DirL g ss) v x:=by
  induction h with
  | now j x hx hs=>exact fun v i t ht hi hj=>HasP.iff.2 (.inl ((dir_iff hc hA ht hi hj).2 (.inr ⟨hx,hs⟩)))
  | via j k x s hs hnu hk hr ih =>
    intro v i t ht hi hj
    obtain ⟨u,hu⟩:=trl_of (g:=g) hk hs
    refine HasP.iff.2 (.inr ⟨u,en_rds.2 ⟨(List.getElem?_eq_some_iff.1 ht).1,(List.getElem?_eq_some_iff.1 hu).1,?_⟩,ih u j _ hu rfl hk⟩)
    unfold readB
    rw [ht,hu]
    simp only [Bool.and_eq_true,decide_eq_true_eq]
    rw [hi]
    exact ⟨hj,(vanB_iff hn hs).2 hnu⟩
theorem rds_at {v u:Nat} {t:TransT} (ht:(TrL g ss)[v]? = some t) (h:u∈En (RdsL g nn ss) v):∃ t',(TrL g ss)[u]? = some t'∧nxt ss t.st.toNat t.sym = some t'.st∧vanB g nn t'.sym = true:=by
  obtain ⟨_,h2,h3⟩:=en_rds.1 h
  have hu:(TrL g ss)[u]? = some (TrL g ss)[u]:=List.getElem?_eq_getElem h2
  unfold readB at h3
  rw [ht,hu] at h3
  simp only [Bool.and_eq_true,decide_eq_true_eq] at h3
  exact ⟨_,hu,h3⟩
theorem has_rdw (hc:ClosedP g) (hA:AutI g ss) (hn:NnP g nn) {v x:Nat} (h:HasP (RdsL g nn ss) (DirL g ss) v x):∀ (i j:Nat) t,(TrL g ss)[v]? = some t→t.st = i→nxt ss i t.sym = some (j:Int)→(t = ⟨0,g.start⟩∧x = 0)∨Rdw g ss j x:=by
  refine HasP.least (Q:=fun v x=>∀ (i j:Nat) t,(TrL g ss)[v]? = some t→t.st = i→nxt ss i t.sym = some (j:Int)→(t = ⟨0,g.start⟩∧x = 0)∨Rdw g ss j x) (fun v x hx i j t ht hi hj=>?_) (fun v u x hu ih i j t ht hi hj=>?_) h
  · rcases (dir_iff hc hA ht hi hj).1 hx with h | ⟨h1,h2⟩
    · exact .inl h
    · exact .inr (.now j x h1 h2)
  · obtain ⟨t',ht',h1,h2⟩:=rds_at ht hu
    obtain ⟨i2,j2,_,_,e1,_,e3,e4,_⟩:=trl_at hc hA ht'
    rw [hi,Int.toNat_natCast,hj] at h1
    have e5:i2 = j:=by have:=Option.some.inj h1; omega
    subst e5
    rcases ih i2 j2 t' ht' e1 e4 with ⟨rfl,_⟩ | h3
    · obtain ⟨i',j',_,_,f1,_,_,f4,f5,_⟩:=trl_at hc hA ht
      have:i' = i:=by omega
      subst this
      rw [hj] at f4
      have:=Option.some.inj f4
      have e1:(0:Int) = i2:=e1
      omega
    · exact .inr (.via i2 j2 x t'.sym e3 ((vanB_iff hn e3).1 h2) e4 h3)
theorem rdw_fol (hc:ClosedP g) (hA:AutI g ss) {i j x:Nat} {t:TransT} {v:Nat} (ht:(TrL g ss)[v]? = some t) (hi:t.st = i) (hj:nxt ss i t.sym = some (j:Int)) (h:Rdw g ss j x):Fol g t.sym x:=by
  obtain ⟨i',j',q,r,f1,hq,f3,f4,f5,hr,hrk⟩:=trl_at hc hA ht
  have:i' = i:=by omega
  subst this
  rw [hj] at f4
  have:j = j':=by have:=Option.some.inj f4; omega
  subst this
  obtain ⟨z,hz,hf⟩:=h.item hc hA r hr
  rw [hrk] at hz
  obtain ⟨y,h1,h2,rfl⟩:=kern_mem.1 hz
  obtain ⟨p,hp,hs,_⟩:=aft_rest (y:=y) (by rw [h2]; omega)
  obtain ⟨hT,hN,hP,hP2,_,_⟩:=hc.sizes
  have hK:=(aut_at hA hq).1
  have hfit:=h1.fit ((bst_inv (g:=g) (by omega) i').fit _ (List.mem_of_getElem? hK))
  have hd:(y.dot + 1).toNat = y.dot.toNat + 1:=by have:=hfit.2.1; omega
  unfold rest at hf
  rw [show g.prods[((⟨y.prod,y.dot + 1⟩ : ItemT).prod).toNat]? = some p from hp] at hf
  have hf:FstR g (p.right.drop (y.dot + 1).toNat) x:=hf
  rw [hd] at hf
  rw [h2] at hs
  exact .fst p y.dot.toNat _ x (List.mem_of_getElem? hp) hs hf
theorem fol_start (hc:ClosedP g):Fol g g.start 0:=by
  obtain ⟨_,_,_,p0,hp0,hl0,hr0,_⟩:=hc
  refine .up p0 0 _ 0 (List.mem_of_getElem? hp0) (by rw [hr0]; rfl) (fun s hs=>?_) (by rw [hl0]; exact .st)
  rw [hr0] at hs
  simp at hs
theorem rg_fol (hc:ClosedP g) (hA:AutI g ss) (hn:NnP g nn) {v x:Nat} {t:TransT} (ht:(TrL g ss)[v]? = some t) (h:HasP (RdsL g nn ss) (DirL g ss) v x):Fol g t.sym x:=by
  obtain ⟨i,j,_,_,h1,_,_,h4,_⟩:=trl_at hc hA ht
  rcases has_rdw hc hA hn h i j t ht h1 h4 with ⟨rfl,rfl⟩ | h5
  · exact fol_start hc
  · exact rdw_fol hc hA ht h1 h4 h5
theorem rgl_at {v:Nat} (hv:v < (TrL g ss).length):(RgL g nn ss).getD v [] = solRow (RdsL g nn ss) (DirL g ss) v:=by
  unfold RgL; rw [List.getD_eq_getElem?_getD,solL_get (by rw [RdsL_len]; exact hv)]; rfl
theorem fgl_at {v:Nat} (hv:v < (TrL g ss).length):(FgL g nn ss).getD v [] = solRow (IncL g nn ss) (RgL g nn ss) v:=by
  unfold FgL; rw [List.getD_eq_getElem?_getD,solL_get (by rw [IncL_len]; exact hv)]; rfl
theorem inc_at {v u:Nat} (h:u∈En (IncL g nn ss) v):∃ t t' p k,(TrL g ss)[v]? = some t∧(TrL g ss)[u]? = some t'∧p∈g.prods∧p.left = t'.sym∧p.right[k]? = some t.sym∧vanR g nn (p.right.drop (k + 1)) = true:=by
  obtain ⟨h1,h2,h3⟩:=en_inc.1 h
  have hu:(TrL g ss)[u]? = some (TrL g ss)[u]:=List.getElem?_eq_getElem h2
  unfold incB at h3
  rw [hu] at h3
  simp only [List.any_eq_true] at h3
  obtain ⟨m,hm,h3⟩:=h3
  rw [Bool.and_eq_true] at h3
  obtain ⟨_,h3⟩:=h3
  cases hp:g.prods[m]? with
  | none=>rw [hp] at h3; cases h3
  | some p =>
    rw [hp] at h3
    simp only [Bool.and_eq_true,List.any_eq_true,decide_eq_true_eq] at h3
    obtain ⟨h4,k,hk,h5,h6⟩:=h3
    have hk:=List.mem_range.1 hk
    refine ⟨_,_,p,k,h5,hu,List.mem_of_getElem? hp,h4,?_,h6⟩
    rw [List.getD_eq_getElem?_getD,List.getElem?_eq_getElem hk]; rfl
theorem fg_fol (hc:ClosedP g) (hA:AutI g ss) (hn:NnP g nn) {v x:Nat} (h:HasP (IncL g nn ss) (RgL g nn ss) v x):∀ t,(TrL g ss)[v]? = some t→Fol g t.sym x:=by
  refine HasP.least (Q:=fun v x=>∀ t,(TrL g ss)[v]? = some t→Fol g t.sym x) (fun v x hx t ht=>?_) (fun v u x hu ih t ht=>?_) h
  · rw [rgl_at (List.getElem?_eq_some_iff.1 ht).1] at hx
    obtain ⟨x',e,_,hh⟩:=solRow_mem.1 hx
    have:x' = x:=by omega
    subst this
    exact rg_fol hc hA hn ht hh
  · obtain ⟨t0,t',p,k,h1,h2,h3,h4,h5,h6⟩:=inc_at hu
    rw [ht] at h1; cases h1
    exact .up p k _ x h3 h5 ((vanR_iff hc hn).1 h6) (by rw [h4]; exact ih t' h2)
end
end Go.V
set_option linter.unusedVariables false
set_option maxRecDepth 4000
namespace Go.V
open Go.Proofs.YtngdohpikfcifaaGreatDoor
section
variable {g:GramT} {nn:List Bool} {ss:List SQ} {w w' : World} {v:Value} {a i f:Int}
theorem Tells.at {F:GramT→List Bool→List SQ→List (List Int)} (hF:RowF F) (hR:Res g ss a i f) (hn:f = 0→NnP g nn) (h:Tells F g w v w'):∃ (o:Option Addr) (c:Nat),v = .tuple #[.slice o (TrL g ss).length c,.int .i64 f]∧rdS (hp w') (F g nn ss) o (TrL g ss).length∧Gr w w':=by
  obtain ⟨ss2,ask,int,f2,nn2,o,c,ds,rfl,hR2,hn2,hds,h⟩:=h
  obtain ⟨_,hes,_,_,rfl,_⟩:=hR.one hR2
  have e:F g nn2 ss2 = F g nn ss:=by
    by_cases hf:f = 0
    · rw [(hn2 hf).inj (hn hf),hF.es hes]
    · rw [hR.nil hf,hR2.nil hf,hF.nil,hF.nil]
  rw [e] at hds
  have hl:ds.length = (TrL g ss).length:=by have:=congrArg List.length hds; rw [List.length_map,hF.ln] at this; exact this
  have r:=rdLq h
  rw [hds,hl] at r
  exact ⟨o,c,by rw [hl],r,rdH 2 h.l⟩
theorem look_mem {fs:List (List Int)} {b:BackT} {z:Int}:z∈(lookOf g fs b).tm↔∃ x:Nat,z = x∧x < g.T∧∃ t∈b.tr,(x:Int)∈fs.getD t.toNat []:=by
  unfold lookOf
  rw [rowF_mem]
  simp
theorem look_len {fs:List (List Int)} {b:BackT}:(lookOf g fs b).tm.length≤g.T:=rowF_len _ _
end
end Go.V
namespace Go.Proofs.YtngdohpikfcifaaGreatDoor
open Go.V
variable {w:World} {L:List Asn} {g:GramT} {x:GA} {ss:List SQ} {nn:List Bool} {a i f:Int}
end Go.Proofs.YtngdohpikfcifaaGreatDoor
set_option linter.unusedVariables false
set_option maxRecDepth 4000
namespace Go.V
open Go.Proofs.YtngdohpikfcifaaGreatDoor
section
variable {g:GramT} {nn:List Bool} {ss:List SQ}
end
end Go.V
namespace Go.Proofs.YtngdohpikfcifaaGreatDoor
open Go.V
variable {w:World} {L:List Asn} {g:GramT} {x:GA} {ss:List SQ} {nn:List Bool}
end Go.Proofs.YtngdohpikfcifaaGreatDoor
set_option linter.unusedVariables false
set_option maxRecDepth 4000
namespace Go.Proofs.YtngdohpikfcifaaGreatDoor
open Go.V
variable {w:World} {L:List Asn} {g:GramT} {x:GA} {st:Int}
end Go.Proofs.YtngdohpikfcifaaGreatDoor
set_option linter.unusedVariables false
set_option maxRecDepth 4000
namespace Go.V
section
variable {n k i j:Nat} {f f0:Nat→List Int} {L:List Asn} {A:Asn} {w w' w0:World}
theorem RowsC.eq (h:RowsC n f k L w) (e:hp w' = hp w):RowsC n f k L w':=by
  obtain ⟨es,h1,h2,h3⟩:=h
  exact ⟨es,h1,h2,h3.eq e⟩
theorem RowsC.tail (h:RowsC n f k (A :: L) w):RowsC n f k L w:=by
  obtain ⟨es,h1,h2,h3⟩:=h
  exact ⟨es,h1,h2,(h3.pick 3 [2,0,1]).tail⟩
theorem RowsC.on1 (h:RowsC n f k L w) (h1:St w' (A :: all w)):RowsC n f k (A :: L) w':=by
  obtain ⟨es,q1,q2,q3⟩:=h
  exact ⟨es,q1,q2,(h1.on1 q3).pick 3 [1,2,0]⟩
theorem RowsC.cell (h:RowsC n f k L w) (hi:i < n):∃ (o:Option Addr) (c:Nat),w.cell? ((aM k).add i) = some (.slice o (f i).length c):=by
  obtain ⟨q,es,e1,_,e3,h,_⟩:=h.take hi
  refine ⟨q.1.1,q.1.2,?_⟩
  rw [← e1]
  exact (rdCel 2 h.l).cell (sub.refl _) e3
theorem setQ_same {α : Type} {l:List α} {i:Nat} {x:α} (h:l[i]? = some x):l.set i x = l:=by
  obtain ⟨h1,rfl⟩:=List.getElem?_eq_some_iff.1 h
  exact List.set_getElem_self h1
theorem RowsC.take2 (h:RowsC n f k L w) (hi:i < n) (hj:j < n) (hij:i≠j):∃ (q r:Lq Int) (es:List (Lq Int)) (M:List Asn),q.2 = f i∧r.2 = f j∧es.length = n∧(es.map slQ)[i]? = some (slQ q)∧(es.map slQ)[j]? = some (slQ r) ∧
    St w (own 1 q.1.1 q.2.length q.1.2 (iv q.2) :: own 1 r.1.1 r.2.length r.1.2 (iv r.2) :: sta M :: cel k (es.map slQ) :: L) ∧
    ∀ (w' : World) (L' : List Asn) (o:Option Addr) (c:Nat) (xs:List Int),St w' (own 1 o xs.length c (iv xs) :: own 1 r.1.1 r.2.length r.1.2 (iv r.2) :: sta M :: cel k ((es.map slQ).set i (.slice o xs.length c)) :: L')→RowsC n (fun j=>if j = i then xs else f j) k L' w':=by
  have hC:=h
  obtain ⟨es,h1,h2,h3⟩:=h
  obtain ⟨q,hq⟩ : ∃ q,es[i]? = some q:=⟨_,List.getElem?_eq_getElem (by omega)⟩
  obtain ⟨r,hr⟩ : ∃ r,es[j]? = some r:=⟨_,List.getElem?_eq_getElem (by omega)⟩
  have hA:(es.map (owQ 1 iv))[i]? = some (owQ 1 iv q):=by rw [List.getElem?_map,hq]; rfl
  obtain ⟨j',hj'⟩ : ∃ j',((es.map (owQ 1 iv)).eraseIdx i)[j']? = some (owQ 1 iv r):=by
    by_cases hlt:j < i
    · exact ⟨j,by rw [List.getElem?_eraseIdx_of_lt hlt,List.getElem?_map,hr]; rfl⟩
    · refine ⟨j - 1,?_⟩
      rw [List.getElem?_eraseIdx_of_ge (by omega),show j - 1 + 1 = j by omega,List.getElem?_map,hr]; rfl
  refine ⟨q,r,es,((es.map (owQ 1 iv)).eraseIdx i).eraseIdx j',h2 i q hq,h2 j r hr,h1,by rw [List.getElem?_map,hq]; rfl,by rw [List.getElem?_map,hr]; rfl,?_,fun w' L' o c xs h=>?_⟩
  · have h:=St.out (h3.pick 2 [1,0]) hA
    have h:=St.out (h.pick 2 [1,0]) hj'
    exact h.pick 3 [2,0,1]
  · have h:=St.back (B:=owQ 1 iv r) (h.pick 3 [1,2,0]) hj'
    rw [setQ_same hj'] at h
    have h:=St.back (B:=own 1 o xs.length c (iv xs)) (h.pick 2 [1,0]) hA
    refine ⟨es.set i ((o,c),xs),by rw [List.length_set]; exact h1,fun j r hr=>?_,?_⟩
    · by_cases e:i = j
      · subst e
        rw [List.getElem?_set_self (by omega)] at hr
        cases hr
        show xs = if i = i then xs else f i
        rw [if_pos rfl]
      · rw [List.getElem?_set_ne e] at hr
        show r.2 = if j = i then xs else f j
        rw [if_neg (Ne.symm e)]
        exact h2 j r hr
    · rw [show own 1 o xs.length c (iv xs) = owQ 1 iv (((o,c),xs):Lq Int) from rfl,← List.map_set,show (.slice o xs.length c:Value) = slQ (((o,c),xs):Lq Int) from rfl,← List.map_set] at h
      exact h.pick 2 [1,0]
def upF (f:Nat→List Int) (i:Nat) (xs:List Int):Nat→List Int:=fun j=>if j = i then xs else f j
theorem upF_self {xs:List Int}:upF f i xs i = xs:=by unfold upF; rw [if_pos rfl]
theorem upF_ne {xs:List Int} (h:j≠i):upF f i xs j = f j:=by unfold upF; rw [if_neg h]
theorem upF_up {xs ys:List Int}:upF (upF f i xs) i ys = upF f i ys:=by
  funext j; unfold upF; by_cases e:j = i <;> simp [e]
def totL (n:Nat) (f:Nat→List Int):Nat:=((List.range n).map fun j=>(f j).length).sum
theorem totL_succ:totL (n + 1) f = totL n f + (f n).length:=by
  unfold totL; rw [List.range_succ,List.map_append,List.sum_append]; simp
theorem totL_up {xs:List Int}:∀ {n:Nat},i < n→totL n (upF f i xs) + (f i).length = totL n f + xs.length
  | n + 1,h=>by
    rw [totL_succ,totL_succ]
    by_cases e:i = n
    · subst e
      rw [upF_self]
      have:∀ m,m≤i→totL m (upF f i xs) = totL m f:=by
        intro m
        induction m with
        | zero=>intro _; rfl
        | succ m ih =>
          intro hm
          rw [totL_succ,totL_succ,ih (by omega),upF_ne (by omega)]
      rw [this i (Nat.le_refl _)]
      omega
    · rw [upF_ne (fun h=>e h.symm)]
      have:=totL_up (xs:=xs) (n:=n) (by omega)
      omega
theorem totL_le {B:Nat}:∀ {n:Nat},(∀ j,j < n→(f j).length≤B)→totL n f≤n * B
  | 0,_=>by simp [totL]
  | n + 1,h=>by
    rw [totL_succ,Nat.succ_mul]
    have:=totL_le (n:=n) fun j hj=>h j (by omega)
    have:=h n (by omega)
    omega
theorem rise_nd {l:List Int} (h:Rise l):l.Nodup:=List.nodup_iff_pairwise_ne.2 (h.imp fun h e=>by omega)
theorem rise_bound {l:List Int} {B:Nat} (h:Rise l) (hb:∀ z∈l,0≤z∧z < B):l.length≤B:=by
  have e:l = rowF B fun k=>decide ((k:Int)∈l):=by
    refine rise_eq h (rowF_rise _ _) fun z=>?_
    rw [rowF_mem]
    constructor
    · intro hz
      have:=hb z hz
      exact ⟨z.toNat,by omega,by omega,by rw [decide_eq_true_eq,show ((z.toNat:Nat):Int) = z by omega]; exact hz⟩
    · rintro ⟨k,rfl,_,hk⟩
      exact of_decide_eq_true hk
  rw [e]
  exact rowF_len _ _
theorem nd_sub:∀ {l m:List Int},l.Nodup→(∀ z∈l,z∈m)→l.length≤m.length
  | [],_,_,_=>Nat.zero_le _
  | a :: l,m,h,hs=>by
    obtain ⟨h1,h2⟩:=List.nodup_cons.1 h
    have h3:=nd_sub (m:=m.erase a) h2 fun z hz=>(List.mem_erase_of_ne (fun e=>h1 (by rw [← e]; exact hz))).2 (hs z (by simp [hz]))
    have h4:=List.length_erase_of_mem (hs a (by simp))
    have h5:=List.length_pos_of_mem (hs a (by simp))
    simp only [List.length_cons]
    omega
theorem rise_len {l m:List Int} (h:Rise l) (hs:∀ z∈l,z∈m):l.length≤m.length:=nd_sub (rise_nd h) hs
theorem rise_same {l m:List Int} (h:Rise l) (hm:Rise m) (hs:∀ z∈l,z∈m) (hl:m.length≤l.length):l = m:=by
  refine rise_eq h hm fun z=>⟨hs z,fun hz=>Classical.byContradiction fun hn=>?_⟩
  have:=nd_sub (l:=z :: l) (m:=m) (List.nodup_cons.2 ⟨hn,rise_nd h⟩) fun y hy=>by
    rcases List.mem_cons.1 hy with rfl | hy
    · exact hz
    · exact hs y hy
  simp only [List.length_cons] at this
  omega
structure Grew (n:Nat) (f0 f:Nat→List Int) (b:Bool):Prop where
  le:totL n f0≤totL n f
  yes:b = true→totL n f0 < totL n f
  no:b = false→∀ j,j < n→f j = f0 j
theorem Grew.start:Grew n f0 f0 false:=⟨Nat.le_refl _,fun h=>(by cases h),fun _ _ _=>rfl⟩
theorem Grew.step {b:Bool} {xs:List Int} (h:Grew n f0 f b) (hi:i < n) (hr:Rise (f i)) (hx:Rise xs) (hs:∀ z∈f i,z∈xs):Grew n f0 (upF f i xs) (b || decide ((f i).length < xs.length)):=by
  have h1:=totL_up (f:=f) (xs:=xs) hi
  have h2:=rise_len hr hs
  have h3:=h.le
  refine ⟨by omega,fun hb=>?_,fun hb j hj=>?_⟩
  · rw [Bool.or_eq_true,decide_eq_true_eq] at hb
    rcases hb with hb | hb
    · have:=h.yes hb; omega
    · omega
  · rw [Bool.or_eq_false_iff,decide_eq_false_iff_not] at hb
    have e:=rise_same hr hx hs (by omega)
    by_cases e2:j = i
    · subst e2
      rw [upF_self,← e]
      exact h.no hb.1 j hj
    · rw [upF_ne e2]
      exact h.no hb.1 j hj
end
end Go.V
set_option linter.unusedVariables false
set_option maxRecDepth 4000
namespace Go.V
open Go.Proofs.YtngdohpikfcifaaGreatDoor
section
variable {g:GramT} {nn:List Bool} {ss:List SQ} {f f' : Nat→List Int} {n k:Nat}
structure FwI (g:GramT) (f:Nat→List Int):Prop where
  ri:∀ j,j < g.T + g.N→Rise (f j)∧∀ z∈f j,0≤z∧z < g.T
  st:(0:Int)∈f g.T
def CloP (g:GramT) (f:Nat→List Int) (p:ProdT) (k:Nat):Prop:=∀ (k' : Nat) (s:Int),k' < k→p.right[k']? = some s→(∀ x,FstR g (p.right.drop (k' + 1)) x→(x:Int)∈f s.toNat)∧(NulR g (p.right.drop (k' + 1))→∀ z∈f p.left.toNat,z∈f s.toNat)
def CloA (g:GramT) (f:Nat→List Int) (i:Nat):Prop:=∀ (m:Nat) p,m < i→g.prods[m]? = some p→CloP g f p p.right.length
theorem fol_in (hi:FwI g f) (hc:CloA g f g.prods.length) {s:Int} {x:Nat} (h:Fol g s x):(x:Int)∈f s.toNat:=by
  induction h with
  | st=>rw [Int.toNat_natCast]; exact hi.st
  | fst p k s x hp hs hf =>
    obtain ⟨m,hm⟩:=List.getElem?_of_mem hp
    exact (hc m p (List.getElem?_eq_some_iff.1 hm).1 hm k s (List.getElem?_eq_some_iff.1 hs).1 hs).1 x hf
  | up p k s x hp hs hn _ ih =>
    obtain ⟨m,hm⟩:=List.getElem?_of_mem hp
    exact (hc m p (List.getElem?_eq_some_iff.1 hm).1 hm k s (List.getElem?_eq_some_iff.1 hs).1 hs).2 hn _ ih
theorem CloP.congr (hG:InG g) {p:ProdT} (hp:p∈g.prods) (he:∀ j,j < g.T + g.N→f' j = f j) (h:CloP g f p k):CloP g f' p k:=fun k' s hk hs=>by
  have h1:=hG p hp
  have h2:=h1.2 s (List.mem_of_getElem? hs)
  rw [he s.toNat (by omega),he p.left.toNat (by omega)]
  exact h k' s hk hs
theorem CloA.congr (hG:InG g) {i:Nat} (he:∀ j,j < g.T + g.N→f' j = f j) (h:CloA g f i):CloA g f' i:=fun m p hm hp=>(h m p hm hp).congr hG (List.mem_of_getElem? hp) he
theorem CloA.succ {i:Nat} {p:ProdT} (h:CloA g f i) (hp:g.prods[i]? = some p) (h2:CloP g f p p.right.length):CloA g f (i + 1):=fun m p' hm hp'=>by
  by_cases e:m = i
  · subst e; rw [hp] at hp'; cases hp'; exact h2
  · exact h m p' (by omega) hp'
theorem CloP.succ {p:ProdT} {s:Int} (h:CloP g f p k) (hs:p.right[k]? = some s) (h1:∀ x,FstR g (p.right.drop (k + 1)) x→(x:Int)∈f s.toNat) (h2:NulR g (p.right.drop (k + 1))→∀ z∈f p.left.toNat,z∈f s.toNat):CloP g f p (k + 1):=fun k' s' hk hs'=>by
  by_cases e:k' = k
  · subst e; rw [hs] at hs'; cases hs'; exact ⟨h1,h2⟩
  · exact h k' s' (by omega) hs'
theorem FwI.len (h:FwI g f) {j:Nat} (hj:j < g.T + g.N):(f j).length≤g.T:=rise_bound (h.ri j hj).1 (h.ri j hj).2
theorem FwI.tot (h:FwI g f):totL (g.T + g.N) f≤(g.T + g.N) * g.T:=totL_le fun j hj=>h.len hj
theorem FwI.up (h:FwI g f) {i:Nat} {xs:List Int} (hx:Rise xs) (hz:∀ z∈xs,0≤z∧z < g.T) (hs:∀ z∈f i,z∈xs):FwI g (upF f i xs):=by
  refine ⟨fun j hj=>?_,?_⟩
  · by_cases e:j = i
    · subst e; rw [upF_self]; exact ⟨hx,hz⟩
    · rw [upF_ne e]; exact h.ri j hj
  · by_cases e:g.T = i
    · subst e; rw [upF_self]; exact hs _ h.st
    · rw [upF_ne e]; exact h.st
def gapF (g:GramT) (f:Nat→List Int):Nat:=(g.T + g.N) * g.T - totL (g.T + g.N) f
def FwW (g:GramT) (k:Nat) (L:List Asn) (f:Nat→List Int) (w:World):Prop:=FwI g f∧RowsC (g.T + g.N) f k L w
theorem look_fol (hc:ClosedP g) (hA:AutI g ss) (hn:NnP g nn) {b:BackT} (hb:b∈BksL g ss):∃ (m:Nat) (p:ProdT),b.prod = m∧1≤m∧g.prods[m]? = some p∧∀ z∈(lookOf g (FgL g nn ss) b).tm,∃ x:Nat,z = x∧x < g.T∧Fol g p.left x:=by
  obtain ⟨q,m,hq,hm,rfl,hne⟩:=bks_mem hb
  obtain ⟨t0,ht0⟩:=List.exists_mem_of_ne_nil _ hne
  have hp:g.prods[m]? = some g.prods[m]:=List.getElem?_eq_getElem hm
  have key:∀ t∈rowF (TrL g ss).length (backB g ss q m),∃ (j:Nat) (tr:TransT),t = j∧(TrL g ss)[j]? = some tr∧m≠0∧g.prods[m].left = tr.sym:=fun t ht=>by
    obtain ⟨j,rfl,hj,hb⟩:=rowF_mem.1 ht
    have hj2:(TrL g ss)[j]? = some (TrL g ss)[j]:=List.getElem?_eq_getElem hj
    unfold backB at hb
    rw [hj2,hp] at hb
    simp only [Bool.and_eq_true,decide_eq_true_eq] at hb
    exact ⟨j,_,rfl,hj2,hb.1.1,hb.1.2⟩
  obtain ⟨_,_,_,_,hm0,_⟩:=key t0 ht0
  refine ⟨m,_,rfl,by omega,hp,fun z hz=>?_⟩
  obtain ⟨x,rfl,hx,t,ht,hf⟩:=look_mem.1 hz
  obtain ⟨j,tr,rfl,hj,_,hl⟩:=key t ht
  refine ⟨x,rfl,hx,?_⟩
  rw [hl]
  rw [Int.toNat_natCast,fgl_at (List.getElem?_eq_some_iff.1 hj).1] at hf
  obtain ⟨x',e,_,hh⟩:=solRow_mem.1 hf
  have:x' = x:=by omega
  subst this
  exact fg_fol hc hA hn hh tr hj
end
end Go.V
namespace Go.Proofs.YtngdohpikfcifaaGreatDoor
open Go.V
variable {w:World} {L:List Asn} {g:GramT} {x:GA}
set_option maxHeartbeats 8000000 in
theorem l_LookWithin (hg:gR (hp w) g x) (hb:okG g) (ht:tabA (hp w)):Run Tryz.prog n_presagelaw13_LookWithin [.agg ⟨x.cells⟩] w fun v w'=>v = .bool true∧Gr w w':=by
  refine run_presagelaw13_LookWithin _ _ _ _ _ _ _ _ _ _ _ _ _ w _ (gbox hg fun k1 w1 gw hg1 B=>(l_awake13 (rdV.mono gw ht)).mono ?_)
  rintro _ w2 ⟨rfl,g12⟩
  refine ⟨_,rfl,_,_,_,_,_,_,_,_,_,_,_,_,_,B.row g12,(t_Sets (hg1.mono g12) hb (rdV.mono (gw.trans g12) ht)).mono ?_⟩
  rintro _ w3 ⟨ss,ask,int,f,nn,oS,cS,ds,rfl,hR,hn,hds,h⟩
  have g23:Gr w2 w3:=rdH 2 h.l
  have rS:=rdLk h
  rw [hds] at rS
  have hdl:ds.length = (BksL g ss).length:=by have:=congrArg List.length hds; rw [List.length_map,LooksL_len] at this; exact this
  rw [hdl] at rS ⊢
  clear h hds
  have g13:=g12.trans g23
  refine ⟨_,_,_,_,rfl,_,_,_,_,_,_,_,_,_,_,_,_,_,B.row g13,(f_Nullable1 (x:=x) (hg1.mono g13) hb (rdV.mono (gw.trans g13) ht)).mono ?_⟩
  rintro _ w4 ⟨oN,nN,cN,eN,rfl,g34,hN⟩
  have g14:=g13.trans g34
  refine ⟨_,_,_,_,rfl,fun b w'=>b = decide (f≠0)∧w' = w4,br_intro (fun h=>⟨by simpa using h,rfl⟩) fun h=>?_,?_⟩
  · have h:f = 0:=by simpa using h
    obtain ⟨hc,_⟩:=hR.aut h
    rcases hN with ⟨h1,_⟩ | ⟨_,rfl,_⟩
    · exact absurd (.inr hc) h1
    · exact ⟨by subst h; simp,rfl⟩
  rintro _ _ w5 ⟨rfl,e5⟩
  rw [e5]
  refine br_intro (fun h1=>?_) fun h1=>?_
  · have h1:f≠0:=by simpa using h1
    have hz:=hR.nil h1
    subst hz
    exact br_t rfl (br_t rfl ⟨by simp [h1],gw.trans g14⟩)
  have h1:f = 0:=by simpa using h1
  subst h1
  obtain ⟨hc,hA⟩:=hR.aut rfl
  have hnn:=hn rfl
  obtain ⟨sT,sN,sP,sP2,_,sN2⟩:=hc.sizes
  obtain ⟨hbl,htl⟩:=bks_len hc hA
  rcases hN with ⟨h1,_⟩ | ⟨_,_,rfl,_⟩
  · exact absurd (.inr hc) h1
  obtain ⟨iG,bT,bN,pN,pT,bP⟩:=inG (.inr hc)
  have rS:=rS.mono g34
  have hg:=hg1.mono g14
  have gw4:=gw.trans g14
  have ht:=rdV.mono gw4 ht
  have B:GB (hp w4) k1 x:=⟨fun s=>B.c0 (sub.trans g14 s),fun s=>B.c1 (sub.trans g14 s),fun s=>B.c2 (sub.trans g14 s),fun s=>B.c3 (sub.trans g14 s),fun s=>B.c4 (sub.trans g14 s),fun s=>B.row (sub.trans g14 s)⟩
  clear g12 g23 g34 g13 g14 hg1
  have tl:=hg.t.1
  have nl:=hg.n.1
  have pl:=hg.p.1
  refine ⟨_,_,_,_,_,_,_,_,_,_,_,_,_,B.row (sub.refl _),(d_Symbols hg hb).mono ?_⟩
  rintro _ w6 ⟨rfl,g6⟩
  have en:(g.T:Int) + g.N = ((g.T + g.N:Nat):Int):=by simp
  obtain ⟨n,hnn'⟩ : ∃ n,n = g.T + g.N:=⟨_,rfl⟩
  rw [en,← hnn']
  have hn128:n≤130:=by omega
  refine ⟨_,rfl,⟨by omega,rfl,by omega⟩,newC_i (St.all w6) fun k30 w7 h7=>?_⟩
  have g67:Gr w6 w7:=h7.gone1
  refine ⟨_,_,_,B.c0 (g6.trans g67),newC_i h7 fun k33 w8 h=>?_⟩
  rw [Int.toNat_natCast] at h ⊢
  have e1:reps n [vS none 0 0] = (List.replicate n (((none,0),[]):Lq Int)).map slQ:=by rw [reps_one]; simp [slQ]
  rw [e1] at h
  have hC:=RowsC.start (h.pick 2 [1,0])
  have hTn:g.T < n:=by omega
  rw [← tl]
  obtain ⟨q0,es0,hq0,hes0,hV0,h,back⟩:=hC.take hTn
  refine idx_i (i:=g.T) rfl hTn ?_
  rw [add_lit0]
  refine st1_i (h.pick 3 [2,0,1]) (by rw [List.length_map]; omega) fun w9 h=>?_
  have h:=own_some (sz:=1) (l:=1) (c:=1) (vs:=[.int .i64 0]) (cs:=[]) (h.pick 4 [3,0,1,2]) (by simp) (by simp) (Nat.le_refl _)
  have hC:=back w9 _ (some ⟨k33,0,none⟩) 1 [0] (h.pick 4 [0,3,1])
  have hF0:FwI g (upF (fun _=>[]) g.T [0]):=by
    refine ⟨fun j hj=>?_,by rw [upF_self]; simp⟩
    by_cases e:j = g.T
    · subst e
      rw [upF_self]
      exact ⟨.cons (by simp) .nil,by simp; omega⟩
    · rw [upF_ne e]
      exact ⟨.nil,by simp⟩
  rw [hnn'] at hC
  have hW:FwW g k30 (all w6) (upF (fun _=>[]) g.T [0]) w9:=⟨hF0,hC⟩
  clear hC back h h7 hV0
  have hnt:n * g.T≤130 * 65:=Nat.mul_le_mul hn128 bT
  -- the rows' reading
  refine ⟨fun b w'=>∃ f,FwW g k30 (all w6) f w'∧(b = false→CloA g f g.prods.length),fun b w'=>if b = true then 1 + mea (FwW g k30 (all w6)) (gapF g) w' else 0,⟨_,hW,fun h=>(by cases h)⟩,?_⟩
  clear hW hF0
  rintro _ b3 w10 hst
  refine br_intro (fun hb3=>?_) fun hb3=>?_
  · -- a round
    subst hb3
    obtain ⟨f0,hW0,hm0⟩:=mea_get (P:=FwW g k30 (all w6)) (f:=gapF g) (w:=w10) (by obtain ⟨f,h,_⟩:=hst; exact ⟨f,h⟩)
    clear hst
    have nextR:∀ {b:Bool} {f:Nat→List Int} {w' : World},FwW g k30 (all w6) f w'→Grew n f0 f b→(b = false→CloA g f0 g.prods.length)→(∃ f,FwW g k30 (all w6) f w'∧(b = false→CloA g f g.prods.length))∧(if b = true then 1 + mea (FwW g k30 (all w6)) (gapF g) w' else 0) < if true = true then 1 + mea (FwW g k30 (all w6)) (gapF g) w10 else 0:=fun {b f w'} hW hG hcl=>by
      have h1:=mea_le (f:=gapF g) hW
      have h2:=hW.1.tot
      have h3:=hG.le
      cases b with
      | true =>
        refine ⟨⟨f,hW,fun h=>(by cases h)⟩,?_⟩
        have h4:=hG.yes rfl
        rw [if_pos rfl,if_pos rfl,← hm0]
        unfold gapF at h1 ⊢
        rw [hnn'] at h3 h4
        omega
      | false =>
        refine ⟨⟨f,hW,fun _=>(hcl rfl).congr iG fun j hj=>hG.no rfl j (by omega)⟩,?_⟩
        rw [if_neg (by simp),if_pos rfl]
        omega
    refine ⟨fun b z w'=>∃ (m:Nat) (f:Nat→List Int),z = m∧m≤g.prods.length∧FwW g k30 (all w6) f w'∧Grew n f0 f b∧(b = false→CloA g f0 m),fun _ z _=>g.prods.length - z.toNat,⟨0,f0,rfl,Nat.zero_le _,hW0,.start,fun _ m p hm=>absurd hm (Nat.not_lt_zero _)⟩,?_⟩
    clear hW0
    rintro _ b4 _ w11 ⟨m,f,rfl,hm,hW,hG,hcl⟩
    have s11:Gr w4 w11:=g6.trans hW.2.gw
    refine ⟨_,_,_,B.c4 s11,br_intro (fun h1=>?_) fun h1=>?_⟩
    rotate_left
    · have h1:m = g.prods.length:=by have:=of_decide_eq_false h1; omega
      subst h1
      exact nextR hW hG hcl
    have h1:m < g.prods.length:=by have:=of_decide_eq_true h1; omega
    obtain ⟨p,pad,pvs,hpp,hpa,hp2,ra,rl,rc,rfl,hrc,hp3⟩:=hg.p.get (i:=m) (by omega)
    have hpm:=List.mem_of_getElem? hpp
    have rl1:=hp3.1
    have b7:=hb.2.2.2.2.2.2 p hpm
    obtain ⟨hpl,hpr⟩:=iG p hpm
    obtain ⟨v,hv⟩ : ∃ v:Nat,p.left = v:=⟨p.left.toNat,by omega⟩
    have hvn:v < n:=by omega
    refine ⟨_,_,_,B.c4 s11,idx_n hpa (by omega) ⟨_,_,_,hp2.cell s11 (j:=1) rfl,?_⟩⟩
    refine ⟨fun b z w'=>∃ (k:Nat) (f:Nat→List Int),z = k∧k≤rl∧FwW g k30 (all w6) f w'∧Grew n f0 f b∧(b = false→CloA g f0 m∧CloP g f0 p k),fun _ z _=>rl - z.toNat,⟨0,f,rfl,Nat.zero_le _,hW,hG,fun h=>⟨hcl h,fun k' s hk=>absurd hk (Nat.not_lt_zero _)⟩⟩,?_⟩
    clear hW hG hcl s11 f
    rintro _ b5 _ w12 ⟨k,f,rfl,hk,⟨hF,hC⟩,hG,hcl⟩
    have hC:RowsC n f k30 (all w6) w12:=by rw [hnn']; exact hC
    refine br_intro (fun h2=>?_) fun h2=>?_
    rotate_left
    · have h2:k = rl:=by have:=of_decide_eq_false h2; omega
      refine ⟨⟨by omega,by omega⟩,⟨m + 1,f,by simp,h1,⟨hF,by rw [← hnn']; exact hC⟩,hG,fun h=>?_⟩,msr h1⟩
      obtain ⟨q1,q2⟩:=hcl h
      exact q1.succ hpp (by rw [rl1,← h2]; exact q2)
    have h2:k < rl:=by have:=of_decide_eq_true h2; omega
    obtain ⟨s,sad,hs1,hsa,hs2⟩:=hp3.get1 h2
    have hsm:=List.mem_of_getElem? hs1
    have hsr:=hpr s hsm
    obtain ⟨u,rfl⟩ : ∃ u:Nat,s = u:=⟨s.toNat,by omega⟩
    have hun:u < n:=by omega
    obtain ⟨hri,hra⟩:=hF.ri u (by omega)
    have hfu:=hF.len (j:=u) (by omega)
    have hfv:=hF.len (j:=v) (by omega)
    intro w13 hd13
    have hC:=hC.gr (Gr.drawn hd13)
    have s13:Gr w4 w13:=g6.trans hC.gw
    refine ⟨fun u=>Gr w13 u,Gr.refl _,_,_,_,_,_,_,_,_,_,_,_,_,_,fun u s=>B.row (s13.trans s),⟨by omega,by omega⟩,?_⟩
    rw [show (k:Int) + 1 = ((k + 1:Nat):Int) by simp]
    refine slc_from (by omega) hrc ((f_Row2 (hg.mono s13) hb (rdV.mono s13 ht) ((hp3.drop (k:=k + 1) (m:=rc) (by omega) hrc).mono s13) (by omega)).mono ?_)
    rintro _ w15 ⟨oL,nL,cL,b6,n10,ys,rfl,hyl,hRow,h15⟩
    have hsy:EitherP g∧SyP g (p.right.drop (k + 1)):=⟨.inr hc,fun z hz=>by have:=hpr z (List.mem_of_mem_drop hz); omega⟩
    rcases hRow with ⟨hno,_⟩ | ⟨_,rfl,hb6,bs,hBs,rfl⟩
    · exact absurd hsy hno
    subst hyl
    have hyF:∀ y:Nat,(y:Int)∈mbI bs↔y < g.T∧FstR g (p.right.drop (k + 1)) y:=fun y=>by
      rw [mbI_row,rowF_mem]
      constructor
      · rintro ⟨y',e,h3,h4⟩
        have:y' = y:=by omega
        subst this
        exact ⟨by have:=hBs.1; omega,(hBs.2 _).1 h4⟩
      · rintro ⟨h3,h4⟩
        exact ⟨y,rfl,by have:=hBs.1; omega,(hBs.2 _).2 h4⟩
    have hyR:∀ z∈mbI bs,0≤z∧z < g.T:=fun z hz=>by
      rw [mbI_row] at hz
      obtain ⟨y,rfl,h3,_⟩:=rowF_mem.1 hz
      have:=hBs.1
      omega
    have hyl:(mbI bs).length≤65:=by
      rw [mbI_row]
      have:=rowF_len bs.length (fnB bs)
      have:=hBs.1
      omega
    have hFT:∀ y,FstR g (p.right.drop (k + 1)) y→y < g.T:=fun y hy=>Classical.byContradiction fun hge=>by
      have h3:=(hBs.2 y).2 hy
      have:=fnB_lt h3
      have:=hBs.1
      omega
    -- what is left to show when the row is laid
    have core:∀ {w' : World} {xs2:List Int},RowsC n (upF f u xs2) k30 (all w6) w'→Rise xs2→(∀ z∈f u,z∈xs2)→(∀ z∈mbI bs,z∈xs2)→(NulR g (p.right.drop (k + 1))→∀ z∈f v,z∈xs2)→(∀ z∈xs2,0≤z∧z < g.T)→∃ (k' : Nat) (f' : Nat→List Int),((k + 1:Nat):Int) = k'∧k'≤rl∧FwW g k30 (all w6) f' w'∧Grew n f0 f' (b5 || decide ((f u).length < xs2.length))∧((b5 || decide ((f u).length < xs2.length)) = false→CloA g f0 m∧CloP g f0 p k'):=fun {w' xs2} hC2 hx hfx hyx hvx hxr=>by
      refine ⟨k + 1,upF f u xs2,rfl,h2,⟨hF.up hx hxr hfx,by rw [← hnn']; exact hC2⟩,hG.step hun hri hx hfx,fun hb=>?_⟩
      rw [Bool.or_eq_false_iff,decide_eq_false_iff_not] at hb
      obtain ⟨q1,q2⟩:=hcl hb.1
      have e1:f u = xs2:=rise_same hri hx hfx (by omega)
      have e2:=hG.no hb.1 u hun
      have e3:=hG.no hb.1 v hvn
      refine ⟨q1,q2.succ hs1 (fun y hy=>?_) fun hnu z hz=>?_⟩
      · rw [Int.toNat_natCast,← e2,e1]
        exact hyx _ ((hyF y).2 ⟨hFT y hy,hy⟩)
      · rw [hv,Int.toNat_natCast,← e3] at hz
        rw [Int.toNat_natCast,← e2,e1]
        exact hvx hnu z hz
    have hinI:inI ((k + 1:Nat):Int):=⟨by omega,by omega⟩
    have hms:rl - (((k + 1:Nat):Int)).toNat < rl - ((k:Int)).toNat:=by omega
    have hC:=hC.on1 h15
    have g1315:Gr w13 w15:=rdH 1 h15.l
    have s15:Gr w4 w15:=s13.trans g1315
    clear h15
    obtain ⟨o25,c25,hcell⟩:=hC.cell hun
    refine ⟨_,_,_,_,_,rfl,g1315,br_f rfl (idx_i hsa h2 ⟨_,hs2 _ s15,idx_i rfl hun ⟨_,_,_,hcell,fun w16 hd16=>?_⟩⟩)⟩
    have hC:=hC.gr (Gr.drawn hd16)
    have s16:Gr w4 w16:=g6.trans (hC.tail).gw
    obtain ⟨q,es,hqf,hesl,hV,h,back⟩:=hC.take hun
    have hql:q.2.length≤65:=by rw [hqf]; omega
    refine ⟨fun v=>rowH (hp v) (aM k30) (es.map slQ)∧Gr w6 v,⟨rdCel 2 h.l,rdH 4 h.l⟩,idx_i hsa h2 ⟨_,fun v r=>hs2 _ (g6.trans r.2),idx_i hsa h2 ⟨_,fun v r=>hs2 _ (g6.trans r.2),idx_i rfl hun ⟨_,_,_,fun v r=>r.1.cell (sub.refl _) hV,(l_both (cb:=cL) (ys:=mbI bs) h (by rw [hqf]; exact hri) (fun hh hl=>rdI_of rfl (rdOv 2 hl)) (by omega)).mono ?_⟩⟩⟩⟩
    rintro _ w20 ⟨o27,c27,xs1,rfl,hr1,hm1,hl1,h⟩
    refine ⟨_,_,_,rfl,⟨rdCel 2 h.l,rdH 4 h.l⟩,idx_i rfl hun ?_⟩
    rw [add_lit0]
    refine st1_i (h.pick 3 [2,0,1]) (by rw [List.length_map]; omega) fun w21 h=>?_
    have hC1:=(back _ _ _ _ _ (h.pick 3 [1,2,0])).tail
    clear h back hC hcell
    have hC1:RowsC n (upF f u xs1) k30 (all w6) w21:=hC1
    rw [hqf] at hm1
    have hx1r:∀ z∈xs1,0≤z∧z < g.T:=fun z hz=>((hm1 z).1 hz).elim (hra z) (hyR z)
    have hx1f:∀ z∈f u,z∈xs1:=fun z hz=>(hm1 z).2 (.inl hz)
    have hx1y:∀ z∈mbI bs,z∈xs1:=fun z hz=>(hm1 z).2 (.inr hz)
    have hx1l:xs1.length≤65:=by have:=rise_bound hr1 hx1r; omega
    refine br_intro (fun h3=>?_) fun h3=>?_
    · -- what follows the left side follows too
      intro w22 hd22
      have hC1:=hC1.gr (Gr.drawn hd22)
      have hnu:=hb6.1 h3
      by_cases e:v = u
      · -- its own row: nothing new
        subst e
        obtain ⟨q2,es2,hq2,hes2,hV2,h,back⟩:=hC1.take hun
        have hq2:q2.2 = xs1:=by rw [hq2,upF_self]
        have rr:rdS (hp w22) xs1 q2.1.1 q2.2.length:=by rw [← hq2]; exact rdI_of rfl (rdOv 0 h.l)
        refine ⟨fun z=>rowH (hp z) (aM k30) (es2.map slQ)∧Gr w6 z,⟨rdCel 2 h.l,rdH 3 h.l⟩,idx_i hsa h2 ⟨_,fun z r=>hs2 _ (g6.trans r.2),idx_i hsa h2 ⟨_,fun z r=>hs2 _ (g6.trans r.2),idx_i rfl hun ⟨_,_,_,fun z r=>r.1.cell (sub.refl _) hV2,_,_,_,fun z r=>B.c4 (g6.trans r.2),idx_n hpa (by omega) ⟨_,fun z r=>hp2.cell0 (g6.trans r.2),?_⟩⟩⟩⟩⟩
        rw [hv]
        refine idx_i rfl hun ⟨_,_,_,fun z r=>r.1.cell (sub.refl _) hV2,(l_bothSame rr rr hr1 (fun z hz=>hz) (by rw [hq2]; omega) (by rw [hq2]; omega)).mono ?_⟩
        rintro _ w29 ⟨rfl,rfl⟩
        refine ⟨_,_,_,rfl,⟨rdCel 2 h.l,rdH 3 h.l⟩,idx_i rfl hun ?_⟩
        rw [add_lit0]
        refine st1_i (h.pick 3 [2,0,1]) (by rw [List.length_map]; omega) fun w30 h=>?_
        have hC2:=back _ _ _ _ _ (h.pick 3 [1,2,0])
        have hC2:RowsC n (upF (upF f v xs1) v q2.2) k30 (all w6) w30:=hC2
        rw [upF_up,hq2] at hC2
        obtain ⟨xs2,hx2⟩ : ∃ xs2,xs2 = xs1:=⟨_,rfl⟩
        rw [← hx2] at hC2
        have hr2:Rise xs2:=by rw [hx2]; exact hr1
        have hm2:∀ z,z∈xs2↔z∈xs1∨z∈f v:=fun z=>by
          rw [hx2]; exact ⟨.inl,fun h=>h.elim id (hx1f z)⟩
        have hcr:=core hC2 hr2 (fun z hz=>(hm2 z).2 (.inl (hx1f z hz))) (fun z hz=>(hm2 z).2 (.inl (hx1y z hz))) (fun _ z hz=>(hm2 z).2 (.inr hz)) fun z hz=>((hm2 z).1 hz).elim (hx1r z) ((hF.ri v (by omega)).2 z)
        refine br_intro (fun h4=>?_) fun h4=>?_
        · rw [h4,Bool.true_or] at hcr
          exact ⟨hinI,hcr,hms⟩
        · rw [h4,Bool.false_or] at hcr
          obtain ⟨o33,c33,hcell2⟩:=hC2.cell hun
          rw [upF_self] at hcell2
          refine idx_i hsa h2 ⟨_,hs2 _ (g6.trans hC2.gw),idx_i rfl hun ⟨_,_,_,hcell2,hinI,?_,hms⟩⟩
          rw [show decide (((f v).length:Int) < (xs2.length:Int)) = decide ((f v).length < xs2.length) by simp]
          exact hcr
      · obtain ⟨q2,r2,es2,M,hq2,hr2',hes2,hV2,hW2,h,back⟩:=hC1.take2 hun hvn (fun h=>e h.symm)
        have hq2:q2.2 = xs1:=by rw [hq2,upF_self]
        have hr2' : r2.2 = f v:=by rw [hr2',upF_ne e]
        refine ⟨fun z=>rowH (hp z) (aM k30) (es2.map slQ)∧Gr w6 z,⟨rdCel 3 h.l,rdH 4 h.l⟩,idx_i hsa h2 ⟨_,fun z r=>hs2 _ (g6.trans r.2),idx_i hsa h2 ⟨_,fun z r=>hs2 _ (g6.trans r.2),idx_i rfl hun ⟨_,_,_,fun z r=>r.1.cell (sub.refl _) hV2,_,_,_,fun z r=>B.c4 (g6.trans r.2),idx_n hpa (by omega) ⟨_,fun z r=>hp2.cell0 (g6.trans r.2),?_⟩⟩⟩⟩⟩
        rw [hv]
        refine idx_i rfl hvn ⟨_,_,_,fun z r=>r.1.cell (sub.refl _) hW2,(l_both (cb:=r2.1.2) (ys:=r2.2) h (by rw [hq2]; exact hr1) (fun hh hl=>rdI_of rfl (rdOv 0 hl)) (by rw [hq2,hr2']; omega)).mono ?_⟩
        rintro _ w29 ⟨o31,c31,xs2,rfl,hr2,hm2,hl2,h⟩
        rw [hq2,hr2'] at hm2
        refine ⟨_,_,_,rfl,⟨rdCel 3 h.l,rdH 4 h.l⟩,idx_i rfl hun ?_⟩
        rw [add_lit0]
        refine st1_i (h.pick 4 [3,0,1,2]) (by rw [List.length_map]; omega) fun w30 h=>?_
        have hC2:=back _ _ _ _ _ (h.pick 4 [1,2,3,0])
        have hC2:RowsC n (upF (upF f u xs1) u xs2) k30 (all w6) w30:=hC2
        rw [upF_up] at hC2
        have hcr:=core hC2 hr2 (fun z hz=>(hm2 z).2 (.inl (hx1f z hz))) (fun z hz=>(hm2 z).2 (.inl (hx1y z hz))) (fun _ z hz=>(hm2 z).2 (.inr hz)) fun z hz=>((hm2 z).1 hz).elim (hx1r z) ((hF.ri v (by omega)).2 z)
        refine br_intro (fun h4=>?_) fun h4=>?_
        · rw [h4,Bool.true_or] at hcr
          exact ⟨hinI,hcr,hms⟩
        · rw [h4,Bool.false_or] at hcr
          obtain ⟨o33,c33,hcell2⟩:=hC2.cell hun
          rw [upF_self] at hcell2
          refine idx_i hsa h2 ⟨_,hs2 _ (g6.trans hC2.gw),idx_i rfl hun ⟨_,_,_,hcell2,hinI,?_,hms⟩⟩
          rw [show decide (((f u).length:Int) < (xs2.length:Int)) = decide ((f u).length < xs2.length) by simp]
          exact hcr
    · have hno:¬ NulR g (p.right.drop (k + 1)):=fun hh=>by rw [hb6.2 hh] at h3; cases h3
      have hcr:=core hC1 hr1 hx1f hx1y (fun hh=>absurd hh hno) hx1r
      refine br_intro (fun h4=>?_) fun h4=>?_
      · rw [h4,Bool.true_or] at hcr
        exact ⟨hinI,hcr,hms⟩
      · rw [h4,Bool.false_or] at hcr
        obtain ⟨o33,c33,hcell2⟩:=hC1.cell hun
        rw [upF_self] at hcell2
        refine idx_i hsa h2 ⟨_,hs2 _ (g6.trans hC1.gw),idx_i rfl hun ⟨_,_,_,hcell2,hinI,?_,hms⟩⟩
        rw [show decide (((f u).length:Int) < (xs1.length:Int)) = decide ((f u).length < xs1.length) by simp]
        exact hcr
  -- the fixpoint
  have hb3:b3 = false:=by simpa using hb3
  subst hb3
  obtain ⟨f,⟨hF,hC⟩,hcl⟩:=hst
  have hcl:=hcl rfl
  have g10:Gr w6 w10:=hC.gw
  refine ⟨fun z w'=>∃ i:Nat,z = i∧i≤(BksL g ss).length∧RowsC (g.T + g.N) f k30 (all w6) w',fun z _=>(BksL g ss).length - z.toNat,⟨0,rfl,Nat.zero_le _,hC⟩,?_⟩
  clear hC g10
  rintro _ _ w31 ⟨i,rfl,hi,hC⟩
  have g31:Gr w6 w31:=hC.gw
  have s31:Gr w4 w31:=g6.trans g31
  refine br_intro (fun h1=>?_) fun h1=>?_
  rotate_left
  · exact br_t rfl ⟨_,_,_,B.c1 s31,by rw [show x.nl = g.N from nl.symm]; simp,gw4.trans s31⟩
  have h1:i < (BksL g ss).length:=by have:=of_decide_eq_true h1; omega
  obtain ⟨l,ad,la,lc,hl1,rfl,rl,rt⟩:=rdLk_get rS h1
  obtain ⟨b,hb1⟩ : ∃ b,(BksL g ss)[i]? = some b:=⟨_,List.getElem?_eq_getElem h1⟩
  have hle:l = lookOf g (FgL g nn ss) b:=by
    unfold LooksL at hl1
    rw [List.getElem?_map,hb1] at hl1
    exact (Option.some.inj hl1).symm
  obtain ⟨m,p,hm,hm1,hpp,hfol⟩:=look_fol hc hA hnn (List.mem_of_getElem? hb1)
  have hlp:l.prod = m:=by rw [hle]; exact hm
  rw [hlp] at rl
  have hml:=(List.getElem?_eq_some_iff.1 hpp).1
  have hpm:=List.mem_of_getElem? hpp
  have hll:l.tm.length≤g.T:=by rw [hle]; exact look_len
  refine ⟨fun b w'=>b = false∧RowsC (g.T + g.N) f k30 (all w6) w',fun w32 hd=>?_,?_⟩
  · have hC:=hC.gr (Gr.drawn hd)
    have s32:Gr w4 w32:=g6.trans hC.gw
    exact ⟨fun u=>Gr w4 u,s32,idx_n rfl h1 ⟨_,fun u s=>rl.cell s (j:=1) rfl,br_f (decide_eq_false (by omega)) (idx_n rfl h1 ⟨_,fun u s=>rl.cell s (j:=1) rfl,_,_,_,fun u s=>B.c4 s,decide_eq_false (by omega),hC⟩)⟩⟩
  rintro _ _ w36 ⟨rfl,hC⟩
  refine br_f rfl fun w37 hd=>?_
  have hC:=hC.gr (Gr.drawn hd)
  have s37:Gr w4 w37:=g6.trans hC.gw
  obtain ⟨p',pad,pvs,hp1,hpa,hp2,ra,rl',rc,rfl,hrc,hp3⟩:=hg.p.get (i:=m) (by omega)
  rw [hpp] at hp1; cases hp1
  have hpl:=(iG p hpm).1
  obtain ⟨u,hu⟩ : ∃ u:Nat,p.left = u:=⟨p.left.toNat,by omega⟩
  have hun:u < g.T + g.N:=by omega
  obtain ⟨q,es,hqf,hesl,hV,h,back⟩:=hC.take hun
  have rk:rowH (hp w37) (aM k30) (es.map slQ):=rdCel 2 h.l
  have rr:rdS (hp w37) (f u) q.1.1 q.2.length:=by rw [← hqf]; exact rdI_of rfl (rdOv 0 h.l)
  have hfl:q.2.length≤65:=by rw [hqf]; have:=hF.len hun; omega
  refine ⟨fun u=>Gr w37 u,Gr.refl _,_,_,_,fun u s=>B.c4 (s37.trans s),idx_n rfl h1 ⟨_,fun u s=>rl.cell (s37.trans s) (j:=1) rfl,idx_n hpa (by omega) ⟨_,fun u s=>hp2.cell0 (s37.trans s),?_⟩⟩⟩
  rw [hu]
  refine idx_i rfl (by omega) ⟨_,_,_,fun u s=>rk.cell s hV,idx_n rfl h1 ⟨_,_,_,rl.cell s37 (j:=2) rfl,(l_bothSame rr (rt.mono s37) (hF.ri u hun).1 (fun z hz=>?_) (by omega) (by omega)).mono ?_⟩⟩
  · rw [hle] at hz
    obtain ⟨y,rfl,_,hy⟩:=hfol z hz
    have:=fol_in hF hcl hy
    rwa [hu,Int.toNat_natCast] at this
  rintro _ w42 ⟨rfl,rfl⟩
  refine ⟨_,_,_,rfl,(d_SameInts rr rr (by omega)).mono ?_⟩
  rintro _ w43 ⟨rfl,e43⟩
  exact ⟨_,rfl,br_f rfl ⟨⟨by omega,by omega⟩,⟨i + 1,by simp,h1,hC.eq e43⟩,msr h1⟩⟩
end Go.Proofs.YtngdohpikfcifaaGreatDoor
set_option linter.unusedVariables false
namespace Go.Proofs.YtngdohpikfcifaaGreatDoor
open Go.V
end Go.Proofs.YtngdohpikfcifaaGreatDoor
set_option linter.unusedVariables false
set_option maxRecDepth 4000
namespace Go.V
open Go.Proofs.YtngdohpikfcifaaGreatDoor
section
variable {es ow:List (List Int)} {f f' : Nat→List Int} {n k m:Nat} {L:List Asn} {w:World}
structure SoI (es ow:List (List Int)) (n:Nat) (f:Nat→List Int):Prop where
  ri:∀ j,j < n→Rise (f j)∧(∀ z∈f j,∃ x:Nat,z = x∧x < 1024∧HasP es ow j x)∧∀ z∈ow.getD j [],z∈f j
def SoC (es:List (List Int)) (f:Nat→List Int) (m:Nat):Prop:=∀ j,j < m→∀ u∈En es j,∀ z∈f u,z∈f j
theorem SoI.len (h:SoI es ow n f) {j:Nat} (hj:j < n):(f j).length≤1024:=rise_bound (B:=1024) (h.ri j hj).1 fun z hz=>by
  obtain ⟨x,rfl,hx,_⟩:=(h.ri j hj).2.1 z hz
  omega
theorem SoI.tot (h:SoI es ow n f):totL n f≤n * 1024:=totL_le fun j hj=>h.len hj
theorem SoI.up (h:SoI es ow n f) {i:Nat} {xs:List Int} (hx:Rise xs) (hz:∀ z∈xs,∃ x:Nat,z = x∧x < 1024∧HasP es ow i x) (hs:∀ z∈f i,z∈xs):SoI es ow n (upF f i xs):=by
  refine ⟨fun j hj=>?_⟩
  by_cases e:j = i
  · subst e; rw [upF_self]; exact ⟨hx,hz,fun z h1=>hs z ((h.ri j hj).2.2 z h1)⟩
  · rw [upF_ne e]; exact h.ri j hj
theorem SoC.congr (he:∀ j,j < n→f' j = f j) (hR:∀ j u,u∈En es j→u < n) (hm:m≤n) (h:SoC es f m):SoC es f' m:=fun j hj u hu=>by
  rw [he u (hR j u hu),he j (by omega)]
  exact h j hj u hu
end
end Go.V
namespace Go.Proofs.YtngdohpikfcifaaGreatDoor
open Go.V
variable {w:World} {L:List Asn} {g:GramT} {x:GA} {ss:List SQ} {nn:List Bool}
end Go.Proofs.YtngdohpikfcifaaGreatDoor
set_option linter.unusedVariables false
set_option maxRecDepth 4000
namespace Go.Proofs.YtngdohpikfcifaaGreatDoor
open Go.V
variable {w:World} {L:List Asn} {g:GramT} {x:GA} {ss:List SQ} {nn:List Bool}
end Go.Proofs.YtngdohpikfcifaaGreatDoor
set_option linter.unusedVariables false
set_option maxRecDepth 4000
namespace Go.Proofs.YtngdohpikfcifaaGreatDoor
open Go.V
variable {w:World} {L:List Asn} {g:GramT} {x:GA}
theorem Tells.same {F:GramT→List Bool→List SQ→List (List Int)} (hF:RowF F) {ss ss2:List SQ} {nn nn2:List Bool} {a i f a2 i2:Int} (h1:Res g ss a i f) (h2:Res g ss2 a2 i2 f) (n1:f = 0→NnP g nn) (n2:f = 0→NnP g nn2):F g nn2 ss2 = F g nn ss:=by
  obtain ⟨_,hes,_⟩:=h1.one h2
  by_cases hf:f = 0
  · rw [(n2 hf).inj (n1 hf),hF.es hes]
  · rw [h1.nil hf,h2.nil hf,hF.nil,hF.nil]
end Go.Proofs.YtngdohpikfcifaaGreatDoor
set_option linter.unusedVariables false
set_option maxRecDepth 4000
namespace Go.V
open Go.RowKit Go.WideShapes Go.ChangeShapes
theorem cellH_of {w:World} {a:Addr} {v:Value} (h:w.cell? a = some v):cellH (hp w) a = some v:=by
  unfold World.cell? at h
  unfold cellH hp
  cases ho:w.heap[a.block]? with
  | none=>rw [ho] at h; cases h
  | some o=>rw [ho] at h; cases o <;> first | exact h | cases h
theorem mapM_get' {α β : Type} {f:α→Option β}:∀ {l:List α} {r:List β},l.mapM f = some r→r.length = l.length∧∀ (i:Nat) (a:α) (b:β),l[i]? = some a→r[i]? = some b→f a = some b
  | [],r,h=>by
    simp at h; subst h; exact ⟨rfl,fun i a b ha=>by simp at ha⟩
  | x :: l,r,h=>by
    simp only [List.mapM_cons,Option.bind_eq_bind,Option.bind_eq_some_iff,Option.pure_def,Option.some.injEq] at h
    obtain ⟨b,hb,r',hr',rfl⟩:=h
    obtain ⟨h1,h2⟩:=mapM_get' hr'
    refine ⟨by simp [h1],fun i a b' ha hb'=>?_⟩
    cases i with
    | zero=>simp at ha hb'; subst ha; subst hb'; exact hb
    | succ i=>exact h2 i a b' (by simpa using ha) (by simpa using hb')
theorem cells_row {w:World} {base n:Nat} {a:Addr} {vs:List Value} (h:w.cells? base a n = some vs):rowH (hp w) a vs:=by
  unfold World.cells? at h
  split at h
  · obtain ⟨h1,h2⟩:=mapM_get' h
    intro j v hj
    have hlt:=(List.getElem?_eq_some_iff.1 hj).1
    rw [h1,List.length_range] at hlt
    exact cellH_of (h2 j j v (by simp [hlt]) hj)
  · cases h
theorem weightsAll_get {H:Type} {P:Program} {e:TypeId} {N:Nat}:∀ {l:List (DataW H)},(DataW.weightsAll P e l).all (·≤N) = true→∀ d∈l,(d.weights P e).all (·≤N) = true
  | [],_,d,hd=>by simp at hd
  | x :: l,h,d,hd=>by
    rw [DataW.weightsAll,List.all_append,Bool.and_eq_true] at h
    rcases List.mem_cons.1 hd with rfl | hd
    · exact h.1
    · exact weightsAll_get h.2 d hd
theorem weightsEach_get {H:Type} {P:Program} {N:Nat}:∀ {ts:List TypeId} {l:List (DataW H)},(DataW.weightsEach P ts l).all (·≤N) = true→∀ (i:Nat) t d,ts[i]? = some t→l[i]? = some d→(d.weights P t).all (·≤N) = true
  | [],l,_,i,t,d,ht,_=>by simp at ht
  | _ :: _,[],_,i,t,d,_,hd=>by simp at hd
  | t0 :: ts,x :: l,h,i,t,d,ht,hd=>by
    rw [DataW.weightsEach,List.all_append,Bool.and_eq_true] at h
    cases i with
    | zero=>simp at ht hd; subst ht; subst hd; exact h.1
    | succ i=>exact weightsEach_get h.2 i t d (by simpa using ht) (by simpa using hd)
def Opn (P:Program) (α : Type) [Rep α] (bd:α→Prop) (t:TypeId):Prop :=
  ∀ {H:Type} (enc:TypeId × Value→H) (W:World) (n:Nat) (cs:List Value) (x:DataW H × List MemPlace),DataW.trod enc P W 0 (fun _=>true) true n t cs = some x→(x.1.weights P t).all (·≤reachBytes) = true→∃ y:α,rd (hp W) y cs∧bd y
def anyS:ByteArray→Prop:=fun s=>s.size≤reachBytes
def anyL {α : Type} (bytes:Nat) (bd:α→Prop):List α→Prop:=fun xs=>xs.length * bytes≤reachBytes∧∀ x∈xs,bd x
section
variable {P:Program} {t e:TypeId}
theorem opn_int (ht:P.underlying t = some (.int .i64)):Opn P Int anyI t:=by
  intro H enc W n cs x h hw
  obtain ⟨z,rfl,_,hwf⟩:=DataW.trod_int ht h
  refine ⟨z,rfl,?_⟩
  have:IntKind.i64.min≤z∧z≤IntKind.i64.max:=by simpa [Lit.wf] using hwf
  exact this
theorem opn_str (ht:P.underlying t = some .string):Opn P ByteArray anyS t:=by
  intro H enc W n cs x h hw
  obtain ⟨z,rfl,rfl,_⟩:=DataW.trod_string ht h
  refine ⟨z,rfl,?_⟩
  simpa [DataW.weights,anyS] using hw
theorem opn_slice {α : Type} [Rep α] {bd:α→Prop} {bb:Nat} (ht:P.underlying t = some (.slice e)) (hc:P.cellsOf e = Rep.n α) (hb:P.bytesOf e = bb) (he:Opn P α bd e):Opn P (List α) (anyL bb bd) t:=by
  intro H enc W n cs x h hw
  rcases DataW.trod_slice ht h with ⟨rfl,rfl⟩ | ⟨a,len,cap,elems,rest,m,rfl,rfl,rfl,_,hlc,hcm,hel,hg,_,_⟩
  · exact ⟨[],⟨none,0,0,rfl,Nat.le_refl _,rdS.nil⟩,by simp [reachBytes],fun x hx=>by simp at hx⟩
  · simp only [DataW.weights,ht,List.all_cons,List.all_append,Bool.and_eq_true,decide_eq_true_eq,List.length_map] at hw
    obtain ⟨hw1,hw2,_⟩:=hw
    have key:∀ k,k≤len→∃ ys:List α,ys.length = k∧(∀ i y,ys[i]? = some y→∃ vs,rowH (hp W) (a.add (mulS i (Rep.n α))) vs∧rd (hp W) y vs)∧∀ y∈ys,bd y:=by
      intro k
      induction k with
      | zero=>exact fun _=>⟨[],rfl,fun i y hy=>by simp at hy,fun y hy=>by simp at hy⟩
      | succ k ih =>
        intro hk
        obtain ⟨ys,h1,h2,h3⟩:=ih (by omega)
        have hgk:=hg k (by omega)
        obtain ⟨d,hd⟩ : ∃ d,elems[k]? = some d:=⟨elems[k]'(by omega),List.getElem?_eq_getElem _⟩
        rw [hd,Option.bind_eq_some_iff] at hgk
        obtain ⟨vs,hv1,hv2⟩:=hgk
        obtain ⟨y,hy1,hy2⟩:=he enc W m vs d hv2 (weightsAll_get hw2 _ (by
          have:=List.mem_of_getElem? hd
          exact List.mem_map_of_mem this))
        refine ⟨ys ++ [y],by simp [h1],fun i z hz=>?_,fun z hz=>?_⟩
        · by_cases hi:i < k
          · rw [List.getElem?_append_left (by omega)] at hz
            exact h2 i z hz
          · have:i = k:=by
              have:=(List.getElem?_eq_some_iff.1 hz).1
              simp at this; omega
            subst this
            rw [List.getElem?_append_right (by omega),h1,Nat.sub_self] at hz
            cases hz
            refine ⟨vs,?_,hy1⟩
            rw [mulS_eq,← hc]
            exact cells_row hv1
        · rcases List.mem_append.1 hz with hz | hz
          · exact h3 z hz
          · simp at hz; subst hz; exact hy2
    obtain ⟨ys,h1,h2,h3⟩:=key len (Nat.le_refl _)
    refine ⟨ys,⟨some a,len,cap,rfl,hlc,h1,fun i y hy=>?_⟩,?_,h3⟩
    · obtain ⟨vs,h4,h5⟩:=h2 i y hy
      exact ⟨a,vs,rfl,h4,h5⟩
    · rw [h1,← hb,← hel]
      exact Nat.le_trans (Nat.mul_le_mul_right _ (Nat.le_add_right _ _)) hw1
theorem opn_struct {fs:Array Field} (ht:P.underlying t = some (.struct fs)) {H:Type} {enc:TypeId × Value→H} {W:World} {n:Nat} {cs:List Value} {x:DataW H × List MemPlace} (h:DataW.trod enc P W 0 (fun _=>true) true n t cs = some x) (hw:(x.1.weights P t).all (·≤reachBytes) = true) :
    cs.length = P.cellsOf t∧∀ (i:Nat) (f:Field) (ty k o:Nat),fs[i]? = some f→P.cellsOf ty = k→f.type = ty→f.offset = o→∃ (m:Nat) (d:DataW H × List MemPlace),DataW.trod enc P W 0 (fun _=>true) true m ty ((cs.drop o).take k) = some d∧(d.1.weights P ty).all (·≤reachBytes) = true:=by
  obtain ⟨xs,m,rfl,rfl,hl,hxs,hf⟩:=DataW.trod_struct ht h
  refine ⟨hl,?_⟩
  rintro i f _ _ _ hi rfl rfl rfl
  have hlt:=(Array.getElem?_eq_some_iff.1 hi).1
  obtain ⟨d,hd⟩ : ∃ d,xs[i]? = some d:=⟨xs[i]'(by omega),List.getElem?_eq_getElem _⟩
  refine ⟨m,d,by rw [hf i f hi,hd],?_⟩
  simp only [DataW.weights,ht] at hw
  exact weightsEach_get hw i f.type d.1 (by simp [hi]) (by simp [hd])
theorem opn_arg {α : Type} [Rep α] {bd:α→Prop} (ho:Opn P α bd t) {H:Type} {enc:TypeId × Value→H} {W:World} {v:Value} {d:DataW H} {ps:List MemPlace} (h:DataW.Trod enc P W 0 (fun _=>true) true t v d ps)
    (hw:(d.weights P t).all (·≤reachBytes) = true):∃ y:α,rd (hp W) y v.cells.toList∧bd y:=by
  obtain ⟨n,h⟩:=h
  exact ho enc W n _ _ h hw
theorem arg_struct {α : Type} [Rep α] {bd:α→Prop} {fs:Array Field} (ho:Opn P α bd t) (ht:P.underlying t = some (.struct fs)) {H:Type} {enc:TypeId × Value→H} {W:World} {b:Nat} {v:Value} {d:DataW H} {ps:List MemPlace}
    (hval:Value.okWide P W .any b t v) (h:DataW.Trod enc P W 0 (fun _=>true) true t v d ps) (hw:(d.weights P t).all (·≤reachBytes) = true):∃ (x:α) (cs:List Value),v = .agg ⟨cs⟩∧rd (hp W) x cs∧bd x:=by
  obtain ⟨x,hr,hb⟩:=opn_arg ho h hw
  simp only [Value.okWide,ht] at hval
  obtain ⟨cs,rfl,_⟩:=hval
  exact ⟨x,cs.toList,rfl,hr,hb⟩
theorem below_of {w w' : World} (h:Ev w w') (g:Gr w w'):Below w.heap.size w w':=by
  refine ⟨h.os,h.tape,h.output,h.size,fun k hk=>?_⟩
  cases ho:w.heap[k]? with
  | none=>rw [Array.getElem?_eq_none_iff] at ho; omega
  | some o =>
    by_cases hd:notD o = true
    · have:hp w k = some o:=by unfold hp; rw [ho,hidD_not hd]
      exact hidD_some (g k o this)
    · cases o <;> first | exact absurd rfl hd | exact h.dfr _ _ ho
theorem trodAll_below (hl:laidOutB P = true) {H:Type} {enc:TypeId × Value→H} {W W' : World} (hb:Below W.heap.size W W') {sp:Nat→Bool}:∀ {ts:List TypeId} {vs:List Value} {ds:List (DataW H)} {ps:List MemPlace},
    (ts.all fun t=>P.readableRec t && decide (t < P.types.size)) = true→DataW.TrodAll enc P W 0 (fun _=>true) true ts vs ds ps→(∀ x∈ps,x.block < W.heap.size)→(∀ x∈ps,sp x.block = true) →
    DataW.TrodAll enc P W' 0 sp true ts vs ds ps
  | [],[],[],ps,_,h,_,_=>h
  | [],_ :: _,_,_,_,h,_,_=>h.elim
  | [],[],_ :: _,_,_,h,_,_=>h.elim
  | _ :: _,[],_,_,_,h,_,_=>h.elim
  | _ :: _,_ :: _,[],_,_,h,_,_=>h.elim
  | t :: ts,v :: vs,d :: ds,ps,ht,h,hlt,hsp=>by
    obtain ⟨p,q,h1,h2,rfl⟩:=h
    rw [List.all_cons,Bool.and_eq_true,Bool.and_eq_true,decide_eq_true_eq] at ht
    exact ⟨p,q,WideElems.Trod_stays hl ht.1.1 ht.1.2 h1 (fun x hx=>hb.same (hlt x (by simp [hx]))) (fun x hx=>hsp x (by simp [hx])),trodAll_below hl hb ht.2 h2 (fun x hx=>hlt x (by simp [hx])) (fun x hx=>hsp x (by simp [hx])),rfl⟩
theorem law_post {H:Type} {enc:TypeId × Value→H} {s:ChangeSpec} {f:Func} {W W' : World} {args:Array Value} {ds gs:List (DataW H)} {before:List MemPlace} {tb:TypeId} (hv:s.vars = []) (hrt:f.resultTypes = #[tb]) (htb:P.underlying tb = some .bool)
    (hsp:s.fn H (ds ++ gs) = { results:=[.lit (.bool true)],args:=ds }) (hl:laidOutB P = true) (hrd:(f.params.toList.all fun t=>P.readableRec t && decide (t < P.types.size)) = true)
    (hW:DataW.Whole enc P f.params.toList s.vars false W args.toList ds gs before) (hE:Ev W W') (hg:Gr W W'):s.post enc P f false true false false W args (.bool true) W':=by
  have hb:=below_of hE hg
  have hlt:∀ p∈before,p.block < W.heap.size:=fun p hp=>hW.lt p hp
  have hold:∀ p∈before,(fun b=>decide (b < W.heap.size)) p.block = true:=fun p hp=>by simpa using hlt p hp
  have hW':=hW
  obtain ⟨p,q,h1,h2,rfl,h3,h4⟩:=hW
  have hq:q = []:=by
    rw [hv] at h2
    cases gs with
    | nil=>exact h2
    | cons _ _=>exact h2.elim
  subst hq
  rw [List.append_nil] at *
  have hargs:∀ sp:Nat→Bool,(∀ x∈p,sp x.block = true)→DataW.TrodAll enc P W' 0 sp true f.params.toList args.toList (s.fn H (ds ++ gs)).args p:=fun sp hs=>by
    rw [hsp]; exact trodAll_below hl hb hrd h1 hlt hs
  have hvars:∀ sp:Nat→Bool,DataW.TrodVars enc P W' sp s.vars (s.fn H (ds ++ gs)).vars []:=fun sp=>by
    rw [hsp,hv]; exact rfl
  have hres:∀ (b:Nat) (sp:Nat→Bool) (hd:Bool),DataW.TrodAll enc P W' b sp hd f.resultTypes.toList ((Value.bool true).resultList f.resultTypes.size) (s.fn H (ds ++ gs)).results []:=fun b sp hd=>by
    rw [hsp,hrt]; exact trodAll_cons_mk (shut_bool htb _) trodAll_mk0
  have hok:∀ (j:Nat) (t:TypeId) (r:Value),f.resultTypes[j]? = some t→((Value.bool true).resultList f.resultTypes.size)[j]? = some r→Value.okWide P W' .any 0 t r:=ok_one hrt rfl (okWide_bool_mk htb _)
  refine ⟨ds,gs,p,[],p,[],hW',hres _ _ _,hargs _ hold,hvars _,World.keptBut_mono (fun x hx=>⟨hx,?_⟩) (hb.frame (·∈p)),fun _=>?_⟩
  · exact Or.inr (by simpa using hx)
  · refine ⟨hok,_,_,([] ++ p) ++ [],⟨[] ++ p,[],trodAll_append (hargs _ (fun _ _=>rfl)) (hres _ _ _),hvars _,rfl,?_,?_⟩,?_⟩
    · intro b off hp
      have hin:MemPlace.cell b off∈p:=by simpa using hp
      rw [hb.frozen (hlt _ hin)]
      exact h3 b off hin
    · intro ha; cases ha
    · intro x hx _
      simpa using hx
end
end Go.V
set_option linter.unusedVariables false
namespace Go.Proofs.YtngdohpikfcifaaGreatDoor
open Go.V Go.RowKit Go.WideShapes Go.ChangeShapes Go.ChangeAt
theorem ownK:ownKnob Tryz.prog.godebug = none:=by kernel_rfl
theorem laidO:laidOutB Tryz.prog = true:=by kernel_rfl
theorem cellsI:Tryz.prog.cellsOf 3 = 1:=by kernel_rfl
theorem bytesI:Tryz.prog.bytesOf 3 = 8:=by kernel_rfl
theorem cellsStr:Tryz.prog.cellsOf 9 = 1:=by kernel_rfl
theorem bytesStr:Tryz.prog.bytesOf 9 = 16:=by kernel_rfl
theorem cellsS24:Tryz.prog.cellsOf 24 = 1:=by kernel_rfl
theorem cellsS22:Tryz.prog.cellsOf 22 = 1:=by kernel_rfl
theorem cellsS23:Tryz.prog.cellsOf 23 = 1:=by kernel_rfl
theorem cellsS25:Tryz.prog.cellsOf 25 = 1:=by kernel_rfl
theorem cellsT:Tryz.prog.cellsOf 92 = 2:=by kernel_rfl
theorem bytesT:Tryz.prog.bytesOf 92 = 24:=by kernel_rfl
theorem cellsP:Tryz.prog.cellsOf 55 = 3:=by kernel_rfl
theorem bytesP:Tryz.prog.bytesOf 55 = 40:=by kernel_rfl
theorem cellsG:Tryz.prog.cellsOf 27 = 5:=by kernel_rfl
theorem oInt:Opn Tryz.prog Int anyI 3:=opn_int Tryz.underlying3
theorem oInts:Opn Tryz.prog (List Int) (anyL 8 anyI) 24:=opn_slice Tryz.underlying24 cellsI bytesI oInt
theorem oStr:Opn Tryz.prog ByteArray anyS 9:=opn_str Tryz.underlying9
theorem oStrs:Opn Tryz.prog (List ByteArray) (anyL 16 anyS) 23:=opn_slice Tryz.underlying23 cellsStr bytesStr oStr
theorem oTerm:Opn Tryz.prog TermT (fun t=>anyS t.name∧anyI t.level) 92:=by
  intro H enc W n cs x h hw
  obtain ⟨hl,hf⟩:=opn_struct Tryz.underlying92 h hw
  rw [cellsT] at hl
  obtain ⟨_,_,t0,w0⟩:=hf 0 _ 9 1 0 rfl cellsStr rfl rfl
  obtain ⟨_,_,t1,w1⟩:=hf 1 _ 3 1 1 rfl cellsI rfl rfl
  obtain ⟨y0,r0,b0⟩:=oStr enc W _ _ _ t0 w0
  obtain ⟨y1,r1,b1⟩:=oInt enc W _ _ _ t1 w1
  match cs,hl with
  | [c0,c1],_ =>
    have e0:[c0] = [.string y0]:=r0
    have e1:[c1] = [.int .i64 y1]:=r1
    cases e0; cases e1
    exact ⟨⟨y0,y1⟩,rfl,b0,b1⟩
theorem oTerms:Opn Tryz.prog (List TermT) (anyL 24 fun t=>anyS t.name∧anyI t.level) 22:=opn_slice Tryz.underlying22 cellsT bytesT oTerm
theorem oProd:Opn Tryz.prog ProdT (fun p=>anyI p.left∧anyL 8 anyI p.right∧anyI p.level) 55:=by
  intro H enc W n cs x h hw
  obtain ⟨hl,hf⟩:=opn_struct Tryz.underlying55 h hw
  rw [cellsP] at hl
  obtain ⟨_,_,t0,w0⟩:=hf 0 _ 3 1 0 rfl cellsI rfl rfl
  obtain ⟨_,_,t1,w1⟩:=hf 1 _ 24 1 1 rfl cellsS24 rfl rfl
  obtain ⟨_,_,t2,w2⟩:=hf 2 _ 3 1 2 rfl cellsI rfl rfl
  obtain ⟨y0,r0,b0⟩:=oInt enc W _ _ _ t0 w0
  obtain ⟨y1,⟨a,l,c,r1,hlc,r1'⟩,b1⟩:=oInts enc W _ _ _ t1 w1
  obtain ⟨y2,r2,b2⟩:=oInt enc W _ _ _ t2 w2
  match cs,hl with
  | [c0,c1,c2],_ =>
    have e0:[c0] = [.int .i64 y0]:=r0
    have e1:[c1] = [.slice a l c]:=r1
    have e2:[c2] = [.int .i64 y2]:=r2
    cases e0; cases e1; cases e2
    exact ⟨⟨y0,y1,y2⟩,⟨a,l,c,rfl,hlc,r1'⟩,b0,b1,b2⟩
theorem oProds:Opn Tryz.prog (List ProdT) (anyL 40 fun p=>anyI p.left∧anyL 8 anyI p.right∧anyI p.level) 25:=opn_slice Tryz.underlying25 cellsP bytesP oProd
def okG2 (g:GramT):Prop:=okG g∧g.terms.length * 24≤140737488355328∧g.nons.length * 16≤140737488355328
theorem oGram:Opn Tryz.prog GramT okG2 27:=by
  intro H enc W n cs x h hw
  obtain ⟨hl,hf⟩:=opn_struct Tryz.underlying27 h hw
  rw [cellsG] at hl
  obtain ⟨_,_,t0,w0⟩:=hf 0 _ 22 1 0 rfl cellsS22 rfl rfl
  obtain ⟨_,_,t1,w1⟩:=hf 1 _ 23 1 1 rfl cellsS23 rfl rfl
  obtain ⟨_,_,t2,w2⟩:=hf 2 _ 24 1 2 rfl cellsS24 rfl rfl
  obtain ⟨_,_,t3,w3⟩:=hf 3 _ 3 1 3 rfl cellsI rfl rfl
  obtain ⟨_,_,t4,w4⟩:=hf 4 _ 25 1 4 rfl cellsS25 rfl rfl
  obtain ⟨y0,⟨a0,l0,c0',r0,k0,q0⟩,b0⟩:=oTerms enc W _ _ _ t0 w0
  obtain ⟨y1,⟨a1,l1,c1',r1,k1,q1⟩,b1⟩:=oStrs enc W _ _ _ t1 w1
  obtain ⟨y2,⟨a2,l2,c2',r2,k2,q2⟩,b2⟩:=oInts enc W _ _ _ t2 w2
  obtain ⟨y3,r3,b3⟩:=oInt enc W _ _ _ t3 w3
  obtain ⟨y4,⟨a4,l4,c4',r4,k4,q4⟩,b4⟩:=oProds enc W _ _ _ t4 w4
  match cs,hl with
  | [c0,c1,c2,c3,c4],_ =>
    have e0:[c0] = [.slice a0 l0 c0']:=r0
    have e1:[c1] = [.slice a1 l1 c1']:=r1
    have e2:[c2] = [.slice a2 l2 c2']:=r2
    have e3:[c3] = [.int .i64 y3]:=r3
    have e4:[c4] = [.slice a4 l4 c4']:=r4
    cases e0; cases e1; cases e2; cases e3; cases e4
    refine ⟨⟨y0,y1,y2,y3,y4⟩,⟨⟨a0,l0,c0',a1,l1,c1',a2,l2,c2',y3,a4,l4,c4'⟩,rfl,q0,q1,q2,rfl,q4,k0,k1,k2,k4⟩,?_⟩
    have z0:=b0.1
    have z1:=b1.1
    have z2:=b2.1
    have z4:=b4.1
    unfold reachBytes at z0 z1 z2 z4
    refine ⟨⟨by show y0.length≤_; omega,by show y1.length≤_; omega,by show y2.length≤_; omega,by show y4.length * 40≤_; omega,fun t ht=>⟨?_,(b0.2 t ht).2⟩,fun s hs=>?_,fun p hp=>?_⟩,by show y0.length * 24≤_; omega,by show y1.length * 16≤_; omega⟩
    · have:=(b0.2 t ht).1; unfold anyS reachBytes at this; omega
    · have:=b1.2 s hs; unfold anyS reachBytes at this; omega
    · have:=(b4.2 p hp).2.1.1; unfold reachBytes at this; omega

theorem gTab : Tryz.prog.globalNamed "math/bits.deBruijn64tab" = some 0 := by kernel_rfl
theorem gTabType:(Tryz.prog.globals[0]?).map (·.type) = some 215:=by kernel_rfl
theorem cellsTab:Tryz.prog.cellsOf 215 = 64:=by kernel_rfl
theorem cellsTabE:Tryz.prog.cellsOf 5 = 1:=by kernel_rfl
theorem table {W : World} (h : laidMetH Tryz.prog [("math/bits.deBruijn64tab", Rows.laid_math_bits_deBruijn64tab)] W) : tabA (hp W) := by
  have ht : Lib.TabIs Tryz.prog W "math/bits.deBruijn64tab" .u8 (Lib.deBruijn64tab.map fun (k : Nat) => (k : Int)) :=
    Lib.tabIs_of_head (rest:=[]) gTab gTabType Tryz.underlying215 Tryz.underlying5 cellsTabE cellsTab h
  refine .inr ⟨_,rfl,fun j v hj=>?_⟩
  have hlt:=(List.getElem?_eq_some_iff.1 hj).1
  have hc:=ht.cell gTab j (by simpa [tabV] using hlt)
  rw [add_lit0]
  refine cellH_of (hc.trans ?_)
  rw [← hj]
  simp only [tabV,List.getElem?_map,List.length_map] at hj hlt ⊢
  rw [List.getElem?_eq_getElem hlt]
  simp [hlt]
noncomputable def laidWorld (os:Os):World :=
  { World.holding Tryz.prog os ⟨#[],#[],[]⟩ with heap:=(World.holding Tryz.prog os ⟨#[],#[],[]⟩).heap.modify 0 fun
      | .cells _ t frozen=>.cells ⟨tabV⟩ t frozen
      | o=>o }
end Go.Proofs.YtngdohpikfcifaaGreatDoor
