/- Texts of this claim, one behind the other. -/
import Derived.Test.YtndaepmjkbmjmaaGreatDoorG4
import Derived.LaidEql
import Derived.Test.YtndaepmjkbmjmaaGreatDoorG1
import Derived.Test.YtndaepmjkbmjmaaGreatDoorG3
import Derived.Test.YtndaepmjkbmjmaaGreatDoorG2
set_option linter.unusedVariables false
set_option maxRecDepth 4000
namespace Go.V
def En (es:List (List Int)) (n:Nat):List Nat:=(es.getD n []).map Int.toNat
def RightP (es:List (List Int)):Prop:=∀ l∈es,∀ x∈l,0≤x∧x < (es.length:Int)
theorem en_get {es:List (List Int)} {n:Nat} {l:List Int} (h:es[n]? = some l):En es n = l.map Int.toNat:=by
  unfold En; rw [List.getD_eq_getElem?_getD,h]; rfl
theorem en_lt {es:List (List Int)} (hR:RightP es) {n m:Nat} (h:m∈En es n):m < es.length:=by
  unfold En at h
  rw [List.getD_eq_getElem?_getD] at h
  cases hl:es[n]? with
  | none=>rw [hl] at h; simp at h
  | some l =>
    rw [hl] at h
    obtain ⟨x,hx,rfl⟩:=List.mem_map.1 h
    have:=hR l (List.mem_of_getElem? hl) x hx
    omega
def lowUp (low:List Nat) (n:Nat):List Dig.Sc→List Nat
  | []=>low
  | (u,_,_) :: _=>low.set u (min (lf low u) (lf low n))
def setAll (x:Nat) (low:List Nat) (g:List Nat):List Nat:=g.foldl (fun l m=>l.set m x) low
theorem setAll_len (x:Nat):∀ (g low:List Nat),(setAll x low g).length = low.length
  | [],_=>rfl
  | m :: g,low=>by show (setAll x (low.set m x) g).length = _; rw [setAll_len x g]; simp
theorem setAll_snoc (x:Nat) (low g:List Nat) (m:Nat):setAll x low (g ++ [m]) = (setAll x low g).set m x:=by simp [setAll]
theorem lf_setAll (x:Nat):∀ (g low:List Nat),(∀ m∈g,m < low.length)→lf (setAll x low g) = fun v=>if v∈g then x else lf low v
  | [],_,_=>by funext v; simp [setAll]
  | m :: g,low,h=>by
    have:=lf_setAll x g (low.set m x) (fun y hy=>by rw [List.length_set]; exact h y (by simp [hy]))
    show lf (setAll x (low.set m x) g) = _
    rw [this,lf_set (h m (by simp))]
    funext v
    by_cases e:v∈g
    · simp [e]
    · by_cases e2:v = m
      · subst e2; simp [e,Dig.upd]
      · simp [e,e2,Dig.upd]
structure WD where
  S:List Dig.Sc
  low:List Nat
  gs:List (List Nat)
  mp:List (Int × Value)
  oa:Option Addr
  oc:Nat
  wa:Option Addr
  wc:Nat
end Go.V
namespace Go.Proofs.YtndaepmjkbmjmaaGreatDoor
open Go.V
variable {w:World} {L:List Asn} {es:List (List Int)} {a:Option Addr} {N c l:Nat} {d:FuncId} {e:List Value} {Q:List (List Nat)→List Asn}
theorem y_CloneI {xs:List Int} (hr:rdS (hp w) xs a l) (hb:xs.length * 8≤140737488355328) (hb2:xs.length≤9223372036854775807):Run Tryz.prog n_slices_Clone_int_int_ [.slice a l c] w fun v w'=>∃ o c',v = .slice o xs.length c'∧St w' (own 1 o xs.length c' (iv xs) :: all w):=by
  refine run_slices_Clone_int_int_ _ _ _ w _ ?_
  have hl:=hr.1
  cases a with
  | none =>
    have h0:xs = []:=by
      cases xs with
      | nil=>rfl
      | cons t ts=>obtain ⟨ad,_,e,_⟩:=hr.2 0 t rfl; cases e
    subst h0
    exact ⟨none,0,rfl,own_nil 1 (St.all w)⟩
  | some ad =>
    refine newC_i (St.all w) fun b w1 h1=>?_
    have h2:St w1 (own 1 (some ⟨b,0,none⟩) 0 0 [] :: all w):=own_some (cs:=[]) h1 rfl rfl (Nat.le_refl _)
    have hr:=hr.mono h1.gone1
    refine (app_own' tyOk (rfl:kdOfT Ty _ = .slice _) rfl rfl rfl h2 (n:=l) (news:=iv xs) (src_slice tyOk (rfl:kdOfT Ty _ = .slice _) (by rw [iv_len,hl,Nat.mul_one]) (by
        rcases hr.iv with h0 | ⟨ad',e,hc⟩
        · exact .inl (by have:=congrArg List.length h0; rw [iv_len,hl] at this; exact this)
        · cases e; exact .inr ⟨ad,rfl,fun j u hj=>cellH_w (hc j u hj)⟩) (by
      intro u hu
      obtain ⟨t,_,rfl⟩:=List.mem_map.1 hu
      rfl)) (by show (0 + l) * 8≤_; omega) (by omega)).mono ?_
    rintro _ w2 ⟨a',c',rfl,h3⟩
    rw [Nat.zero_add,← hl] at h3 ⊢
    rw [List.nil_append] at h3
    exact ⟨_,_,_,rfl,a',c',rfl,h3⟩
def WDI (ko kl kw bl km N fr:Nat) (es:List (List Int)) (Q:List (List Nat)→List Asn) (L:List Asn) (x:WD) (w:World):Prop :=
  x.low.length = N∧Dig.Inv (En es) N (lf x.low) x.S x.gs∧(∀ v,v≤fr→lf x.low v≠0)∧MapOkD x.mp x.S ∧
    St w (seaL ko kl kw bl N x.oa x.oc x.wa x.wc (Dig.opOf x.S) x.low (wkOf x.S) ++ (mapA km x.mp :: (Q x.gs ++ L)))
def DoneC (d:FuncId) (e:List Value) (es:List (List Int)) (Q:List (List Nat)→List Asn):Prop :=
  ∀ (gs:List (List Nat)) (g:List Nat) (F:List Asn) (w:World) (o:Option Addr) (gc:Nat),Dig.Good (En es) (gs ++ [g])→(∀ v∈(gs ++ [g]).flatten,v < es.length) →
    St w (own 1 o g.length gc (ivn g) :: (Q gs ++ F))→Run Tryz.prog d (.slice o g.length gc :: e) w fun v w'=>v = .tuple (Array.mk [])∧St w' (Q (gs ++ [g]) ++ F)
theorem d_each (hfl:Fn d = true) (hD:DoneC d e es Q) (hE:∀ gs h,starL (Q gs ++ L) h→rdS h es a N) (hR:RightP es) (hB:∀ l∈es,l.length * 8≤140737488355328) (hb:N * 24≤140737488355328) (h:St w (Q [] ++ L)) :
    Run Tryz.prog n_digraph_each [.slice a N c,.func (.func d) (Array.mk []) ⟨e⟩] w fun v w'=>v = .tuple (Array.mk [])∧∃ gs,Dig.Good (En es) gs∧(∀ v,v∈gs.flatten↔v < N)∧St w' (Q gs ++ L):=by
  refine run_digraph_each a N c d e w _ ?_
  have hN:es.length = N:=(hE [] _ h.l).1
  refine ⟨⟨by omega,rfl,by omega⟩,newC_i h fun bl w1 h=>newC_i h fun kl w2 h=>st1_i h (by simp) fun w3 h=>⟨⟨by omega,by omega⟩,newC_i h fun ko w4 h=>newC_i h fun kw w5 h=>?_⟩⟩
  have h:St w5 (seaL ko kl kw bl N none 0 none 0 [] (List.replicate N 0) [] ++ (Q [] ++ L)):=by
    have e1:reps (Int.toNat (N:Int)) [iI 0] = ivn (List.replicate N 0):=by rw [reps_one]; simp [ivn]
    rw [e1] at h
    have h:=own_nil 2 (own_nil 1 h)
    exact h.pick 6 [3,1,4,5,2,0]
  refine ⟨fun z w'=>∃ k:Nat,z = k∧k≤N∧∃ gs low oa oc wa wc,low.length = N∧Dig.Inv (En es) N (lf low) [] gs∧(∀ v,v < k→lf low v≠0)∧St w' (seaL ko kl kw bl N oa oc wa wc [] low [] ++ (Q gs ++ L)),
    fun z _=>N - z.toNat,⟨0,rfl,Nat.zero_le _,[],List.replicate N 0,none,0,none,0,by simp,?_,fun v hv=>by omega,h⟩,?_⟩
  · have:lf (List.replicate N 0) = fun _=>0:=by
      funext v; unfold lf; rw [List.getD_eq_getElem?_getD,List.getElem?_replicate]; split <;> rfl
    rw [this]; exact Dig.Inv.start _ _
  rintro _ z w6 ⟨k,rfl,hk,gs,low,oa,oc,wa,wc,hl,hI,hs,h⟩
  refine br_intro (fun h1=>?_) fun h1=>?_
  rotate_left
  · have h1:k = N:=by have:=of_decide_eq_false h1; omega
    subst h1
    refine ⟨rfl,gs,hI.good,fun v=>⟨fun hv=>hI.lt v (by simpa [Dig.opOf] using hv),fun hv=>?_⟩,?_⟩
    · have:=hI.seen hv (hs v hv)
      simpa [Dig.opOf] using this
    · exact h.tail.tail.tail.tail.tail.tail
  have h1:k < N:=by have:=of_decide_eq_true h1; omega
  refine ⟨_,_,_,(rdCel 2 h.l).cell0 (sub.refl _),idx_i rfl h1 ⟨_,(rdCel 3 h.l).cell (sub.refl _) (j:=k) (ivn_get' (lf_get (by omega))),?_⟩⟩
  refine br_intro (fun h2=>?_) fun h2=>?_
  · have h2:=of_decide_eq_true h2
    refine ⟨⟨by omega,by omega⟩,⟨k + 1,rfl,h1,gs,low,oa,oc,wa,wc,hl,hI,fun v hv=>?_,h⟩,msr h1⟩
    by_cases ev:v = k
    · subst ev; omega
    · exact hs v (by omega)
  have h2:lf low k = 0:=by have:=of_decide_eq_false h2; omega
  refine new_i h fun km w7 h=>?_
  have h:=mapA_new (κ:=Int) h
  refine ⟨_,_,_,(rdCel 1 h.l).cell0 (sub.refl _),⟨by simp,by simp⟩,(map_update (κ:=Int) tyOk (rfl:kdOfT Ty _ = .map _ _) und_int h (k:Int) _).mono ?_⟩
  rintro _ w8 h
  refine (d_enter (n:=k) (h.pick 7 [1,2,3,4,5,6,0]) hl h1 (by simp; omega) (by simp; omega) hb).mono ?_
  rintro _ w9 ⟨rfl,oa,oc,wa,wc,h⟩
  refine ⟨rfl,fun w'=>∃ x,WDI ko kl kw bl km N k es Q L x w',fun w'=>mea (WDI ko kl kw bl km N k es Q L) (fun x=>Dig.todo (En es) N (lf x.low) x.S) w',?_,?_⟩
  · refine ⟨⟨[(k,0,[])],low.set k 1,gs,_,oa,oc,wa,wc⟩,by simp [hl],?_,?_,?_,h⟩
    · show Dig.Inv _ _ (lf (low.set k 1)) _ _
      rw [lf_set (by omega)]
      exact hI.root h1 h2
    · intro v hv
      show lf (low.set k 1) v≠0
      rw [lf_set (by omega)]
      by_cases ev:v = k
      · subst ev; rw [Dig.upd_same]; omega
      · rw [Dig.upd_ne ev]; exact hs v (by omega)
    · exact ⟨by show assoc _ [(_,_)] = _; simp [assoc,Dig.opOf],trivial⟩
  intro _ w10 hw
  obtain ⟨⟨S,low2,gs2,mp,oa,oc,wa,wc⟩,⟨hl2,hI2,hs2,hM,h⟩,hm⟩:=mea_get hw
  simp only at hl2 hI2 hs2 hM h hm
  refine ⟨_,_,_,(rdCel 4 h.l).cell0 (sub.refl _),?_⟩
  refine br_intro (fun h3=>?_) fun h3=>?_
  rotate_left
  · have h3:=of_decide_eq_false h3
    cases S with
    | cons x t=>obtain ⟨n,j,r⟩:=x; rw [wkOf_cons] at h3; simp at h3
    | nil =>
      refine ⟨⟨by omega,by omega⟩,⟨k + 1,rfl,h1,gs2,low2,oa,oc,wa,wc,hl2,hI2,fun v hv=>hs2 v (by omega),?_⟩,msr h1⟩
      exact h.pick 7 [0,1,2,3,4,5]
  cases S with
  | nil=>have h3:=of_decide_eq_true h3; simp [wkOf] at h3
  | cons x t =>
  obtain ⟨n,k0,r⟩:=x
  have hlen:=hI2.len
  have hwk:=wkOf_len ((n,k0,r) :: t)
  have hw1:(wkOf ((n,k0,r) :: t)).length = (wkOf t).length + 1:=by rw [wkOf_cons]; simp
  have hnN:n < N:=hI2.lt n (by simp [Dig.opOf])
  obtain ⟨wad,hwa,_⟩:=own_cell (h.pick 7 [5,0,1,2,3,4,6]) (j:=(wkOf t).length * 2) (frv_get (i:=(wkOf t).length) (n:=n) (k:=k0) (by rw [wkOf_cons]; simp)).1
  refine ⟨_,_,_,(rdCel 4 h.l).cell0 (sub.refl _),_,_,_,(rdCel 4 h.l).cell0 (sub.refl _),⟨by omega,by omega⟩,?_⟩
  have ei:((wkOf ((n,k0,r) :: t)).length:Int) - 1 = ((wkOf t).length:Int):=by omega
  rw [ei]
  refine idx_n hwa (by omega) ?_
  rw [mulS_eq]
  -- the steps of one node
  let P2:Nat × List Nat→World→Prop:=fun p w'=>p.2.length = N∧Dig.Inv (En es) N (lf p.2) ((n,p.1,r) :: t) gs2∧(∀ v,v≤k→lf p.2 v≠0)∧Dig.todo (En es) N (lf p.2) ((n,p.1,r) :: t)≤mea (WDI ko kl kw bl km N k es Q L) (fun x=>Dig.todo (En es) N (lf x.low) x.S) w10 ∧
    St w' (seaL ko kl kw bl N oa oc wa wc (Dig.opOf ((n,p.1,r) :: t)) p.2 (wkOf ((n,p.1,r) :: t)) ++ (mapA km mp :: (Q gs2 ++ L)))
  refine ⟨fun w'=>∃ p,P2 p w',fun w'=>mea P2 (fun p=>(En es n).length - p.1) w',⟨(k0,low2),hl2,hI2,hs2,by rw [← hm]; exact Nat.le_refl _,h⟩,?_⟩
  intro _ w11 hw
  obtain ⟨⟨j,low3⟩,⟨hl3,hI3,hs3,ht3,h⟩,hm3⟩:=mea_get (f:=fun p=>(En es n).length - p.1) hw
  simp only at hl3 hI3 hs3 ht3 h hm3
  intro w12 hd
  have h:=h.eq (drawn_hp hd)
  obtain ⟨el,hel⟩ : ∃ el,es[n]? = some el:=⟨es[n]'(by omega),List.getElem?_eq_getElem _⟩
  have hen:=en_get hel
  have rE0:rdS (hp w12) es a N:=hE gs2 _ h.tail.tail.tail.tail.tail.tail.tail.l
  obtain ⟨el',ead,ev,hel',hea,hrow,o6,l6,c6,rfl,hle6,hrd6⟩:=rE0.get (i:=n) hnN
  rw [hel] at hel'; cases hel'
  rw [mulS_eq,show n * Rep.n (List Int) = n from Nat.mul_one n] at hrow
  have hel6:el.length = l6:=hrd6.1
  have henl:(En es n).length = l6:=by rw [hen,List.length_map]; exact hel6
  have hjle:j≤(En es n).length:=hI3.ok.1.le
  have hBl:=hB el (List.mem_of_getElem? hel)
  have hwt:(wkOf ((n,j,r) :: t))[(wkOf t).length]? = some (n,j):=by rw [wkOf_cons]; simp
  have hwl:(wkOf ((n,j,r) :: t)).length = (wkOf t).length + 1:=by rw [wkOf_cons]; simp
  obtain ⟨wad',hwa',hc1⟩:=own_cell (h.pick 7 [5,0,1,2,3,4,6]) (frv_get hwt).1
  obtain ⟨wad'',hwa'',hc2⟩:=own_cell (h.pick 7 [5,0,1,2,3,4,6]) (frv_get hwt).2
  rw [hwa] at hwa' hwa''
  cases hwa'; cases hwa''
  rw [← add_add] at hc2
  have cw:∀ {u:World} {ad:Addr} {v:Value},hp u = hp w12→w12.cell? ad = some v→u.cell? ad = some v:=fun hu h=>by rw [cell_hp hu]; exact h
  refine ⟨fun u=>hp u = hp w12,rfl,(j:Int),fun u hu=>cw hu hc2,(n:Int),fun u hu=>cw hu hc1,idx_i hea hnN ⟨o6,l6,c6,fun u hu=>cw hu (hrow.cell0 (sub.refl _)),?_⟩⟩
  refine br_intro (fun h4=>?_) fun h4=>?_
  · have h4:j < l6:=by have:=of_decide_eq_true h4; omega
    intro w16 hd2
    have h:=h.eq (drawn_hp hd2)
    have e16:=drawn_hp hd2
    obtain ⟨mI,hmI⟩ : ∃ mI,el[j]? = some mI:=⟨el[j]'(by omega),List.getElem?_eq_getElem _⟩
    obtain ⟨m,rfl⟩ : ∃ m:Nat,mI = (m:Int):=⟨mI.toNat,by have:=hR el (List.mem_of_getElem? hel) mI (List.mem_of_getElem? hmI); omega⟩
    have hmE:(En es n)[j]? = some m:=by rw [hen,List.getElem?_map,hmI]; rfl
    have hmN:m < N:=by have:=en_lt hR (List.mem_of_getElem? hmE); omega
    obtain ⟨ead5,hea5,hc5⟩:=hrd6.at hmI
    have cw:∀ {u:World} {ad:Addr} {v:Value},hp u = hp w16→w12.cell? ad = some v→u.cell? ad = some v:=fun hu h=>cw (hu.trans e16) h
    refine ⟨fun u=>hp u = hp w16,rfl,(n:Int),fun u hu=>cw hu hc1,idx_i hea hnN ⟨o6,l6,c6,fun u hu=>cw hu (hrow.cell0 (sub.refl _)),(j:Int),fun u hu=>cw hu hc2,idx_i hea5 h4 ⟨(m:Int),fun u hu=>hc5 u (by rw [hu,e16]; exact sub.refl _),(j:Int),cw rfl hc2,⟨by omega,by omega⟩,?_⟩⟩⟩
    rw [add_add]
    refine own_st1 (h.pick 7 [5,0,1,2,3,4,6]) hwa (by rw [frv_len]; omega) fun w21 h=>?_
    have ej:((j:Int) + 1) = ((j + 1:Nat):Int):=by omega
    rw [ej,frv_set1 (j + 1) hwt] at h
    have h:St w21 (seaL ko kl kw bl N oa oc wa wc (Dig.opOf ((n,j + 1,r) :: t)) low3 (wkOf ((n,j + 1,r) :: t)) ++ (mapA km mp :: (Q gs2 ++ L))):=by
      have e1:(wkOf ((n,j,r) :: t)).set (wkOf t).length (n,j + 1) = wkOf ((n,j + 1,r) :: t):=by rw [wkOf_cons,wkOf_cons,List.set_append_right _ _ (Nat.le_refl _)]; simp
      have e2:(wkOf ((n,j + 1,r) :: t)).length = (wkOf ((n,j,r) :: t)).length:=by rw [hwl,wkOf_cons]; simp
      rw [e1] at h
      unfold seaL
      rw [e2]
      exact h.pick 7 [1,2,3,4,5,0,6]
    have hlen3:=hI3.len
    have hmE2:lf low3 m = 0→m∉Dig.opOf ((n,j,r) :: t):=fun h0 hm=>(hI3.un m hmN).1 h0 (by simp only [List.mem_append]; exact Or.inl hm)
    refine ⟨_,_,_,(rdCel 2 h.l).cell0 (sub.refl _),idx_i rfl hmN ⟨_,(rdCel 3 h.l).cell (sub.refl _) (j:=m) (ivn_get' (lf_get (by omega))),?_⟩⟩
    refine br_intro (fun h5=>?_) fun h5=>?_
    · have h5:lf low3 m = 0:=by have:=eq_of_beq h5; omega
      have hop:(Dig.opOf ((n,j + 1,r) :: t)).length < N:=by
        have h6:=hI3.push hmE hmN h5
        have h7:=h6.len
        have e1:Dig.opOf ((m,0,[]) :: (n,j + 1,r) :: t) = Dig.opOf ((n,j + 1,r) :: t) ++ [m]:=rfl
        rw [e1,List.length_append] at h7; simp at h7; omega
      have hwl2:=wkOf_len ((n,j + 1,r) :: t)
      refine ⟨_,_,_,(rdCel 0 h.l).cell0 (sub.refl _),⟨by omega,by omega⟩,(map_update (κ:=Int) tyOk (rfl:kdOfT Ty _ = .map _ _) und_int (h.pick 7 [6,0,1,2,3,4,5]) (m:Int) _).mono ?_⟩
      rintro _ w22 h
      refine (d_enter (n:=m) (h.pick 7 [1,2,3,4,5,6,0]) hl3 hmN hop (by omega) hb).mono ?_
      rintro _ w23 ⟨rfl,oa',oc',wa',wc',h⟩
      have hnew:WDI ko kl kw bl km N k es Q L ⟨(m,0,[]) :: (n,j + 1,r) :: t,low3.set m ((Dig.opOf ((n,j + 1,r) :: t)).length + 1),gs2,aput (m:Int) (.int .i64 (((Dig.opOf ((n,j + 1,r) :: t)).length:Int) + 1)) mp,oa',oc',wa',wc'⟩ w23:=by
        refine ⟨by simp [hl3],?_,?_,⟨?_,?_⟩,?_⟩
        · show Dig.Inv _ _ (lf (low3.set m _)) _ _
          rw [lf_set (by omega)]
          exact hI3.push hmE hmN h5
        · intro v hv
          show lf (low3.set m _) v≠0
          rw [lf_set (by omega)]
          by_cases ev:v = m
          · subst ev; rw [Dig.upd_same]; omega
          · rw [Dig.upd_ne ev]; exact hs3 v hv
        · show assoc _ (aput _ _ _) = _
          rw [assoc_put,if_pos rfl]; rfl
        · exact MapOkD.put ((n,j + 1,r) :: t) hM fun s hs e=>hmE2 h5 (by rw [← e]; exact sc_mem (S:=(n,j + 1,r) :: t) s hs)
        · have e1:wkOf ((m,0,[]) :: (n,j + 1,r) :: t) = wkOf ((n,j + 1,r) :: t) ++ [(m,0)]:=wkOf_cons _ _ _ _
          show St w23 (seaL _ _ _ _ _ _ _ _ _ (Dig.opOf ((n,j + 1,r) :: t) ++ [m]) _ (wkOf ((m,0,[]) :: (n,j + 1,r) :: t)) ++ _)
          rw [e1]
          exact h
      refine ⟨rfl,⟨_,hnew⟩,?_⟩
      have l1:=mea_le (f:=fun x=>Dig.todo (En es) N (lf x.low) x.S) hnew
      have l2:=Dig.todo_push hI3 hmE hmN h5 ((Dig.opOf ((n,j + 1,r) :: t)).length + 1) (by omega)
      simp only at l1
      rw [lf_set (by omega)] at l1
      exact Nat.lt_of_le_of_lt l1 (Nat.lt_of_lt_of_le l2 ht3)
    · have h5:lf low3 m≠0:=fun e=>by rw [e] at h5; simp at h5
      intro w24 hd3
      have h:=h.eq (drawn_hp hd3)
      have cL:∀ u,hp u = hp w24→u.cell? (aM kl) = some (.slice (some (aM bl)) N N):=fun u hu=>by rw [cell_hp hu]; exact (rdCel 2 h.l).cell0 (sub.refl _)
      have cI:∀ u,hp u = hp w24→∀ v,v < N→u.cell? ((aM bl).add v) = some (.int .i64 (lf low3 v:Int)):=fun u hu v hv=>by rw [cell_hp hu]; exact (rdCel 3 h.l).cell (sub.refl _) (j:=v) (ivn_get' (lf_get (by omega)))
      have e24:=drawn_hp hd3
      have hwt2:(wkOf ((n,j + 1,r) :: t))[(wkOf t).length]? = some (n,j + 1):=by rw [wkOf_cons]; simp
      obtain ⟨wad3,hwa3,hc3⟩:=own_cell (h.pick 7 [5,0,1,2,3,4,6]) (frv_get hwt2).1
      rw [hwa] at hwa3; cases hwa3
      refine ⟨fun u=>hp u = hp w24,rfl,_,_,_,cL,(n:Int),fun u hu=>by rw [cell_hp hu]; exact hc3,_,_,_,cL,(n:Int),fun u hu=>by rw [cell_hp hu]; exact hc3,idx_i rfl hnN ⟨_,fun u hu=>cI u hu n hnN,_,_,_,cL,idx_i rfl hmN ⟨_,fun u hu=>cI u hu m hmN,idx_i rfl hnN ?_⟩⟩⟩
      rw [add_lit0]
      have emin:(if (lf low3 m:Int) < (lf low3 n:Int) then (lf low3 m:Int) else (lf low3 n:Int)) = ((min (lf low3 n) (lf low3 m):Nat):Int):=by split <;> omega
      rw [emin]
      refine st1_i (h.pick 7 [3,0,1,2,4,5,6]) (by simp [ivn]; omega) fun w32 h=>?_
      rw [ivn_setN] at h
      have hnew:P2 (j + 1,low3.set n (min (lf low3 n) (lf low3 m))) w32:=by
        have eset:=lf_set (low:=low3) (i:=n) (x:=min (lf low3 n) (lf low3 m)) (by omega)
        have hlook:=hI3.look hmE hmN h5
        refine ⟨by simp [hl3],?_,?_,?_,h.pick 7 [1,2,3,0,4,5,6]⟩
        · show Dig.Inv _ _ (lf (low3.set n _)) _ _
          rw [eset]; exact hlook
        · intro v hv
          show lf (low3.set n _) v≠0
          rw [eset]
          by_cases ev:v = n
          · subst ev; rw [Dig.upd_same]
            have:=hI3.ok.1.pos v (by simp)
            omega
          · rw [Dig.upd_ne ev]; exact hs3 v hv
        · show Dig.todo _ _ (lf (low3.set n _)) _≤_
          rw [eset]
          refine Nat.le_trans ?_ ht3
          unfold Dig.todo
          rw [Dig.todo_same (low:=lf low3)]
          · simp only [List.map_cons,List.sum_cons]; omega
          · intro v hv
            by_cases ev:v = n
            · subst ev; rw [Dig.upd_same]
              have:=hI3.ok.1.pos v (by simp)
              constructor <;> intro <;> omega
            · rw [Dig.upd_ne ev]
      refine ⟨⟨_,hnew⟩,?_⟩
      have l1:=mea_le (f:=fun p=>(En es n).length - p.1) hnew
      have l2:(En es n).length - (j + 1) < (En es n).length - j:=by omega
      exact Nat.lt_of_le_of_lt l1 (Nat.lt_of_lt_of_le l2 (Nat.le_of_eq hm3))
  · have h4:j = (En es n).length:=by have:=of_decide_eq_false h4; omega
    have hlen3:=hI3.len
    refine ⟨(n:Int),hc1,_,_,_,(rdCel 4 h.l).cell0 (sub.refl _),_,_,_,(rdCel 4 h.l).cell0 (sub.refl _),⟨by omega,by omega⟩,?_⟩
    have ei:((wkOf ((n,j,r) :: t)).length:Int) - 1 = ((wkOf t).length:Int):=by omega
    have hwle:=own_le (h.pick 7 [5,0,1,2,3,4,6])
    rw [ei]
    refine slc_hiN (by omega) (st1_i (h.pick 7 [4,0,1,2,3,5,6]) (by simp) fun w33 h=>?_)
    have h:=own_cut (h.pick 7 [5,0,1,2,3,4,6]) (k:=(wkOf t).length) (by omega)
    have etk:(frv (wkOf ((n,j,r) :: t))).take ((wkOf t).length * 2) = frv (wkOf t):=by
      rw [wkOf_cons,← frv_snoc,← frv_len,List.take_left']
      rfl
    rw [etk] at h
    have h:St w33 (seaL ko kl kw bl N oa oc (slP wa 0 wc 2) wc (Dig.opOf ((n,j,r) :: t)) low3 (wkOf t) ++ (mapA km mp :: (Q gs2 ++ L))):=h.pick 7 [2,3,4,5,1,0,6]
    -- the one below takes over
    refine ⟨fun w'=>St w' (seaL ko kl kw bl N oa oc (slP wa 0 wc 2) wc (Dig.opOf ((n,j,r) :: t)) (lowUp low3 n t) (wkOf t) ++ (mapA km mp :: (Q gs2 ++ L))),⟨_,_,_,(rdCel 4 h.l).cell0 (sub.refl _),?_⟩,?_⟩
    · refine br_intro (fun h5=>?_) fun h5=>?_
      rotate_left
      · have h5:=of_decide_eq_false h5
        cases t with
        | nil=>exact h
        | cons x t=>obtain ⟨u,ku,ru⟩:=x; rw [wkOf_cons] at h5; simp at h5
      · cases t with
        | nil=>have h5:=of_decide_eq_true h5; simp [wkOf] at h5
        | cons x t =>
        obtain ⟨u,ku,ru⟩:=x
        have huN:u < N:=hI3.lt u (by simp [Dig.opOf])
        have hwu:(wkOf ((u,ku,ru) :: t))[(wkOf t).length]? = some (u,ku):=by rw [wkOf_cons]; simp
        have hwul:(wkOf ((u,ku,ru) :: t)).length = (wkOf t).length + 1:=by rw [wkOf_cons]; simp
        obtain ⟨wad4,hwa4,hc4⟩:=own_cell (h.pick 7 [5,0,1,2,3,4,6]) (frv_get hwu).1
        have ei2:((wkOf ((u,ku,ru) :: t)).length:Int) - 1 = ((wkOf t).length:Int):=by omega
        refine ⟨_,_,_,(rdCel 4 h.l).cell0 (sub.refl _),_,_,_,(rdCel 4 h.l).cell0 (sub.refl _),⟨by omega,by omega⟩,?_⟩
        rw [ei2]
        refine idx_n hwa4 (by omega) ?_
        rw [mulS_eq]
        refine ⟨(u:Int),hc4,?_⟩
        intro w34 hd5
        have h:=h.eq (drawn_hp hd5)
        have cL:∀ v,hp v = hp w34→v.cell? (aM kl) = some (.slice (some (aM bl)) N N):=fun u hu=>by rw [cell_hp hu]; exact (rdCel 2 h.l).cell0 (sub.refl _)
        have cI:∀ u,hp u = hp w34→∀ v,v < N→u.cell? ((aM bl).add v) = some (.int .i64 (lf low3 v:Int)):=fun u hu v hv=>by rw [cell_hp hu]; exact (rdCel 3 h.l).cell (sub.refl _) (j:=v) (ivn_get' (lf_get (by omega)))
        refine ⟨fun u=>hp u = hp w34,rfl,_,_,_,cL,_,_,_,cL,idx_i rfl huN ⟨_,fun v hv=>cI v hv u huN,_,_,_,cL,idx_i rfl hnN ⟨_,fun v hv=>cI v hv n hnN,idx_i rfl huN ?_⟩⟩⟩
        rw [add_lit0]
        have emin:(if (lf low3 n:Int) < (lf low3 u:Int) then (lf low3 n:Int) else (lf low3 u:Int)) = ((min (lf low3 u) (lf low3 n):Nat):Int):=by split <;> omega
        rw [emin]
        refine st1_i (h.pick 7 [3,0,1,2,4,5,6]) (by simp [ivn]; omega) fun w40 h=>?_
        rw [ivn_setN] at h
        exact h.pick 7 [1,2,3,0,4,5,6]
    · intro _ w41 h w42 hd4
      have h:=h.eq (drawn_hp hd4)
      obtain ⟨nx1,nx2,nx3,nx4⟩:=hI3.lown
      have hlu:(lowUp low3 n t).length = N:=by cases t <;> simp [lowUp,hl3]
      have hlun:lf (lowUp low3 n t) n = lf low3 n:=by
        cases t with
        | nil=>rfl
        | cons x t =>
          obtain ⟨u,ku,ru⟩:=x
          have huN:u < N:=hI3.lt u (by simp [Dig.opOf])
          show lf (low3.set u _) n = _
          rw [lf_set (by omega),Dig.upd_ne]
          intro e
          exact nx1 (by rw [e]; simp [Dig.opOf])
      obtain ⟨ma1,ma2⟩:=hM
      have lk:=fun {w' : World} {L' : List Asn} (h:St w' (mapA km mp :: L'))=>map_lookup (κ:=Int) (P:=Tryz.prog) (z:=.int .i64 0) tyOk (rfl:kdOfT Ty ty_m_int_int = .map _ _) und_int rfl rfl h (n:Int)
      rw [ma1] at lk
      have cL:∀ v,hp v = hp w42→v.cell? (aM kl) = some (.slice (some (aM bl)) N N):=fun u hu=>by rw [cell_hp hu]; exact (rdCel 2 h.l).cell0 (sub.refl _)
      have cI:∀ u,hp u = hp w42→∀ v,v < N→u.cell? ((aM bl).add v) = some (.int .i64 (lf (lowUp low3 n t) v:Int)):=fun u hu v hv=>by rw [cell_hp hu]; exact (rdCel 3 h.l).cell (sub.refl _) (j:=v) (ivn_get' (lf_get (by omega)))
      refine ⟨fun u=>hp u = hp w42,rfl,_,_,_,cL,idx_i rfl hnN ⟨_,fun v hv=>cI v hv n hnN,(lk (h.pick 7 [6,0,1,2,3,4,5])).mono ?_⟩⟩
      rintro _ w45 ⟨rfl,rfl⟩
      refine ⟨_,rfl,rfl,?_⟩
      rw [hlun]
      have hop:(Dig.opOf ((n,j,r) :: t)).length = (Dig.opOf t).length + 1 + r.length:=Dig.mem_opOf_len
      refine br_intro (fun h6=>?_) fun h6=>?_
      · have h6:lf low3 n = (Dig.opOf t).length + 1:=by have:=eq_of_beq h6; omega
        have hP:=hI3.pop h4 h6
        have hgN:∀ v∈n :: r,v < N:=fun v hv=>hI3.lt v (by simp only [Dig.opOf,List.mem_append]; exact Or.inl (Or.inr hv))
        have hlowU:lowUp low3 n t = low3∨lf (lowUp low3 n t) = lf low3:=by
          cases t with
          | nil=>exact .inl rfl
          | cons x t =>
            obtain ⟨u,ku,ru⟩:=x
            have huN:u < N:=hI3.lt u (by simp [Dig.opOf])
            right
            show lf (low3.set u _) = _
            rw [lf_set (by omega),hI3.lowu h6]
            funext v; unfold Dig.upd; split
            · rename_i e; rw [e]
            · rfl
        have hlowU:lf (lowUp low3 n t) = lf low3:=by rcases hlowU with e | e <;> rw [e]
        have hole:=own_le (h.pick 7 [1,0,2,3,4,5,6])
        refine ⟨_,_,_,(rdCel 0 h.l).cell0 (sub.refl _),(lk (h.pick 7 [6,0,1,2,3,4,5])).mono ?_⟩
        rintro _ w46 ⟨rfl,rfl⟩
        have eb:((((Dig.opOf t).length + 1:Nat):Int) - 1) = ((Dig.opOf t).length:Int):=by omega
        refine ⟨_,rfl,⟨by omega,by omega⟩,?_⟩
        rw [eb]
        have hrO:rdS (hp w46) ((Dig.opOf ((n,j,r) :: t)).map Int.ofNat) oa (Dig.opOf ((n,j,r) :: t)).length:=rdI_of (by simp) (by rw [← ivn_eq]; exact rdOv 1 h.l)
        have hrG:=hrO.drop (k:=(Dig.opOf t).length) (m:=oc) (by omega) hole
        have hdr:((Dig.opOf ((n,j,r) :: t)).map Int.ofNat).drop (Dig.opOf t).length = (n :: r).map Int.ofNat:=by
          rw [← List.map_drop]; congr 1; show (Dig.opOf t ++ n :: r).drop _ = _; rw [List.drop_left']; rfl
        rw [hdr] at hrG
        have hgl:(Dig.opOf ((n,j,r) :: t)).length - (Dig.opOf t).length = (n :: r).length:=by rw [hop]; simp; omega
        refine slc_from (by omega) hole ((y_CloneI hrG (by simp; omega) (by simp; omega)).mono ?_)
        rintro _ w47 ⟨o25,c25,rfl,h47⟩
        have h:=h47.on1 h
        have elg:((n :: r).map Int.ofNat).length = (n :: r).length:=by simp
        rw [elg,← ivn_eq] at h
        refine ⟨_,_,_,by rw [elg],_,_,_,(rdCel 1 h.l).cell0 (sub.refl _),(lk (h.pick 8 [7,0,1,2,3,4,5,6])).mono ?_⟩
        rintro _ w48 ⟨rfl,rfl⟩
        refine ⟨_,rfl,⟨by omega,by omega⟩,?_⟩
        rw [eb]
        refine slc_hiN (by omega) (st1_i (h.pick 8 [1,0,2,3,4,5,6,7]) (by simp) fun w49 h=>?_)
        have h:=own_cut (h.pick 8 [2,0,1,3,4,5,6,7]) (k:=(Dig.opOf t).length) (by omega)
        have etk:(ivn (Dig.opOf ((n,j,r) :: t))).take ((Dig.opOf t).length * 1) = ivn (Dig.opOf t):=by
          show (ivn (Dig.opOf t ++ n :: r)).take _ = _
          unfold ivn
          rw [List.map_append,List.take_left']
          simp
        rw [etk] at h
        have h:St w49 (own 1 o25 (n :: r).length c25 (ivn (n :: r)) :: (seaL ko kl kw bl N (slP oa 0 oc 1) oc (slP wa 0 wc 2) wc (Dig.opOf t) (lowUp low3 n t) (wkOf t) ++ (mapA km mp :: (Q gs2 ++ L)))):=h.pick 8 [2,1,0,3,4,5,6,7]
        refine ⟨fun z w'=>∃ i:Nat,z = i∧i≤(n :: r).length∧St w' (own 1 o25 (n :: r).length c25 (ivn (n :: r)) :: (seaL ko kl kw bl N (slP oa 0 oc 1) oc (slP wa 0 wc 2) wc (Dig.opOf t) (setAll (N + 1) (lowUp low3 n t) ((n :: r).take i)) (wkOf t) ++ (mapA km mp :: (Q gs2 ++ L)))),
          fun z _=>(n :: r).length - z.toNat,⟨0,rfl,Nat.zero_le _,h⟩,?_⟩
        rintro _ z w50 ⟨i,rfl,hi,h⟩
        refine br_intro (fun h7=>?_) fun h7=>?_
        · have h7:i < (n :: r).length:=by have:=of_decide_eq_true h7; omega
          obtain ⟨v,hv⟩ : ∃ v,(n :: r)[i]? = some v:=⟨(n :: r)[i],List.getElem?_eq_getElem _⟩
          have hvN:=hgN v (List.mem_of_getElem? hv)
          obtain ⟨gad,hga,hgc⟩:=own_cell h (ivn_get' hv)
          refine idx_i hga h7 ⟨_,hgc,_,_,_,(rdCel 3 h.l).cell0 (sub.refl _),idx_i rfl hvN ?_⟩
          rw [add_lit0]
          have eN:((N:Int) + 1) = ((N + 1:Nat):Int):=by omega
          rw [eN]
          refine st1_i (h.pick 8 [4,0,1,2,3,5,6,7]) (by simp [ivn,setAll_len]; omega) fun w51 h=>⟨⟨by simp at h7 hi ⊢; omega,by simp at h7 hi ⊢; omega⟩,⟨i + 1,rfl,h7,?_⟩,msr h7⟩
          rw [ivn_setN] at h
          rw [List.take_add_one,hv,Option.toList_some,setAll_snoc]
          exact h.pick 8 [1,2,3,4,0,5,6,7]
        · have h7:i = (n :: r).length:=by have:=of_decide_eq_false h7; omega
          subst h7
          rw [List.take_length] at h
          refine ifT_iff.2 ⟨hfl,?_⟩
          let M':=seaL ko kl kw bl N (slP oa 0 oc 1) oc (slP wa 0 wc 2) wc (Dig.opOf t) (setAll (N + 1) (lowUp low3 n t) (n :: r)) (wkOf t) ++ [mapA km mp]
          have hp1:(M' ++ (Q gs2 ++ L)).Perm (Q gs2 ++ (M' ++ L)):=by
            rw [← List.append_assoc,← List.append_assoc]; exact List.perm_append_comm.append_right L
          have h8:St w50 (own 1 o25 (n :: r).length c25 (ivn (n :: r)) :: (Q gs2 ++ (M' ++ L))):=h.perm (List.Perm.cons _ hp1)
          have hrun:=hD gs2 (n :: r) (M' ++ L) w50 o25 c25 hP.good (fun v hv=>by rw [hN]; exact hP.lt v (List.mem_append_right _ hv)) h8
          refine hrun.mono ?_
          rintro _ w52 ⟨rfl,h⟩
          have elow:lf (setAll (N + 1) (lowUp low3 n t) (n :: r)) = fun v=>if v∈n :: r then N + 1 else lf low3 v:=by
            rw [lf_setAll _ _ _ (fun m hm=>by rw [hlu]; exact hgN m hm),hlowU]
          have hnew:WDI ko kl kw bl km N k es Q L ⟨t,setAll (N + 1) (lowUp low3 n t) (n :: r),gs2 ++ [n :: r],mp,slP oa 0 oc 1,oc,slP wa 0 wc 2,wc⟩ w52:=by
            refine ⟨by show (setAll _ _ _).length = _; rw [setAll_len]; exact hlu,?_,?_,ma2,St.bring (M:=Q (gs2 ++ [n :: r])) (Q:=M') (L:=L) h⟩
            · show Dig.Inv _ _ (lf (setAll _ _ _)) _ _
              rw [elow]; exact hP
            · intro v hv
              show lf (setAll _ _ _) v≠0
              rw [elow]
              simp only
              split
              · omega
              · exact hs3 v hv
          refine ⟨rfl,⟨_,hnew⟩,?_⟩
          have l1:=mea_le (f:=fun x=>Dig.todo (En es) N (lf x.low) x.S) hnew
          refine Nat.lt_of_le_of_lt l1 (Nat.lt_of_lt_of_le ?_ ht3)
          show Dig.todo _ _ (lf (setAll _ _ _)) _ < _
          rw [elow]
          unfold Dig.todo
          rw [Dig.todo_same (low:=lf low3)]
          · simp only [List.map_cons,List.sum_cons]; omega
          · intro v hv
            show (if v∈n :: r then N + 1 else lf low3 v) = 0↔lf low3 v = 0
            split
            · rename_i e
              have h9:lf low3 v≠0:=fun h0=>(hI3.un v hv).1 h0 (by simp only [Dig.opOf,List.mem_append]; exact Or.inl (Or.inr e))
              constructor <;> intro <;> omega
            · exact Iff.rfl
      · have h6:lf low3 n≠(Dig.opOf t).length + 1:=fun e=>by rw [e] at h6; simp at h6
        cases t with
        | nil =>
          exfalso
          have h8:=hI3.ok.1.top
          have h9:=hI3.ok.1.pos n (by simp)
          simp [Dig.opOf] at h8 h6
          omega
        | cons x t =>
        obtain ⟨u,ku,ru⟩:=x
        have huN:u < N:=hI3.lt u (by simp [Dig.opOf])
        have eset:=lf_set (low:=low3) (i:=u) (x:=min (lf low3 u) (lf low3 n)) (by omega)
        have hmg:=hI3.merge h4 h6
        have hpu:=hI3.ok.2.2.1.pos u (by simp)
        have hpn:=hI3.ok.1.pos n (by simp)
        have hnew:WDI ko kl kw bl km N k es Q L ⟨(u,ku,ru ++ n :: r) :: t,lowUp low3 n ((u,ku,ru) :: t),gs2,mp,oa,oc,slP wa 0 wc 2,wc⟩ w45:=by
          refine ⟨hlu,?_,?_,ma2,?_⟩
          · show Dig.Inv _ _ (lf (low3.set u _)) _ _
            rw [eset]; exact hmg
          · intro v hv
            show lf (low3.set u _) v≠0
            rw [eset]
            by_cases ev:v = u
            · subst ev; rw [Dig.upd_same]; omega
            · rw [Dig.upd_ne ev]; exact hs3 v hv
          · have e1:Dig.opOf ((u,ku,ru ++ n :: r) :: t) = Dig.opOf ((n,j,r) :: (u,ku,ru) :: t):=by simp [Dig.opOf]
            show St w45 (seaL _ _ _ _ _ _ _ _ _ (Dig.opOf ((u,ku,ru ++ n :: r) :: t)) _ _ ++ _)
            rw [e1]
            exact h
        refine ⟨⟨_,hnew⟩,?_⟩
        have l1:=mea_le (f:=fun x=>Dig.todo (En es) N (lf x.low) x.S) hnew
        refine Nat.lt_of_le_of_lt l1 (Nat.lt_of_lt_of_le ?_ ht3)
        show Dig.todo _ _ (lf (low3.set u _)) _ < _
        rw [eset]
        unfold Dig.todo
        rw [Dig.todo_same (low:=lf low3)]
        · simp only [List.map_cons,List.sum_cons]; omega
        · intro v hv
          by_cases ev:v = u
          · subst ev; rw [Dig.upd_same]
            constructor <;> intro <;> omega
          · rw [Dig.upd_ne ev]
end Go.Proofs.YtndaepmjkbmjmaaGreatDoor
set_option linter.unusedVariables false
set_option maxRecDepth 4000
namespace Go.V
def rightB (es:List (List Int)):Bool:=!es.any fun l=>l.any fun x=>decide (x < 0) || decide ((es.length:Int)≤x)
theorem rightB_iff {es:List (List Int)}:rightB es = true↔RightP es:=by
  unfold rightB RightP
  rw [Bool.not_eq_true',List.any_eq_false]
  constructor
  · intro h l hl x hx
    have:=h l hl
    rw [Bool.not_eq_true,List.any_eq_false] at this
    have:=this x hx
    simp at this; omega
  · intro h l hl
    rw [Bool.not_eq_true,List.any_eq_false]
    intro x hx
    have:=h l hl x hx
    simp; omega
end Go.V
namespace Go.Proofs.YtndaepmjkbmjmaaGreatDoor
open Go.V
variable {w:World} {a:Option Addr} {l c:Nat} {d:FuncId} {e:List Value}
theorem y_CtI {xs:List Int} {p:Int→Bool} (hfl:Fn d = true) (hr:rdS (hp w) xs a l) (hb:l≤4611686018427387904)
    (hP:∀ x∈xs,∀ u,hp u = hp w→Run Tryz.prog d (.int .i64 x :: e) u fun v u'=>v = .bool (p x)∧hp u' = hp w) :
    Run Tryz.prog n_slices_ContainsFunc_int_int_ [.slice a l c,.func (.func d) (Array.mk []) ⟨e⟩] w fun v w'=>v = .bool (xs.any p)∧hp w' = hp w:=by
  refine run_slices_ContainsFunc_int_int_ _ _ _ _ _ w _ ?_
  have key:Run Tryz.prog n_slices_IndexFunc_int_int_ [.slice a l c,.func (.func d) (Array.mk []) ⟨e⟩] w fun v w'=>∃ n:Int,v = .int .i64 n∧(xs.any p = decide (0≤n))∧hp w' = hp w:=by
    refine run_slices_IndexFunc_int_int_ _ _ _ _ _ w _ ?_
    have hxl:=hr.1
    refine ⟨fun z w'=>∃ j:Nat,z = j∧j≤l∧(∀ k∈xs.take j,p k = false)∧hp w' = hp w,fun z _=>l - z.toNat,⟨0,rfl,Nat.zero_le _,fun k hk=>by simp at hk,rfl⟩,?_⟩
    rintro _ z w1 ⟨j,rfl,hj,hno,e1⟩
    refine br_intro (fun h1=>?_) fun h1=>?_
    rotate_left
    · have h1:j = l:=by have:=of_decide_eq_false h1; omega
      rw [List.take_of_length_le (by omega)] at hno
      exact ⟨_,rfl,by rw [List.any_eq_false.2 fun x hx=>by rw [hno x hx]; simp]; rfl,e1⟩
    have h1:j < l:=by have:=of_decide_eq_true h1; omega
    obtain ⟨k,hk⟩ : ∃ k,xs[j]? = some k:=⟨xs[j]'(by omega),List.getElem?_eq_getElem _⟩
    obtain ⟨ad,had,hc⟩:=hr.at hk
    refine idx_i had h1 ⟨k,hc w1 (Gr.of_eq e1),ifT_iff.2 ⟨hfl,(hP k (List.mem_of_getElem? hk) w1 e1).mono ?_⟩⟩
    rintro _ w2 ⟨rfl,e2⟩
    refine ⟨_,rfl,br_intro (fun hb=>?_) fun hb=>?_⟩
    · exact ⟨_,rfl,by rw [List.any_eq_true.2 ⟨k,List.mem_of_getElem? hk,hb⟩]; exact (decide_eq_true (Int.natCast_nonneg j)).symm,e2⟩
    · refine ⟨⟨by omega,by omega⟩,⟨j + 1,by simp,by omega,fun y hy=>?_,e2⟩,msr h1⟩
      rw [List.take_add_one,hk] at hy
      rcases List.mem_append.1 hy with hy | hy
      · exact hno y hy
      · simp at hy; subst hy; exact hb
  refine key.mono ?_
  rintro _ w' ⟨n,rfl,h1,h2⟩
  exact ⟨n,rfl,by rw [h1],h2⟩
theorem y_CtL {xs:List (List Int)} {p:List Int→Bool} (hfl:Fn d = true) (hr:rdS (hp w) xs a l) (hb:l≤4611686018427387904)
    (hP:∀ x∈xs,∀ u o l c,hp u = hp w→rdS (hp w) x o l→Run Tryz.prog d (.slice o l c :: e) u fun v u'=>v = .bool (p x)∧hp u' = hp w) :
    Run Tryz.prog n_slices_ContainsFunc_LLint_int_ [.slice a l c,.func (.func d) (Array.mk []) ⟨e⟩] w fun v w'=>v = .bool (xs.any p)∧hp w' = hp w:=by
  refine run_slices_ContainsFunc_LLint_int_ _ _ _ _ _ w _ ?_
  have key:Run Tryz.prog n_slices_IndexFunc_LLint_int_ [.slice a l c,.func (.func d) (Array.mk []) ⟨e⟩] w fun v w'=>∃ n:Int,v = .int .i64 n∧(xs.any p = decide (0≤n))∧hp w' = hp w:=by
    refine run_slices_IndexFunc_LLint_int_ _ _ _ _ _ w _ ?_
    have hxl:=hr.1
    refine ⟨fun z w'=>∃ j:Nat,z = j∧j≤l∧(∀ k∈xs.take j,p k = false)∧hp w' = hp w,fun z _=>l - z.toNat,⟨0,rfl,Nat.zero_le _,fun k hk=>by simp at hk,rfl⟩,?_⟩
    rintro _ z w1 ⟨j,rfl,hj,hno,e1⟩
    refine br_intro (fun h1=>?_) fun h1=>?_
    rotate_left
    · have h1:j = l:=by have:=of_decide_eq_false h1; omega
      rw [List.take_of_length_le (by omega)] at hno
      exact ⟨_,rfl,by rw [List.any_eq_false.2 fun x hx=>by rw [hno x hx]; simp]; rfl,e1⟩
    have h1:j < l:=by have:=of_decide_eq_true h1; omega
    obtain ⟨k,ad,vs,hk,had,hrow,o,l1,c1,rfl,hle,hrd⟩:=hr.get h1
    rw [mulS_eq,show j * Rep.n (List Int) = j from Nat.mul_one j] at hrow
    refine idx_i had h1 ⟨o,l1,c1,hrow.cell0 (Gr.of_eq e1),ifT_iff.2 ⟨hfl,(hP k (List.mem_of_getElem? hk) w1 o l1 c1 e1 hrd).mono ?_⟩⟩
    rintro _ w2 ⟨rfl,e2⟩
    refine ⟨_,rfl,br_intro (fun hb=>?_) fun hb=>?_⟩
    · exact ⟨_,rfl,by rw [List.any_eq_true.2 ⟨k,List.mem_of_getElem? hk,hb⟩]; exact (decide_eq_true (Int.natCast_nonneg j)).symm,e2⟩
    · refine ⟨⟨by omega,by omega⟩,⟨j + 1,by simp,by omega,fun y hy=>?_,e2⟩,msr h1⟩
      rw [List.take_add_one,hk] at hy
      rcases List.mem_append.1 hy with hy | hy
      · exact hno y hy
      · simp at hy; subst hy; exact hb
  refine key.mono ?_
  rintro _ w' ⟨n,rfl,h1,h2⟩
  exact ⟨n,rfl,by rw [h1],h2⟩
theorem y_right {es:List (List Int)} (hr:rdS (hp w) es a l) (hb:l≤4611686018427387904) (hB:∀ x∈es,x.length≤4611686018427387904) :
    Run Tryz.prog n_digraph_right [.slice a l c] w fun v w'=>v = .bool (rightB es)∧Gr w w':=by
  refine run_digraph_right _ _ _ w _ ?_
  have hl:=hr.1
  refine newC_i (St.all w) fun k1 w1 h1=>?_
  have g1:Gr w w1:=h1.gone1
  have hcel:=(rdCel 0 h1.l).cell0 (sub.refl _)
  refine ⟨_,_,_,hcel,(y_CtL (p:=fun l=>l.any fun x=>decide (x < 0) || decide ((es.length:Int)≤x)) (d:=n_digraph_right_S1) (e:=[vP (some (aM k1))]) rfl (hr.mono g1) hb ?_).mono ?_⟩
  · intro x hx u o l' c' hu hrx
    refine run_digraph_right_S1 _ _ _ _ u _ ((y_CtI (p:=fun x=>decide (x < 0) || decide ((es.length:Int)≤x)) (d:=n_digraph_right_S1_S1) (e:=[vP (some (aM k1))]) rfl (by rw [hu]; exact hrx) (by have:=hrx.1; have:=hB x hx; omega) ?_).mono ?_)
    · intro y hy u2 hu2
      refine run_digraph_right_S1_S1 _ _ u2 _ (br_intro (fun h=>?_) fun h=>?_)
      · exact ⟨by rw [show decide (y < 0) = true from h]; rfl,hu2⟩
      · refine ⟨_,_,_,by rw [cell_hp (hu2.trans hu)]; exact hcel,by rw [show decide (y < 0) = false from h,Bool.false_or,hl],hu2⟩
    · rintro _ w2 ⟨rfl,h2⟩
      exact ⟨_,rfl,rfl,h2.trans hu⟩
  · rintro _ w2 ⟨rfl,h2⟩
    exact ⟨_,rfl,rfl,g1.trans (Gr.of_eq h2)⟩
end Go.Proofs.YtndaepmjkbmjmaaGreatDoor
set_option linter.unusedVariables false
set_option maxRecDepth 4000
namespace Go.V
theorem eqIn_ptr2 {P:Program} {w:World} (d:Nat) {t e:TypeId} {a b:Addr} {q:Bool} {i:TypeInfo} (h:P.underlying t = some (.pointer e)) (hi:P.info? e = some i) (hz:i.size≠0) (hs:(sameAddr a b).run P w = .ok q w) :
    (Op.equalIn (d + 1) t (.pointer (some a)) (.pointer (some b))).run P w = .ok q w:=by
  simp [Op.equalIn,run_und h,sizeOf,typeInfo,hi,hz,hs]
theorem equal_ptr2 {P:Program} {w:World} {t e:TypeId} {a b:Addr} {q:Bool} {i:TypeInfo} (h:P.underlying t = some (.pointer e)) (hi:P.info? e = some i) (hz:i.size≠0) (hs:(sameAddr a b).run P w = .ok q w) :
    (Op.equal t (.pointer (some a)) (.pointer (some b))).run P w = .ok q w:=eqIn_ptr2 9999 h hi hz hs
theorem run_cmp_ptr {P:Program} {w:World} {t e:TypeId} {xo yo:Operand} {a b:Addr} {q:Bool} {i:TypeInfo} (h:P.underlying t = some (.pointer e)) (hi:P.info? e = some i) (hz:i.size≠0) (hs:(sameAddr a b).run P w = .ok q w) :
    (cmpS .neq t xo yo (.pointer (some a)) (.pointer (some b))).run P w = .ok (.bool (!q)) w:=by
  unfold cmpS
  have hg:(eqGuard .neq t xo yo (.pointer (some a)) (.pointer (some b))).run P w = .ok () w:=eqGuard_ok (by simp) (by simp)
  simp [hg,Go.binOp,equal_ptr2 h hi hz hs]
theorem cmp_ptr_n {P:Program} {w:World} {L:List Asn} {Ty:TypeId→Option TyI} (hT:TyOk P Ty) {t e:TypeId} {i:TyI} {xo yo:Operand} {k1 k2:Nat} {v1 v2:List Value} (hk:kdOfT Ty t = .ptr e) (hi:Ty e = some i) (hz:i.size≠0) (h:St w (cel k1 v1 :: cel k2 v2 :: L)) :
    (cmpS .neq t xo yo (.pointer (some ⟨k1,0,none⟩)) (.pointer (some ⟨k2,0,none⟩))).run P w = .ok (.bool true) w:=by
  obtain ⟨d,hd,hd'⟩:=undOf hT hk (by simp)
  rw [kd_ptr hd'] at hd
  obtain ⟨info,d2,ha⟩:=tyAt hT hi
  obtain ⟨e1,h1⟩:=cel_ex.1 h
  obtain ⟨e2,h2⟩:=cel_ex.1 h.swap
  have hne:(⟨k1,0,none⟩ : Addr)≠⟨k2,0,none⟩:=by
    intro e
    cases e
    obtain ⟨g1,g2,dd,s1,s2,⟨_,x1⟩,g3,g4,dd',s3,s4,⟨_,x2⟩,_⟩:=h
    rcases dd k1 with h | h
    · rw [h] at x1; cases x1
    · rw [s3 k1 _ x2] at h; cases h
  exact run_cmp_ptr hd ha.inf (by rw [← ha.size]; exact hz) (run_sameAddr_other w hne h1.get h2.get)
theorem cmp_ptr_s {P:Program} {w:World} {Ty:TypeId→Option TyI} (hT:TyOk P Ty) {t e:TypeId} {i:TyI} {xo yo:Operand} {a:Addr} (hk:kdOfT Ty t = .ptr e) (hi:Ty e = some i) (hz:i.size≠0) :
    (cmpS .neq t xo yo (.pointer (some a)) (.pointer (some a))).run P w = .ok (.bool false) w:=by
  obtain ⟨d,hd,hd'⟩:=undOf hT hk (by simp)
  rw [kd_ptr hd'] at hd
  obtain ⟨info,d2,ha⟩:=tyAt hT hi
  exact run_cmp_ptr hd ha.inf (by rw [← ha.size]; exact hz) (run_sameAddr_same w a)
def HasP (es ow:List (List Int)) (v:Nat) (x:Nat):Prop:=∃ u,Dig.Rc (En es) v u∧(x:Int)∈ow.getD u []
structure SolB (es ow:List (List Int)) (v:Nat) (bs:List Bool):Prop where
  ln:bs.length = 1024
  fn:∀ x,fnB bs x = true↔x < 1024∧HasP es ow v x
theorem HasP.mutual {es ow:List (List Int)} {v u x:Nat} (h:Dig.Rc (En es) v u) (hx:HasP es ow u x):HasP es ow v x:=by
  obtain ⟨y,h1,h2⟩:=hx
  exact ⟨y,h.trans h1,h2⟩
theorem SolB.same {es ow:List (List Int)} {v u:Nat} {bs:List Bool} (h:SolB es ow v bs) (h1:Dig.Rc (En es) v u) (h2:Dig.Rc (En es) u v):SolB es ow u bs :=
  ⟨h.ln,fun x=>by rw [h.fn]; exact and_congr_right fun _=>⟨fun hx=>hx.mutual h2,fun hx=>hx.mutual h1⟩⟩
theorem HasP.step {es ow:List (List Int)} {g:List Nat} {v:Nat} (hv:v∈g) (hg:∀ a∈g,∀ b∈g,Dig.Rc (En es) a b) {x:Nat} :
    HasP es ow v x↔(∃ n∈g,(x:Int)∈ow.getD n [])∨∃ n∈g,∃ m∈En es n,m∉g∧HasP es ow m x:=by
  constructor
  · rintro ⟨u,h1,h2⟩
    have key:∀ a b,Dig.Rc (En es) a b→a∈g→(x:Int)∈ow.getD b []→(∃ n∈g,(x:Int)∈ow.getD n [])∨∃ n∈g,∃ m∈En es n,m∉g∧HasP es ow m x:=by
      intro a b h
      induction h with
      | refl a=>intro ha hx; exact .inl ⟨a,ha,hx⟩
      | @step a m b hm hr ih =>
        intro ha hx
        by_cases hmg:m∈g
        · exact ih hmg hx
        · exact .inr ⟨a,ha,m,hm,hmg,b,hr,hx⟩
    exact key v u h1 hv h2
  · rintro (⟨n,hn,hx⟩ | ⟨n,hn,m,hm,_,hx⟩)
    · exact ⟨n,hg v hv n hn,hx⟩
    · exact ((hg v hv n hn).trans (Dig.Rc.one hm)) |> fun h=>hx.mutual h
end Go.V
set_option linter.unusedVariables false
set_option maxRecDepth 4000
namespace Go.V
def pvl (l:List (Option Addr)):List Value:=l.map fun p=>Value.pointer p
theorem pvl_set (l:List (Option Addr)) (i:Nat) (p:Option Addr):(pvl l).set i (.pointer p) = pvl (l.set i p):=by simp [pvl,List.map_set]
theorem pvl_get {l:List (Option Addr)} {i:Nat} {p:Option Addr} (h:l[i]? = some p):(pvl l)[i]? = some (.pointer p):=by simp [pvl,h]
def setP (p:Option Addr) (l:List (Option Addr)) (g:List Nat):List (Option Addr):=g.foldl (fun l m=>l.set m p) l
theorem setP_len (p:Option Addr):∀ (g:List Nat) (l:List (Option Addr)),(setP p l g).length = l.length
  | [],_=>rfl
  | m :: g,l=>by show (setP p (l.set m p) g).length = _; rw [setP_len p g]; simp
theorem setP_snoc (p:Option Addr) (l:List (Option Addr)) (g:List Nat) (m:Nat):setP p l (g ++ [m]) = (setP p l g).set m p:=by simp [setP]
theorem setP_get (p:Option Addr):∀ (g:List Nat) (l:List (Option Addr)),(∀ m∈g,m < l.length)→∀ v,(setP p l g)[v]? = if v∈g then some p else l[v]?
  | [],l,_,v=>by simp [setP]
  | m :: g,l,h,v=>by
    have:=setP_get p g (l.set m p) (fun y hy=>by rw [List.length_set]; exact h y (by simp [hy])) v
    show (setP p (l.set m p) g)[v]? = _
    rw [this]
    by_cases e:v∈g
    · simp [e]
    · have hm:=h m (by simp)
      by_cases e2:v = m
      · subst e2; simp [e,hm]
      · rw [if_neg e,List.getElem?_set_ne (Ne.symm e2),if_neg (by simp [e,e2])]
section
variable {w:World} {L:List Asn}
end
end Go.V
set_option linter.unusedVariables false
set_option maxRecDepth 4000
namespace Go.V
theorem starL_at {L:List Asn} {h:Hp} {A:Asn} (i:Nat) (hl:starL L h) (e:nthA L i = A:=by rfl) (hi:Nat.blt i (lenA L) = true:=by rfl):∃ h1,sub h1 h∧A h1:=by
  have:=starL_nth i (by simpa [lenA_eq] using hi) hl
  rwa [e] at this
structure SolF (es ow:List (List Int)) (N:Nat) (gs:List (List Nat)) (sets:List (Option Addr)) (ps:List Go.Proofs.YtndaepmjkbmjmaaGreatDoor.Ls) (gr:List (Nat × List Bool)):Prop where
  ls:sets.length = N
  lp:ps.length = N
  lg:gr.length = gs.length
  st:∀ (i:Nat) g b B,gs[i]? = some g→gr[i]? = some (b,B)→∀ v∈g,sets[v]? = some (some ⟨b,0,none⟩)∧SolB es ow v B∧∃ p,ps[v]? = some p∧p.2 = mbI B
end Go.V
namespace Go.Proofs.YtndaepmjkbmjmaaGreatDoor
open Go.V
variable {w:World} {L:List Asn} {a oa:Option Addr} {N c oc l ks bs ko bo ke kn:Nat} {es ow:List (List Int)} {h0:Hp}
def setG (gr:List (Nat × List Bool)):List Asn:=gr.map fun p=>setO (some ⟨p.1,0,none⟩) p.2
def solA (es ow:List (List Int)) (ks bs ko bo N:Nat) (gs:List (List Nat)):Asn:=V.ex fun y:List (Option Addr) × List Ls × List (Nat × List Bool) =>
  sta [V.pu (SolF es ow N gs y.1 y.2.1 y.2.2),cel ks [.slice (some ⟨bs,0,none⟩) N N],cel bs (pvl y.1),cel ko [.slice (some ⟨bo,0,none⟩) N N],cel bo (y.2.1.map slP'),sta (y.2.1.map owP'),sta (setG y.2.2)]
theorem solA_iff {gs:List (List Nat)}:St w (solA es ow ks bs ko bo N gs :: L)↔∃ (sets:List (Option Addr)) (ps:List Ls) (gr:List (Nat × List Bool)),SolF es ow N gs sets ps gr ∧
    St w (cel ks [.slice (some ⟨bs,0,none⟩) N N] :: cel bs (pvl sets) :: cel ko [.slice (some ⟨bo,0,none⟩) N N] :: cel bo (ps.map slP') :: sta (ps.map owP') :: sta (setG gr) :: L):=by
  unfold solA
  rw [St.ex]
  constructor
  · rintro ⟨⟨sets,ps,gr⟩,h⟩
    have h:=St.pu.1 (St.flat.1 h)
    exact ⟨sets,ps,gr,h.1,h.2⟩
  · rintro ⟨sets,ps,gr,h1,h2⟩
    exact ⟨⟨sets,ps,gr⟩,St.flat.2 (St.pu.2 ⟨h1,h2⟩)⟩
theorem cmp_sets {k1 k2:Nat} {B1 B2:List Bool} {xo yo:Operand} (h:St w (setO (some ⟨k1,0,none⟩) B1 :: setO (some ⟨k2,0,none⟩) B2 :: L)) :
    (cmpS .neq ty_p_bits_Set xo yo (.pointer (some ⟨k1,0,none⟩)) (.pointer (some ⟨k2,0,none⟩))).run Tryz.prog w = .ok (.bool true) w:=by
  rcases setM_cases h with ⟨e,_⟩ | ⟨b,a,c,ws,e,_,h⟩
  · cases e
  · cases e
    rcases setM_cases (h.pick 3 [2,0,1]) with ⟨e,_⟩ | ⟨b',a',c',ws',e,_,h⟩
    · cases e
    · cases e
      exact cmp_ptr_n tyOk (rfl:kdOfT Ty ty_p_bits_Set = .ptr _) rfl (by decide) (h.pick 4 [2,0,1,3])
structure SolC (es ow:List (List Int)) (h0:Hp) (ke kn N:Nat) (a oa:Option Addr) (c oc:Nat):Prop where
  ce:rowH h0 ⟨ke,0,none⟩ [.slice a N c]
  cn:rowH h0 ⟨kn,0,none⟩ [.slice oa N oc]
  re:rdS h0 es a N
  rn:rdS h0 ow oa N
  tab:tabA h0
  bE:∀ x∈es,x.length * 8≤140737488355328
  bO:∀ x∈ow,x.length * 8≤140737488355328
  bN:N * 24≤140737488355328
  rO:∀ x∈ow,∀ y∈x,0≤y∧y < 1024
theorem done_S (hR:RightP es) (C:SolC es ow h0 ke kn N a oa c oc):DoneC n_digraph_Solve_S2 [.pointer (some (aM ks)),.pointer (some (aM kn)),.pointer (some (aM ke)),.pointer (some (aM ko))] es fun gs=>[solA es ow ks bs ko bo N gs,has h0]:=by
  intro gs g F w o gc hG hlt h
  have hN:es.length = N:=C.re.1
  have hgN:∀ v∈g,v < N:=fun v hv=>by have:=hlt v (by simp [hv]); omega
  have hgl:g.length≤N:=(hG.len hlt).2 g (by simp) |> fun h=>by omega
  have hgm:∀ x∈g,∀ y∈g,Dig.Rc (En es) x y:=(hG.2 gs g [] rfl).2.1
  have hge:∀ x∈g,∀ y∈En es x,y∈g∨y∈gs.flatten:=(hG.2 gs g [] rfl).2.2
  have hgd:∀ x∈g,x∉gs.flatten:=fun x hx=>(Dig.nodup_split hG.1 rfl hx).1
  have bN:=C.bN
  obtain ⟨sets,ps,gr,hF,h⟩:=solA_iff.1 (h.pick 3 [1,0,2])
  refine run_digraph_Solve_S2 _ _ _ _ _ _ _ w _ ((s_Of 1024 (xs:=[]) rdS.nil (by decide)).mono ?_)
  rintro _ w1 ⟨b,rfl,h1⟩
  have h:=h1.on1 h
  -- [0 set,1 ks,2 bs,3 ko,4 bo,5 lists,6 sets,7 group,8 has]
  refine ⟨_,rfl,fun z w'=>∃ i:Nat,z = i∧i≤g.length∧St w' (setO (some ⟨b,0,none⟩) (ofB 1024 []) :: cel ks [.slice (some ⟨bs,0,none⟩) N N] :: cel bs (pvl (setP (some ⟨b,0,none⟩) sets (g.take i))) :: cel ko [.slice (some ⟨bo,0,none⟩) N N] :: cel bo (ps.map slP') :: sta (ps.map owP') :: sta (setG gr) :: own 1 o g.length gc (ivn g) :: has h0 :: F),
    fun z _=>g.length - z.toNat,⟨0,rfl,Nat.zero_le _,h⟩,?_⟩
  rintro _ z w2 ⟨i,rfl,hi,h⟩
  refine br_intro (fun h1=>?_) fun h1=>?_
  · have h1:i < g.length:=by have:=of_decide_eq_true h1; omega
    obtain ⟨v,hv⟩ : ∃ v,g[i]? = some v:=⟨g[i],List.getElem?_eq_getElem _⟩
    have hvN:=hgN v (List.mem_of_getElem? hv)
    obtain ⟨gad,hga,hgc⟩:=own_cell (h.pick 9 [7,0,1,2,3,4,5,6,8]) (ivn_get' hv)
    refine idx_i hga h1 ⟨_,hgc,_,_,_,(rdCel 1 h.l).cell0 (sub.refl _),idx_i rfl hvN ?_⟩
    rw [add_lit0]
    refine st1_i (h.pick 9 [2,0,1,3,4,5,6,7,8]) (by simp [pvl,setP_len,hF.ls]; omega) fun w3 h=>⟨⟨by omega,by omega⟩,⟨i + 1,rfl,h1,?_⟩,msr h1⟩
    rw [pvl_set] at h
    rw [List.take_add_one,hv,Option.toList_some,setP_snoc]
    exact h.pick 9 [1,2,0,3,4,5,6,7,8]
  have h1:i = g.length:=by have:=of_decide_eq_false h1; omega
  subst h1
  rw [List.take_length] at h
  have hmax:∀ x:Nat,(ofB 1024 []).length = 1024∧fnB (ofB 1024 []) x = false:=fun x=>⟨by unfold ofB; rw [addB_len,List.length_replicate]; decide,by unfold ofB; rw [fnB_add]; simp [addS,fnB_rep]⟩
  have hsets:∀ v,(setP (some ⟨b,0,none⟩) sets g)[v]? = if v∈g then some (some (⟨b,0,none⟩ : Addr)) else sets[v]?:=setP_get _ g sets fun m hm=>by rw [hF.ls]; exact hgN m hm
  -- the numbers come together
  let Part:Nat→Nat→Prop:=fun i x=>(∃ n∈g.take i,(x:Int)∈ow.getD n [])∨∃ n∈g.take i,∃ m∈En es n,m∉g∧HasP es ow m x
  refine ⟨fun z w'=>∃ (i:Nat) (B:List Bool),z = i∧i≤g.length∧B.length = 1024∧(∀ x,fnB B x = true↔x < 1024∧Part i x)∧St w' (setO (some ⟨b,0,none⟩) B :: cel ks [.slice (some ⟨bs,0,none⟩) N N] :: cel bs (pvl (setP (some ⟨b,0,none⟩) sets g)) :: cel ko [.slice (some ⟨bo,0,none⟩) N N] :: cel bo (ps.map slP') :: sta (ps.map owP') :: sta (setG gr) :: own 1 o g.length gc (ivn g) :: has h0 :: F),
    fun z _=>g.length - z.toNat,⟨0,_,rfl,Nat.zero_le _,(hmax 0).1,fun x=>?_,h⟩,?_⟩
  · rw [(hmax x).2]
    constructor
    · intro h; cases h
    · rintro ⟨_,⟨n,hn,_⟩ | ⟨n,hn,_⟩⟩ <;> simp at hn
  rintro _ z w4 ⟨i,B,rfl,hi,hBl,hBf,h⟩
  refine br_intro (fun h1=>?_) fun h1=>?_
  · have h1:i < g.length:=by have:=of_decide_eq_true h1; omega
    obtain ⟨n,hn⟩ : ∃ n,g[i]? = some n:=⟨g[i],List.getElem?_eq_getElem _⟩
    have hng:=List.mem_of_getElem? hn
    have hnN:=hgN n hng
    have s0:=rdH 8 h.l
    obtain ⟨gad,hga,hgc⟩:=own_cell (h.pick 9 [7,0,1,2,3,4,5,6,8]) (ivn_get' hn)
    obtain ⟨xo,oad,ov,hxo,hoa,horow,o4,l4,c4,rfl,hle4,hrd4⟩:=C.rn.get (i:=n) hnN
    rw [mulS_eq,show n * Rep.n (List Int) = n from Nat.mul_one n] at horow
    obtain ⟨xe,ead,ev,hxe,hea,herow,o6,l6,c6,rfl,hle6,hrd6⟩:=C.re.get (i:=n) hnN
    rw [mulS_eq,show n * Rep.n (List Int) = n from Nat.mul_one n] at herow
    have hlo:=hrd4.1
    have hle:=hrd6.1
    have hxoB:=C.bO xo (List.mem_of_getElem? hxo)
    have hxeB:=C.bE xe (List.mem_of_getElem? hxe)
    refine idx_i hga h1 ⟨_,hgc,_,_,_,C.cn.cell0 s0,idx_i hoa hnN ⟨o4,l4,c4,horow.cell0 s0,(s_Add (xs:=xo) h (fun hh hl=>hrd4.mono (rdH 7 hl)) (by omega)).mono ?_⟩⟩
    rintro _ w5 ⟨rfl,h⟩
    have s0:=rdH 8 h.l
    refine ⟨_,rfl,_,_,_,C.ce.cell0 s0,idx_i hea hnN ⟨o6,l6,c6,herow.cell0 s0,?_⟩⟩
    have hen:=en_get hxe
    have how:ow.getD n [] = xo:=by rw [List.getD_eq_getElem?_getD,hxo]; rfl
    refine ⟨fun z w'=>∃ (j:Nat) (B' : List Bool),z = j∧j≤l6∧B'.length = 1024∧(∀ x,fnB B' x = true↔x < 1024∧(Part i x∨(x:Int)∈xo∨∃ m∈(En es n).take j,m∉g∧HasP es ow m x))∧St w' (setO (some ⟨b,0,none⟩) B' :: cel ks [.slice (some ⟨bs,0,none⟩) N N] :: cel bs (pvl (setP (some ⟨b,0,none⟩) sets g)) :: cel ko [.slice (some ⟨bo,0,none⟩) N N] :: cel bo (ps.map slP') :: sta (ps.map owP') :: sta (setG gr) :: own 1 o g.length gc (ivn g) :: has h0 :: F),
      fun z _=>l6 - z.toNat,⟨0,_,rfl,Nat.zero_le _,by rw [addB_len]; exact hBl,fun x=>?_,h⟩,?_⟩
    · rw [fnB_add,addS,hBl,Bool.or_eq_true,hBf,Bool.and_eq_true,decide_eq_true_eq,List.contains_iff_mem]
      constructor
      · rintro (⟨p1,p2⟩ | ⟨p1,p2⟩)
        · exact ⟨p1,.inl p2⟩
        · exact ⟨p1,.inr (.inl p2)⟩
      · rintro ⟨p1,p2 | p2 | ⟨m,hm,_⟩⟩
        · exact .inl ⟨p1,p2⟩
        · exact .inr ⟨p1,p2⟩
        · simp at hm
    rintro _ z w6 ⟨j,B',rfl,hj,hBl',hBf',h⟩
    have s0:=rdH 8 h.l
    refine br_intro (fun h2=>?_) fun h2=>?_
    · have h2:j < l6:=by have:=of_decide_eq_true h2; omega
      obtain ⟨mI,hmI⟩ : ∃ mI,xe[j]? = some mI:=⟨xe[j]'(by omega),List.getElem?_eq_getElem _⟩
      obtain ⟨m,hmE,rfl⟩ : ∃ m:Nat,(En es n)[j]? = some m∧mI = (m:Int):=by
        refine ⟨mI.toNat,by rw [hen,List.getElem?_map,hmI]; rfl,?_⟩
        have:=hR xe (List.mem_of_getElem? hxe) mI (List.mem_of_getElem? hmI)
        omega
      have hmN:m < N:=by have:=en_lt hR (List.mem_of_getElem? hmE); omega
      have htk:∀ {B'' : List Bool},(∀ x,fnB B'' x = true↔fnB B' x = true∨(x < 1024∧m∉g∧HasP es ow m x))→∀ x,fnB B'' x = true↔x < 1024∧(Part i x∨(x:Int)∈xo∨∃ m∈(En es n).take (j + 1),m∉g∧HasP es ow m x):=by
        intro B'' hB x
        rw [hB,hBf',List.take_add_one,hmE,Option.toList_some]
        constructor
        · rintro (⟨p1,p2 | p2 | ⟨y,q1,q2⟩⟩ | ⟨p1,p2⟩)
          · exact ⟨p1,.inl p2⟩
          · exact ⟨p1,.inr (.inl p2)⟩
          · exact ⟨p1,.inr (.inr ⟨y,List.mem_append_left _ q1,q2⟩)⟩
          · exact ⟨p1,.inr (.inr ⟨m,by simp,p2⟩)⟩
        · rintro ⟨p1,p2 | p2 | ⟨y,q1,q2⟩⟩
          · exact .inl ⟨p1,.inl p2⟩
          · exact .inl ⟨p1,.inr (.inl p2)⟩
          · rcases List.mem_append.1 q1 with q1 | q1
            · exact .inl ⟨p1,.inr (.inr ⟨y,q1,q2⟩)⟩
            · simp at q1; subst q1; exact .inr ⟨p1,q2⟩
      obtain ⟨ead2,hea2,hc2⟩:=hrd6.at hmI
      have rowS:=(rdCel 2 h.l)
      refine idx_i hea2 h2 ⟨(m:Int),hc2 w6 s0,_,_,_,(rdCel 1 h.l).cell0 (sub.refl _),idx_i rfl hmN ?_⟩
      by_cases hmg:m∈g
      · have hsm:(setP (some ⟨b,0,none⟩) sets g)[m]? = some (some (⟨b,0,none⟩ : Addr)):=by rw [hsets,if_pos hmg]
        refine ⟨some ⟨b,0,none⟩,rowS.cell (sub.refl _) (pvl_get hsm),⟨_,cmp_ptr_s tyOk (rfl:kdOfT Ty ty_p_bits_Set = .ptr _) rfl (by decide),false,rfl,?_⟩⟩
        refine ⟨⟨by omega,by omega⟩,⟨j + 1,B',rfl,h2,hBl',htk fun x=>⟨.inl,fun h=>h.resolve_right fun h=>h.2.1 hmg⟩,h⟩,msr h2⟩
      · have hmf:m∈gs.flatten:=(hge n hng m (List.mem_of_getElem? hmE)).resolve_left hmg
        obtain ⟨g2,hg2,hmg2⟩:=List.mem_flatten.1 hmf
        obtain ⟨k2,hk2⟩:=List.getElem?_of_mem hg2
        obtain ⟨⟨b2,B2⟩,hb2⟩ : ∃ y,gr[k2]? = some y:=⟨gr[k2]'(by rw [hF.lg]; exact (List.getElem?_eq_some_iff.1 hk2).1),List.getElem?_eq_getElem _⟩
        obtain ⟨f1,f2,_⟩:=hF.st k2 g2 b2 B2 hk2 hb2 m hmg2
        have hsm:(setP (some ⟨b,0,none⟩) sets g)[m]? = some (some (⟨b2,0,none⟩ : Addr)):=by rw [hsets,if_neg hmg,f1]
        have hgr:(setG gr)[k2]? = some (setO (some ⟨b2,0,none⟩) B2):=by unfold setG; rw [List.getElem?_map,hb2]; rfl
        have hcmp:=cmp_sets (xo:=Operand.tmp 52) (yo:=Operand.tmp 53) ((St.staGet (h.pick 9 [6,0,1,2,3,4,5,7,8]) hgr).pick 3 [0,2])
        refine ⟨some ⟨b2,0,none⟩,rowS.cell (sub.refl _) (pvl_get hsm),⟨_,hcmp,true,rfl,?_⟩⟩
        refine ⟨_,_,_,(rdCel 1 h.l).cell0 (sub.refl _),idx_i rfl hmN ⟨some ⟨b2,0,none⟩,rowS.cell (sub.refl _) (pvl_get hsm),newC_i h fun k15 w7 h=>?_⟩⟩
        have h:=h.pick 10 [1,0,2,3,4,5,6,7,8,9]
        refine (s_Union (os:=[some ⟨b2,0,none⟩]) (vss:=[B2]) h (fun hh hl=>rdS_of_row rfl (.inr ⟨_,rfl,(show rowH hh ⟨k15,0,none⟩ [.pointer (some ⟨b2,0,none⟩)] from rdCel 0 hl)⟩)) rfl (fun hh hl y q v hq hv=>?_) (fun hh hl=>rdV.mono (rdH 8 hl) C.tab) (by simp)).mono ?_
        · obtain ⟨h1,s1,ha⟩:=starL_at 6 hl (A:=sta (setG gr))
          obtain ⟨h3,s3,h4⟩:=starL_in (List.mem_of_getElem? hgr) ha
          cases y with
          | zero=>cases hq; cases hv; exact .inl ((setO_R h4).mono (s3.trans s1))
          | succ y=>simp at hq
        rintro _ w8 ⟨rfl,h⟩
        refine ⟨_,rfl,⟨by omega,by omega⟩,⟨j + 1,unionB B' [B2],rfl,h2,by rw [unionB_len]; exact hBl',htk fun x=>?_,h.pick 10 [0,2,3,4,5,6,7,8,9]⟩,msr h2⟩
        show fnB (addB B' (mbI B2)) x = true↔_
        rw [fnB_add_mb,hBl',Bool.or_eq_true,Bool.and_eq_true,decide_eq_true_eq,f2.fn]
        constructor
        · rintro (p | ⟨p1,_,p2⟩)
          · exact .inl p
          · exact .inr ⟨p1,hmg,p2⟩
        · rintro (p | ⟨p1,_,p2⟩)
          · exact .inl p
          · exact .inr ⟨p1,p1,p2⟩
    · have h2:j = l6:=by have:=of_decide_eq_false h2; omega
      subst h2
      refine ⟨⟨by omega,by omega⟩,⟨i + 1,B',rfl,h1,hBl',fun x=>?_,h⟩,msr h1⟩
      have hjl:(En es n).take j = En es n:=List.take_of_length_le (by rw [hen,List.length_map]; omega)
      rw [hBf',hjl]
      refine and_congr_right fun _=>?_
      show _↔(∃ n∈g.take (i + 1),_)∨∃ n∈g.take (i + 1),_
      rw [List.take_add_one,hn,Option.toList_some]
      constructor
      · rintro ((⟨y,q1,q2⟩ | ⟨y,q1,q2⟩) | q | q)
        · exact .inl ⟨y,List.mem_append_left _ q1,q2⟩
        · exact .inr ⟨y,List.mem_append_left _ q1,q2⟩
        · exact .inl ⟨n,by simp,by rw [how]; exact q⟩
        · exact .inr ⟨n,by simp,q⟩
      · rintro (⟨y,q1,q2⟩ | ⟨y,q1,q2⟩)
        · rcases List.mem_append.1 q1 with q1 | q1
          · exact .inl (.inl ⟨y,q1,q2⟩)
          · simp at q1; subst q1; exact .inr (.inl (by rw [how] at q2; exact q2))
        · rcases List.mem_append.1 q1 with q1 | q1
          · exact .inl (.inr ⟨y,q1,q2⟩)
          · simp at q1; subst q1; exact .inr (.inr q2)
  have h1:i = g.length:=by have:=of_decide_eq_false h1; omega
  subst h1
  have hSol:∀ v∈g,SolB es ow v B:=fun v hv=>⟨hBl,fun x=>by
    rw [hBf]
    refine and_congr_right fun _=>?_
    show (∃ n∈g.take g.length,_)∨(∃ n∈g.take g.length,_)↔_
    rw [List.take_length,HasP.step hv hgm]⟩
  refine (s_Members (h.setR) (rdV.mono (rdH 8 h.l) C.tab)).mono ?_
  rintro _ w9 ⟨a5,c5,rfl,h5⟩
  have h:=h5.on1 h
  have hml:(mbI B).length = cntB B:=mbI_len B
  have hmb:cntB B≤1024:=by have:=cntB_le B; omega
  refine ⟨_,_,_,rfl,fun z w'=>∃ (i:Nat) (ps' : List Ls),z = i∧i≤g.length∧ps'.length = N∧(∀ v∈g.take i,∃ p,ps'[v]? = some p∧p.2 = mbI B)∧(∀ v,v∉g→ps'[v]? = ps[v]?) ∧
      St w' (own 1 a5 (cntB B) c5 (iv (mbI B)) :: setO (some ⟨b,0,none⟩) B :: cel ks [.slice (some ⟨bs,0,none⟩) N N] :: cel bs (pvl (setP (some ⟨b,0,none⟩) sets g)) :: cel ko [.slice (some ⟨bo,0,none⟩) N N] :: cel bo (ps'.map slP') :: sta (ps'.map owP') :: sta (setG gr) :: own 1 o g.length gc (ivn g) :: has h0 :: F),
    fun z _=>g.length - z.toNat,⟨0,ps,rfl,Nat.zero_le _,hF.lp,fun v hv=>by simp at hv,fun _ _=>rfl,h⟩,?_⟩
  rintro _ z w10 ⟨i,ps',rfl,hi,hpl,hp1,hp2,h⟩
  refine br_intro (fun h1=>?_) fun h1=>?_
  · have h1:i < g.length:=by have:=of_decide_eq_true h1; omega
    obtain ⟨v,hv⟩ : ∃ v,g[i]? = some v:=⟨g[i],List.getElem?_eq_getElem _⟩
    have hvN:=hgN v (List.mem_of_getElem? hv)
    obtain ⟨gad,hga,hgc⟩:=own_cell (h.pick 10 [8,0,1,2,3,4,5,6,7,9]) (ivn_get' hv)
    refine idx_i hga h1 ⟨_,hgc,fun w11 hd=>?_⟩
    have h:=h.eq (drawn_hp hd)
    have rko:=rdCel 4 h.l
    refine ⟨fun u=>Gr w11 u,Gr.refl _,_,_,_,fun u hu=>rko.cell0 hu,(y_CloneI (xs:=mbI B) (rdI_of hml (rdOv 0 h.l)) (by omega) (by omega)).mono ?_⟩
    rintro _ w13 ⟨o13,c13,rfl,h13⟩
    have g13:Gr w11 w13:=h13.gone1
    have h:=h13.on1 h
    refine ⟨_,_,_,rfl,g13,idx_i rfl hvN ?_⟩
    rw [add_lit0]
    refine st1_i (h.pick 11 [6,0,1,2,3,4,5,7,8,9,10]) (by simp; omega) fun w14 h=>⟨⟨by omega,by omega⟩,⟨i + 1,ps'.set v ((o13,c13),mbI B),rfl,h1,by rw [List.length_set]; exact hpl,fun u hu=>?_,fun u hu=>?_,?_⟩,msr h1⟩
    · by_cases e:u = v
      · subst e; exact ⟨_,by rw [List.getElem?_set_self (by omega)],rfl⟩
      · rw [List.take_add_one,hv,Option.toList_some] at hu
        rcases List.mem_append.1 hu with hu | hu
        · obtain ⟨p,q1,q2⟩:=hp1 u hu
          exact ⟨p,by rw [List.getElem?_set_ne (Ne.symm e)]; exact q1,q2⟩
        · simp at hu; exact absurd hu e
    · have e:u≠v:=fun e=>hu (e ▸ List.mem_of_getElem? hv)
      rw [List.getElem?_set_ne (Ne.symm e)]; exact hp2 u hu
    · have h:=St.staSet (A:=own 1 o13 (mbI B).length c13 (iv (mbI B))) (M:=ps'.map owP') (h.pick 11 [1,7,0,2,3,4,5,6,8,9,10]) (n:=v) (by simp; omega)
      have e1:(ps'.map slP').set v (.slice o13 (mbI B).length c13) = (ps'.set v ((o13,c13),mbI B)).map slP':=by rw [List.map_set]; rfl
      have e2:(ps'.map owP').set v (own 1 o13 (mbI B).length c13 (iv (mbI B))) = (ps'.set v ((o13,c13),mbI B)).map owP':=by rw [List.map_set]; rfl
      rw [e1,e2] at h
      exact h.pick 10 [2,3,4,5,6,1,0,7,8,9]
  have h1:i = g.length:=by have:=of_decide_eq_false h1; omega
  subst h1
  rw [List.take_length] at hp1
  refine ⟨rfl,?_⟩
  show St w10 (solA es ow ks bs ko bo N (gs ++ [g]) :: has h0 :: F)
  refine solA_iff.2 ⟨setP (some ⟨b,0,none⟩) sets g,ps',gr ++ [(b,B)],⟨by rw [setP_len]; exact hF.ls,hpl,by simp [hF.lg],fun i g' b' B' hi1 hi2 v hv=>?_⟩,?_⟩
  · by_cases e:i < gs.length
    · rw [List.getElem?_append_left e] at hi1
      rw [List.getElem?_append_left (by rw [hF.lg]; exact e)] at hi2
      have hvf:v∈gs.flatten:=List.mem_flatten.2 ⟨g',List.mem_of_getElem? hi1,hv⟩
      have hvg:v∉g:=fun h=>hgd v h hvf
      obtain ⟨q1,q2,q3⟩:=hF.st i g' b' B' hi1 hi2 v hv
      exact ⟨by rw [hsets,if_neg hvg]; exact q1,q2,by rw [hp2 v hvg]; exact q3⟩
    · have hil:=(List.getElem?_eq_some_iff.1 hi1).1
      simp at hil
      have e:i = gs.length:=by omega
      subst e
      rw [List.getElem?_append_right (Nat.le_refl _),Nat.sub_self] at hi1
      rw [List.getElem?_append_right (by rw [hF.lg]; exact Nat.le_refl _),hF.lg,Nat.sub_self] at hi2
      cases hi1; cases hi2
      exact ⟨by rw [hsets,if_pos hv],hSol v hv,hp1 v hv⟩
  · have e1:setG (gr ++ [(b,B)]) = setG gr ++ [setO (some ⟨b,0,none⟩) B]:=by simp [setG]
    rw [e1]
    exact (St.snoc (h.pick 10 [1,7,2,3,4,5,6,9])).pick 7 [1,2,3,4,5,0,6]
end Go.Proofs.YtndaepmjkbmjmaaGreatDoor
set_option linter.unusedVariables false
set_option maxRecDepth 4000
namespace Go.V
def memB (l:List Int):Bool:=!l.any fun x=>decide (x < 0) || decide (1024≤x)
theorem memB_iff {l:List Int}:memB l = true↔∀ x∈l,0≤x∧x < 1024:=by
  unfold memB
  rw [Bool.not_eq_true',List.any_eq_false]
  refine forall_congr' fun x=>forall_congr' fun hx=>?_
  simp
def solOk (es ow:List (List Int)):Bool:=rightB es && ow.length == es.length && ow.all memB
end Go.V
namespace Go.Proofs.YtndaepmjkbmjmaaGreatDoor
open Go.V
variable {w:World} {L:List Asn} {a oa:Option Addr} {N M c oc l:Nat} {es ow:List (List Int)}
def SolsP (es ow:List (List Int)) (ps:List Ls):Prop:=ps.length = es.length∧∀ v,v < es.length→∃ B p,SolB es ow v B∧ps[v]? = some p∧p.2 = mbI B
theorem d_Solve (hr:rdS (hp w) es a N) (ho:rdS (hp w) ow oa M) (ht:tabA (hp w)) (hB:∀ l∈es,l.length * 8≤140737488355328) (hO:∀ l∈ow,l.length * 8≤140737488355328) (hb:N * 24≤140737488355328) (hM:M * 24≤140737488355328) :
    Run Tryz.prog n_digraph_Solve [.slice a N c,.slice oa M oc] w fun v w'=>(solOk es ow = false∧v = .tuple (Array.mk [.slice none 0 0,.int .i64 1])∧Gr w w') ∨
      (solOk es ow = true∧∃ (bo:Nat) (ps:List Ls),SolsP es ow ps∧v = .tuple (Array.mk [.slice (some ⟨bo,0,none⟩) N N,.int .i64 0])∧St w' (own 1 (some ⟨bo,0,none⟩) N N (ps.map slP') :: sta (ps.map owP') :: all w)):=by
  have hN:=hr.1
  have hMl:=ho.1
  refine run_digraph_Solve _ _ _ _ _ _ w _ ?_
  refine newC_i (St.all w) fun ke w1 h=>newC_i h fun kn w2 h=>?_
  have g2:Gr w w2:=h.tail.gone1
  refine ⟨fun b w'=>b = !(rightB es && M == N)∧Gr w2 w',⟨_,_,_,(rdCel 1 h.l).cell0 (sub.refl _),(y_right (hr.mono g2) (by omega) fun x hx=>by have:=hB x hx; omega).mono ?_⟩,?_⟩
  · rintro _ w3 ⟨rfl,g3⟩
    have h:=h.gr g3
    refine ⟨_,rfl,br_intro (fun h1=>?_) fun h1=>?_⟩
    · have h1:rightB es = false:=by simpa using h1
      exact ⟨by rw [h1]; rfl,g3⟩
    · have h1:rightB es = true:=by simpa using h1
      refine ⟨_,_,_,(rdCel 0 h.l).cell0 (sub.refl _),_,_,_,(rdCel 1 h.l).cell0 (sub.refl _),?_,g3⟩
      rw [h1,Bool.true_and]
      by_cases e:M = N
      · subst e; simp
      · have:((M:Int) != (N:Int)) = true:=by simp; omega
        rw [this]; simp [e]
  rintro _ b2 w4 ⟨rfl,g4⟩
  refine br_intro (fun h1=>?_) fun h1=>?_
  · refine .inl ⟨?_,rfl,g2.trans g4⟩
    have h1:(rightB es && M == N) = false:=by cases hq:(rightB es && M == N) with
      | false=>rfl
      | true=>rw [hq] at h1; cases h1
    unfold solOk
    rw [hMl,hN,h1]; rfl
  have h1:(rightB es && M == N) = true:=by cases hq:(rightB es && M == N) with
    | true=>rfl
    | false=>rw [hq] at h1; cases h1
  obtain ⟨h2,h3⟩:=Bool.and_eq_true_iff.1 h1
  have h3:M = N:=by simpa using h3
  subst h3
  have h:=h.gr g4
  have hre:=hr.mono (g2.trans g4)
  have hro:=ho.mono (g2.trans g4)
  refine ⟨_,_,_,(rdCel 0 h.l).cell0 (sub.refl _),fun z w'=>∃ i:Nat,z = i∧i≤M∧(∀ x∈ow.take i,memB x = true)∧hp w' = hp w4,fun z _=>M - z.toNat,⟨0,rfl,Nat.zero_le _,fun x hx=>by simp at hx,rfl⟩,?_⟩
  rintro _ z w5 ⟨i,rfl,hi,hme,e5⟩
  refine br_intro (fun h4=>?_) fun h4=>?_
  · have h4:i < M:=by have:=of_decide_eq_true h4; omega
    obtain ⟨x,ad,vs,hx,had,hrow,o,l1,c1,rfl,hle,hrd⟩:=hro.get h4
    rw [mulS_eq,show i * Rep.n (List Int) = i from Nat.mul_one i] at hrow
    have hxB:=hO x (List.mem_of_getElem? hx)
    have hxl:=hrd.1
    refine idx_i had h4 ⟨o,l1,c1,hrow.cell0 (Gr.of_eq e5),(y_CtI (p:=fun x=>decide (x < 0) || decide (1024≤x)) (d:=n_digraph_Solve_S1) (e:=[]) rfl (by rw [e5]; exact hrd) (by omega) ?_).mono ?_⟩
    · intro y hy u hu
      refine run_digraph_Solve_S1 _ u _ (br_intro (fun h=>?_) fun h=>?_)
      · exact ⟨by rw [show decide (y < 0) = true from h]; rfl,hu⟩
      · exact ⟨by rw [show decide (y < 0) = false from h,Bool.false_or],hu⟩
    rintro _ w6 ⟨rfl,e6⟩
    refine ⟨_,rfl,br_intro (fun h5=>?_) fun h5=>?_⟩
    · refine .inl ⟨?_,rfl,(g2.trans g4).trans (Gr.of_eq (e6.trans e5))⟩
      unfold solOk
      rw [Bool.and_eq_false_iff]
      right
      rw [List.all_eq_false]
      exact ⟨x,List.mem_of_getElem? hx,by unfold memB; rw [h5]; decide⟩
    · refine ⟨⟨by omega,by omega⟩,⟨i + 1,rfl,h4,fun y hy=>?_,e6.trans e5⟩,msr h4⟩
      rw [List.take_add_one,hx] at hy
      rcases List.mem_append.1 hy with hy | hy
      · exact hme y hy
      · simp at hy; subst hy; unfold memB; rw [h5]; rfl
  have h4:i = M:=by have:=of_decide_eq_false h4; omega
  subst h4
  rw [List.take_of_length_le (by omega)] at hme
  have h:=h.eq e5
  have hok:solOk es ow = true:=by
    unfold solOk
    rw [h2,hMl,hN]
    simp
    exact hme
  refine ⟨_,_,_,(rdCel 1 h.l).cell0 (sub.refl _),⟨by omega,rfl,by omega⟩,?_⟩
  -- from here on what there is stays as it is
  have hall:=St.all w5
  refine newC_i hall fun bs w7 h7=>newC_i h7 fun ks w8 h8=>st1_i h8 (by simp) fun w9 h9=>?_
  have c1:∀ {u:World} {v:List Value} {L' : List Asn} {b:Nat},Gr w5 u→u.cell? (aM ke) = some (.slice a i c):=fun g=>(rdCel 1 h.l).cell0 g
  refine ⟨_,_,_,c1 (v:=[]) (L':=[]) (b:=0) h9.tail.tail.has,⟨by omega,rfl,by omega⟩,newC_i h9 fun bo w10 h10=>newC_i h10 fun ko w11 h11=>st1_i h11 (by simp) fun w12 h12=>?_⟩
  refine ⟨_,_,_,c1 (v:=[]) (L':=[]) (b:=0) h12.tail.tail.tail.tail.has,?_⟩
  have hre5:rdS (hp w5) es a i:=by rw [e5]; exact hre
  have hro5:rdS (hp w5) ow oa i:=by rw [e5]; exact hro
  have C:SolC es ow (hp w5) ke kn i a oa c oc:=⟨rdCel 1 h.l,rdCel 0 h.l,hre5,hro5,by rw [e5]; exact rdV.mono (g2.trans g4) ht,hB,hO,hb,fun x hx=>memB_iff.1 (hme x hx)⟩
  have hR:=rightB_iff.1 h2
  have hst:St w12 ([solA es ow ks bs ko bo i [],has (hp w5)] ++ []):=by
    have q1:reps (Int.toNat (i:Int)) [vP none] = pvl (List.replicate i none):=by rw [reps_one]; simp [pvl]
    have q2:reps (Int.toNat (i:Int)) [vS none 0 0] = (List.replicate i (((none,0),[]):Ls)).map slP':=by rw [reps_one]; simp [slP']
    rw [q1,q2] at h12
    have h13:=(St.flat (M:=setG [])).2 (sta_reps (A:=owP' ((none,0),[])) (fun w L h=>own_nil 1 h) i h12)
    have q3:List.replicate i (owP' ((none,0),[])) = (List.replicate i (((none,0),[]):Ls)).map owP':=by simp
    rw [q3] at h13
    exact solA_iff.2 ⟨_,_,[],⟨by simp,by simp,rfl,fun k g b B hk=>by simp at hk⟩,h13.pick 7 [4,5,2,3,1,0,6]⟩
  refine (d_each (Q:=fun gs=>[solA es ow ks bs ko bo i gs,has (hp w5)]) (L:=[]) rfl (done_S hR C) (fun gs hh hs=>hre5.mono (rdH 1 hs)) hR hB hb hst).mono ?_
  rintro _ w13 ⟨rfl,gs,hG,hall2,h⟩
  obtain ⟨sets,ps,gr,hF,h⟩:=solA_iff.1 h
  refine ⟨rfl,_,_,_,(rdCel 2 h.l).cell0 (sub.refl _),.inr ⟨hok,bo,ps,⟨by rw [hF.lp,hN],fun v hv=>?_⟩,rfl,?_⟩⟩
  · have hvf:=(hall2 v).2 (by omega)
    obtain ⟨g,hg,hvg⟩:=List.mem_flatten.1 hvf
    obtain ⟨k,hk⟩:=List.getElem?_of_mem hg
    obtain ⟨⟨b,B⟩,hb2⟩ : ∃ y,gr[k]? = some y:=⟨gr[k]'(by rw [hF.lg]; exact (List.getElem?_eq_some_iff.1 hk).1),List.getElem?_eq_getElem _⟩
    obtain ⟨_,q2,p,q3,q4⟩:=hF.st k g b B hk hb2 v hvg
    exact ⟨B,p,q2,q3,q4⟩
  · have h:=h.pick 7 [3,4,6]
    have h:=own_some (sz:=1) (l:=i) (c:=i) (cs:=[]) (by rw [List.append_nil]; exact h) (by simp [hF.lp]) (by simp [hF.lp]) (Nat.le_refl _)
    have g5:Gr w w5:=(g2.trans g4).trans (Gr.of_eq e5)
    exact ((h.pick 3 [2,0,1]).head (B:=has (hp w)) fun hh hs=>sub.trans g5 hs).pick 3 [1,2,0]
end Go.Proofs.YtndaepmjkbmjmaaGreatDoor
set_option linter.unusedVariables false
set_option maxRecDepth 4000
namespace Go.V
open Go.Proofs.YtndaepmjkbmjmaaGreatDoor
theorem SolB.one {es ow:List (List Int)} {v:Nat} {B B' : List Bool} (h:SolB es ow v B) (h' : SolB es ow v B'):B = B' :=
  fnB_inj (by rw [h.ln,h'.ln]) fun k=>by
    have:=(h.fn k).trans (h'.fn k).symm
    cases h1:fnB B k <;> cases h2:fnB B' k <;> simp_all
theorem SolsP.one {es ow:List (List Int)} {ps ps' : List Ls} (h:SolsP es ow ps) (h' : SolsP es ow ps'):ps.map (·.2) = ps'.map (·.2):=by
  apply List.ext_getElem?
  intro v
  by_cases hv:v < es.length
  · obtain ⟨B,p,q1,q2,q3⟩:=h.2 v hv
    obtain ⟨B',p',r1,r2,r3⟩:=h'.2 v hv
    rw [List.getElem?_map,List.getElem?_map,q2,r2]
    simp only [Option.map_some]
    rw [q3,r3,q1.one r1]
  · rw [List.getElem?_eq_none (by rw [List.length_map,h.1]; omega),List.getElem?_eq_none (by rw [List.length_map,h'.1]; omega)]
end Go.V
set_option linter.unusedVariables false
set_option maxRecDepth 4000
namespace Go.V
open Go.Proofs.YtndaepmjkbmjmaaGreatDoor
section
variable {es ow:List (List Int)}
open Classical in
noncomputable def solRow (es ow:List (List Int)) (v:Nat):List Int:=rowF 1024 fun x=>decide (HasP es ow v x)
noncomputable def solL (es ow:List (List Int)):List (List Int):=(List.range es.length).map (solRow es ow)
theorem solL_len:(solL es ow).length = es.length:=by unfold solL; simp
theorem solL_get {v:Nat} (h:v < es.length):(solL es ow)[v]? = some (solRow es ow v):=by unfold solL; simp [h]
theorem solRow_mem {v:Nat} {z:Int}:z∈solRow es ow v↔∃ x:Nat,z = x∧x < 1024∧HasP es ow v x:=by
  unfold solRow; rw [rowF_mem]; simp
theorem solRow_rise {v:Nat}:Rise (solRow es ow v):=rowF_rise _ _
theorem solRow_len {v:Nat}:(solRow es ow v).length≤1024:=rowF_len _ _
theorem HasP.iff {v x:Nat}:HasP es ow v x↔(x:Int)∈ow.getD v []∨∃ m∈En es v,HasP es ow m x:=by
  constructor
  · rintro ⟨u,h,hx⟩
    cases h with
    | refl=>exact .inl hx
    | step h1 h2=>exact .inr ⟨_,h1,_,h2,hx⟩
  · rintro (h | ⟨m,h1,u,h2,hx⟩)
    · exact ⟨v,.refl v,h⟩
    · exact ⟨u,.step h1 h2,hx⟩
theorem HasP.least {Q:Nat→Nat→Prop} (h1:∀ v x:Nat,(x:Int)∈ow.getD v []→Q v x) (h2:∀ v m x:Nat,m∈En es v→Q m x→Q v x) {v x:Nat} (h:HasP es ow v x):Q v x:=by
  obtain ⟨u,h,hx⟩:=h
  induction h with
  | refl a=>exact h1 a x hx
  | step ha hb ih=>exact h2 _ _ _ ha (ih hx)
theorem mbI_row (B:List Bool):mbI B = rowF B.length (fnB B):=by
  unfold mbI rowF
  rfl
theorem rowF_congr {n:Nat} {f f' : Nat→Bool} (h:∀ k,k < n→f k = f' k):rowF n f = rowF n f':=by
  unfold rowF
  rw [List.filter_congr fun k hk=>h k (List.mem_range.1 hk)]
open Classical in
theorem SolB.row {v:Nat} {B:List Bool} (h:SolB es ow v B):mbI B = solRow es ow v:=by
  rw [mbI_row,h.ln]
  unfold solRow
  refine rowF_congr fun k hk=>?_
  have:=h.fn k
  cases hb:fnB B k with
  | true=>rw [hb] at this; exact (decide_eq_true (this.1 rfl).2).symm
  | false=>rw [hb] at this; exact (decide_eq_false fun hh=>by have:=this.2 ⟨hk,hh⟩; cases this).symm
theorem SolsP.rows {ps:List Ls} (h:SolsP es ow ps):ps.map (·.2) = solL es ow:=by
  apply List.ext_getElem?
  intro v
  by_cases hv:v < es.length
  · obtain ⟨B,p,q1,q2,q3⟩:=h.2 v hv
    rw [List.getElem?_map,q2,solL_get hv]
    simp only [Option.map_some]
    rw [q3,q1.row]
  · rw [List.getElem?_eq_none (by rw [List.length_map,h.1]; omega),List.getElem?_eq_none (by rw [solL_len]; omega)]
theorem sol_is {rs:List (List Int)} (hl:rs.length = es.length) (h:∀ (v:Nat) row,rs[v]? = some row→Rise row∧∀ z,z∈row↔∃ x:Nat,z = x∧x < 1024∧HasP es ow v x):rs = solL es ow:=by
  apply List.ext_getElem?
  intro v
  by_cases hv:v < es.length
  · have hr:rs[v]? = some (rs[v]'(by omega)):=List.getElem?_eq_getElem _
    obtain ⟨h1,h2⟩:=h v _ hr
    rw [hr,solL_get hv,rise_eq h1 solRow_rise fun z=>(h2 z).trans solRow_mem.symm]
  · rw [List.getElem?_eq_none (by omega),List.getElem?_eq_none (by rw [solL_len]; omega)]
end
section
variable {g:GramT} {nn nn' : List Bool} {ss ss' : List SQ}
def DirL (g:GramT) (ss:List SQ):List (List Int):=(TrL g ss).map (dirOf g ss)
noncomputable def RgL (g:GramT) (nn:List Bool) (ss:List SQ):List (List Int):=solL (RdsL g nn ss) (DirL g ss)
noncomputable def FgL (g:GramT) (nn:List Bool) (ss:List SQ):List (List Int):=solL (IncL g nn ss) (RgL g nn ss)
theorem DirL_es (h:esOf ss = esOf ss'):DirL g ss = DirL g ss':=by
  unfold DirL; rw [TrL_es h]; exact List.map_congr_left fun t _=>dirOf_es h t
theorem RgL_es (h:esOf ss = esOf ss'):RgL g nn ss = RgL g nn ss':=by unfold RgL; rw [RdsL_es h,DirL_es h]
theorem FgL_es (h:esOf ss = esOf ss'):FgL g nn ss = FgL g nn ss':=by unfold FgL; rw [IncL_es h,RgL_es h]
theorem RdsL_len:(RdsL g nn ss).length = (TrL g ss).length:=by unfold RdsL; simp
theorem IncL_len:(IncL g nn ss).length = (TrL g ss).length:=by unfold IncL; simp
theorem DirL_len:(DirL g ss).length = (TrL g ss).length:=by unfold DirL; simp
theorem RgL_len:(RgL g nn ss).length = (TrL g ss).length:=by unfold RgL; rw [solL_len,RdsL_len]
theorem FgL_len:(FgL g nn ss).length = (TrL g ss).length:=by unfold FgL; rw [solL_len,IncL_len]
structure LookT where
  st:Int
  prod:Int
  tm:List Int
deriving DecidableEq
instance:Inhabited LookT:=⟨⟨0,0,[]⟩⟩
open Classical in
noncomputable def lookOf (g:GramT) (fs:List (List Int)) (b:BackT):LookT:=⟨b.st,b.prod,rowF g.T fun x=>decide (∃ t∈b.tr,(x:Int)∈fs.getD t.toNat [])⟩
noncomputable def LooksL (g:GramT) (nn:List Bool) (ss:List SQ):List LookT:=(BksL g ss).map (lookOf g (FgL g nn ss))
theorem LooksL_es (h:esOf ss = esOf ss'):LooksL g nn ss = LooksL g nn ss':=by unfold LooksL; rw [BksL_es h,FgL_es h]
end
end Go.V
set_option linter.unusedVariables false
set_option maxRecDepth 4000
namespace Go.V
open Go.Proofs.YtndaepmjkbmjmaaGreatDoor
section
variable {g:GramT} {nn:List Bool} {ss:List SQ}
theorem nn_ex (hc:ClosedP g):∃ nn,NnP g nn:=by
  refine ⟨(List.range g.N).map fun i=>@decide (Nul g ((g.T + i:Nat):Int)) (Classical.propDecidable _),by simp,fun i=>?_⟩
  unfold fnB
  rw [List.getD_eq_getElem?_getD,List.getElem?_map]
  by_cases hi:i < g.N
  · rw [List.getElem?_range hi]
    simp
  · rw [List.getElem?_eq_none (by simp; omega)]
    simp only [Option.map_none,Option.getD_none,Bool.false_eq_true,false_iff]
    intro h
    have:((g.T + i:Nat):Int) < g.T + g.N:=by
      cases hs:((g.T + i:Nat):Int) with
      | ofNat n =>
        rw [hs] at h
        generalize hz:(Int.ofNat n) = z at h
        cases h with
        | mk p hp _ =>
          have:=(inG (.inr hc)).1 p hp |>.1
          omega
      | negSucc n=>omega
    omega
structure RowF (F:GramT→List Bool→List SQ→List (List Int)):Prop where
  es:∀ {g nn ss ss'},esOf ss = esOf ss'→F g nn ss = F g nn ss'
  ln:∀ {g nn ss},(F g nn ss).length = (TrL g ss).length
def Tells (F:GramT→List Bool→List SQ→List (List Int)) (g:GramT) (w:World) (v:Value) (w' : World):Prop:=∃ (ss:List SQ) (ask int f:Int) (nn:List Bool) (o:Option Addr) (c:Nat) (ds:List (Lq Int)),v = .tuple #[.slice o ds.length c,.int .i64 f]∧Res g ss ask int f∧(f = 0→NnP g nn)∧ds.map (·.2) = F g nn ss∧St w' (own 1 o ds.length c (ds.map slQ) :: sta (ds.map (owQ 1 iv)) :: all w)
theorem RowF.nil {F:GramT→List Bool→List SQ→List (List Int)} (h:RowF F):F g nn [] = []:=by
  have:=h.ln (g:=g) (nn:=nn) (ss:=[])
  exact List.eq_nil_of_length_eq_zero (by rw [this]; simp [TrL,TrN])
theorem rf_dir:RowF fun g _ ss=>DirL g ss:=⟨fun h=>DirL_es h,DirL_len⟩
theorem rf_rds:RowF RdsL:=⟨fun h=>RdsL_es h,RdsL_len⟩
theorem rf_inc:RowF IncL:=⟨fun h=>IncL_es h,IncL_len⟩
theorem rf_rg:RowF RgL:=⟨fun h=>RgL_es h,RgL_len⟩
theorem Res.nil {a i f:Int} (h:Res g ss a i f) (hf:f≠0):ss = []:=by
  rcases h with ⟨_,e,_⟩ | ⟨_,_,e,_⟩ | ⟨_,_,_,_,e⟩ <;> first | exact e | exact absurd e hf
theorem dir_mem (hc:ClosedP g) (hA:AutI g ss) {l:List Int} (hl:l∈DirL g ss):l.length≤66∧Rise l∧∀ z∈l,0≤z∧z < g.T:=by
  obtain ⟨t,ht,rfl⟩:=List.mem_map.1 hl
  obtain ⟨hT,hN,_⟩:=hc.sizes
  obtain ⟨i,q,k,e,hi,hq,he,hge,rfl⟩:=TrN_mem ht
  obtain ⟨_,_,j,r,hj,hj1,hr,hrk,_⟩:=aut_edge hc hA hq he
  rw [dirOf_eq (j:=j) (q:=r) (by rw [← hj]; exact nxt_edge hA hq he) hr,dir_wnt hc hA hr]
  refine ⟨?_,rowF_rise _ _,fun z hz=>?_⟩
  · have:=rowF_len g.T (wnt g ss ⟨(i:Int),e.sym⟩ j)
    unfold rowF at this
    omega
  · obtain ⟨n,rfl,h1,_⟩:=rowF_mem.1 (show z∈rowF g.T (wnt g ss ⟨(i:Int),e.sym⟩ j) from hz)
    omega
theorem right_row {n:Nat} {f:Nat→Nat→Bool}:rightB ((List.range n).map fun i=>rowF n (f i)) = true:=by
  rw [rightB_iff]
  intro l hl x hx
  obtain ⟨i,_,rfl⟩:=List.mem_map.1 hl
  obtain ⟨k,rfl,h1,_⟩:=rowF_mem.1 hx
  simp; omega
theorem sol_mem {es ow:List (List Int)} {l:List Int} (h:l∈solL es ow):l.length≤1024∧Rise l∧∀ z∈l,0≤z∧z < 1024:=by
  unfold solL at h
  obtain ⟨v,_,rfl⟩:=List.mem_map.1 h
  refine ⟨solRow_len,solRow_rise,fun z hz=>?_⟩
  obtain ⟨x,rfl,h1,_⟩:=solRow_mem.1 hz
  omega
end
end Go.V
namespace Go.Proofs.YtndaepmjkbmjmaaGreatDoor
open Go.V
variable {w:World} {L:List Asn} {g:GramT} {x:GA}
set_option maxHeartbeats 2000000 in
theorem y_lksolved {f1 f2:FuncId} {E O:GramT→List Bool→List SQ→List (List Int)} (hE:RowF E) (hO:RowF O) (hf1:Fn f1 = true) (hf2:Fn f2 = true) (hg:gR (hp w) g x) (ht:tabA (hp w))
    (C1:∀ u,Gr w u→Run Tryz.prog f1 [.agg ⟨x.cells⟩] u (Tells O g u)) (C2:∀ u,Gr w u→Run Tryz.prog f2 [.agg ⟨x.cells⟩] u (Tells E g u))
    (hOb:∀ {nn ss},ClosedP g→AutI g ss→∀ l∈O g nn ss,l.length≤33280∧∀ z∈l,0≤z∧z < 1024) (hEb:∀ {nn ss},ClosedP g→AutI g ss→rightB (E g nn ss) = true∧∀ l∈E g nn ss,l.length≤33280) :
    Run Tryz.prog n_look_relation_solved [.agg #[.func (.func f1) #[] #[],.func (.func f2) #[] #[]],.agg ⟨x.cells⟩] w (Tells (fun g nn ss=>solL (E g nn ss) (O g nn ss)) g w):=by
  refine run_look_relation_solved _ _ _ _ _ _ _ _ _ _ _ _ _ _ _ _ _ w _ (newC_i (St.all w) fun k1 w1 h=>?_)
  have g01:Gr w w1:=h.gone1
  have r1:rowH (hp w1) (aM k1) _:=rdCel 0 h.l
  clear h
  refine gbox (hg.mono g01) fun k2 w2 g12 hg2 B=>?_
  have g02:Gr w w2:=g01.trans g12
  refine ⟨_,_,r1.cell g12 (j:=0) rfl,_,_,_,_,_,_,_,_,_,_,_,_,_,B.row (sub.refl _),ifT_iff.2 ⟨hf1,(C1 w2 g02).mono ?_⟩⟩
  rintro _ w3 ⟨ss,ask,int,f,nn,o,c,ds,rfl,hR,hn,hds,h⟩
  have g23:Gr w2 w3:=rdH 2 h.l
  have g03:=g02.trans g23
  refine ⟨_,_,_,_,rfl,br_intro (fun h1=>?_) fun h1=>?_⟩
  · have h1:f≠0:=by simpa using h1
    have hz:=hR.nil h1
    subst hz
    refine ⟨[],ask,int,f,nn,none,0,[],rfl,hR,hn,?_,own_nil 1 ((St.flat (M:=[])).2 (St.here g03))⟩
    show [] = solL (E g nn []) (O g nn [])
    rw [hE.nil,hO.nil]; rfl
  have h1:f = 0:=by simpa using h1
  subst h1
  obtain ⟨hc,hA⟩:=hR.aut rfl
  have hnn:=hn rfl
  have rO:=rdLq h
  rw [hds] at rO
  have hdl:ds.length = (TrL g ss).length:=by have:=congrArg List.length hds; rw [List.length_map,hO.ln] at this; exact this
  have hnl:=trl_le hc hA
  clear h
  refine ⟨_,_,r1.cell (g12.trans g23) (j:=1) rfl,_,_,_,_,_,_,_,_,_,_,_,_,_,B.row g23,ifT_iff.2 ⟨hf2,(C2 w3 g03).mono ?_⟩⟩
  rintro _ w4 ⟨ss2,ask2,int2,f2',nn2,o2,c2,ds2,rfl,hR2,hn2,hds2,h⟩
  have g34:Gr w3 w4:=rdH 2 h.l
  have g04:=g03.trans g34
  obtain ⟨ef,hes⟩ : f2' = 0∧esOf ss = esOf ss2:=by
    obtain ⟨e1,e2,_⟩:=hR.one hR2
    exact ⟨by omega,e2⟩
  subst ef
  have en:=(hn2 rfl).inj hnn
  subst en
  rw [← hE.es hes] at hds2
  have rE2:=rdLq h
  rw [hds2] at rE2
  have hdl2:ds2.length = (TrL g ss).length:=by have:=congrArg List.length hds2; rw [List.length_map,hE.ln] at this; exact this
  clear h
  obtain ⟨q1,q2⟩:=hEb (nn:=nn2) hc hA
  have q3:=hOb (nn:=nn2) hc hA
  refine ⟨_,_,_,_,rfl,br_intro (fun h1=>by simp at h1) fun _=>?_⟩
  refine (d_Solve rE2 (rO.mono g34) (rdV.mono g04 ht) (fun l hl=>by have:=q2 l hl; omega) (fun l hl=>by have:=(q3 l hl).1; omega) (by omega) (by omega)).mono ?_
  have hok:solOk (E g nn2 ss) (O g nn2 ss) = true:=by
    unfold solOk
    rw [q1,hO.ln,hE.ln,Bool.true_and]
    simp only [beq_self_eq_true,Bool.true_and,List.all_eq_true]
    exact fun l hl=>memB_iff.2 (q3 l hl).2
  rintro _ w5 (⟨h1,_⟩ | ⟨_,bo,ps,hps,rfl,h⟩)
  · rw [hok] at h1; cases h1
  have hpl:ps.length = ds2.length:=by rw [hps.1,hE.ln,hdl2]
  refine ⟨_,_,_,_,rfl,ss,ask,int,0,nn2,some ⟨bo,0,none⟩,ds2.length,ps,by rw [hpl],hR,hn,SolsP.rows hps,?_⟩
  rw [hpl]
  exact St.on2 h (has_i g04)
end Go.Proofs.YtndaepmjkbmjmaaGreatDoor
set_option linter.unusedVariables false
set_option maxRecDepth 4000
namespace Go.Proofs.YtndaepmjkbmjmaaGreatDoor
open Go.V
variable {w:World} {L:List Asn} {g:GramT} {x:GA}
theorem y_relations:Run Tryz.prog n_look_relations [] w fun v w'=>∃ k:Nat,v = .slice (some (aM k)) 2 2∧St w' (cel k [.func (.func n_trans_Direct) #[] #[],.func (.func n_relate_Reads) #[] #[],.func (.func n_look_Reading) #[] #[],.func (.func n_relate_Includes) #[] #[]] :: all w) :=
  run_look_relations w _ (newC_i (St.all w) fun k1 w1 h=>⟨k1,rfl,h⟩)
theorem t_Direct (hg:gR (hp w) g x) (hb:okG g):Run Tryz.prog n_trans_Direct [.agg ⟨x.cells⟩] w (Tells (fun g _ ss=>DirL g ss) g w):=by
  refine (y_trDirect hg hb).mono ?_
  rintro _ w1 ⟨ss,ask,int,f,o,c,ds,rfl,hR,hds,h⟩
  by_cases hf:f = 0
  · obtain ⟨nn,hn⟩:=nn_ex (hR.aut hf).1
    exact ⟨ss,ask,int,f,nn,o,c,ds,rfl,hR,fun _=>hn,hds,h⟩
  · exact ⟨ss,ask,int,f,[],o,c,ds,rfl,hR,fun h=>absurd h hf,hds,h⟩
theorem t_Reads (hg:gR (hp w) g x) (hb:okG g) (ht:tabA (hp w)):Run Tryz.prog n_relate_Reads [.agg ⟨x.cells⟩] w (Tells RdsL g w):=y_Reads hg hb ht
theorem t_Includes (hg:gR (hp w) g x) (hb:okG g) (ht:tabA (hp w)):Run Tryz.prog n_relate_Includes [.agg ⟨x.cells⟩] w (Tells IncL g w):=y_Includes hg hb ht
set_option maxHeartbeats 1000000 in
theorem t_Reading (hg:gR (hp w) g x) (hb:okG g) (ht:tabA (hp w)):Run Tryz.prog n_look_Reading [.agg ⟨x.cells⟩] w (Tells RgL g w):=by
  refine run_look_Reading _ _ _ _ _ _ _ _ _ _ _ _ _ w _ (gbox hg fun k1 w1 gw hg1 B=>?_)
  intro w2 hd
  have g12:Gr w1 w2:=Gr.of_eq (drawn_hp hd)
  refine ⟨fun u=>Gr w1 u,g12,_,_,_,_,_,_,_,_,_,_,_,_,_,fun u g=>B.row g,y_relations.mono ?_⟩
  rintro _ w3 ⟨k,rfl,h⟩
  have g23:Gr w2 w3:=rdH 1 h.l
  have g13:=g12.trans g23
  have r:rowH (hp w3) (aM k) _:=rdCel 0 h.l
  clear h
  have gw3:Gr w w3:=sub.trans gw g13
  refine ⟨_,_,_,rfl,fun u=>Gr w3 u,Gr.refl _,fun u g=>g13.trans g,idx_n (i:=0) rfl (by decide) ⟨_,_,_,_,fun u g=>(r.part 0 2).at g rfl,?_⟩⟩
  refine (y_lksolved rf_rds rf_dir rfl rfl (hg1.mono g13) (rdV.mono gw3 ht) (fun u g=>t_Direct (hg1.mono (g13.trans g)) hb) (fun u g=>t_Reads (hg1.mono (g13.trans g)) hb (rdV.mono (sub.trans gw3 g) ht)) (fun hc hA l hl=>?_) fun hc hA=>⟨right_row,fun l hl=>?_⟩).mono ?_
  · obtain ⟨h1,_,h2⟩:=dir_mem hc hA hl
    obtain ⟨hT,_⟩:=hc.sizes
    exact ⟨by omega,fun z hz=>by have:=h2 z hz; omega⟩
  · unfold RdsL at hl
    obtain ⟨j,_,rfl⟩:=List.mem_map.1 hl
    exact Nat.le_trans (rowF_len _ _) (trl_le hc hA)
  · rintro _ w4 ⟨ss,ask,int,f,nn,o,c,ds,rfl,hR,hn,hds,h⟩
    exact ⟨_,_,_,_,rfl,rdH 2 h.l,ss,ask,int,f,nn,o,c,ds,rfl,hR,hn,hds,St.on2 h (has_i gw3)⟩
set_option maxHeartbeats 1000000 in
theorem t_Following (hg:gR (hp w) g x) (hb:okG g) (ht:tabA (hp w)):Run Tryz.prog n_look_Following [.agg ⟨x.cells⟩] w (Tells FgL g w):=by
  refine run_look_Following _ _ _ _ _ _ _ _ _ _ _ _ _ w _ (gbox hg fun k1 w1 gw hg1 B=>?_)
  intro w2 hd
  have g12:Gr w1 w2:=Gr.of_eq (drawn_hp hd)
  refine ⟨fun u=>Gr w1 u,g12,_,_,_,_,_,_,_,_,_,_,_,_,_,fun u g=>B.row g,y_relations.mono ?_⟩
  rintro _ w3 ⟨k,rfl,h⟩
  have g23:Gr w2 w3:=rdH 1 h.l
  have g13:=g12.trans g23
  have r:rowH (hp w3) (aM k) _:=rdCel 0 h.l
  clear h
  have gw3:Gr w w3:=sub.trans gw g13
  refine ⟨_,_,_,rfl,fun u=>Gr w3 u,Gr.refl _,fun u g=>g13.trans g,idx_n (i:=1) rfl (by decide) ⟨_,_,_,_,fun u g=>(r.part 1 2).at g rfl,?_⟩⟩
  refine (y_lksolved rf_inc rf_rg rfl rfl (hg1.mono g13) (rdV.mono gw3 ht) (fun u g=>t_Reading (hg1.mono (g13.trans g)) hb (rdV.mono (sub.trans gw3 g) ht)) (fun u g=>t_Includes (hg1.mono (g13.trans g)) hb (rdV.mono (sub.trans gw3 g) ht)) (fun hc hA l hl=>?_) fun hc hA=>⟨right_row,fun l hl=>?_⟩).mono ?_
  · obtain ⟨h1,_,h2⟩:=sol_mem hl
    exact ⟨by omega,h2⟩
  · unfold IncL at hl
    obtain ⟨j,_,rfl⟩:=List.mem_map.1 hl
    exact Nat.le_trans (rowF_len _ _) (trl_le hc hA)
  · rintro _ w4 ⟨ss,ask,int,f,nn,o,c,ds,rfl,hR,hn,hds,h⟩
    exact ⟨_,_,_,_,rfl,rdH 2 h.l,ss,ask,int,f,nn,o,c,ds,rfl,hR,hn,hds,St.on2 h (has_i gw3)⟩
end Go.Proofs.YtndaepmjkbmjmaaGreatDoor
set_option linter.unusedVariables false
set_option maxRecDepth 4000
namespace Go.V
open Go.Proofs.YtndaepmjkbmjmaaGreatDoor
section
variable {g:GramT} {nn:List Bool} {ss:List SQ}
theorem bks_mem {b:BackT} (h:b∈BksL g ss):∃ q m:Nat,q < ss.length∧m < g.prods.length∧b = ⟨(q:Int),(m:Int),rowF (TrL g ss).length (backB g ss q m)⟩∧rowF (TrL g ss).length (backB g ss q m)≠[]:=by
  unfold BksL at h
  obtain ⟨q,hq,h⟩:=List.mem_flatMap.1 h
  unfold bkRow at h
  obtain ⟨m,hm,h⟩:=List.mem_flatMap.1 h
  unfold bkAt at h
  split at h
  · simp at h
  · rename_i hne
    rw [List.mem_singleton] at h
    exact ⟨q,m,List.mem_range.1 hq,List.mem_range.1 hm,h,hne⟩
theorem bks_tr {b:BackT} (h:b∈BksL g ss) {t:Int} (ht:t∈b.tr):∃ j:Nat,t = j∧j < (TrL g ss).length:=by
  obtain ⟨q,m,_,_,rfl,_⟩:=bks_mem h
  obtain ⟨j,rfl,h1,_⟩:=rowF_mem.1 ht
  exact ⟨j,rfl,h1⟩
theorem bks_len (hc:ClosedP g) (hA:AutI g ss):(BksL g ss).length≤24832∧∀ b∈BksL g ss,b.tr.length≤33280:=by
  refine ⟨?_,fun b hb=>?_⟩
  · have h1:=BksN_len g ss ss.length
    have h256:=hA.dn.2.1
    obtain ⟨sT,sN,sP,_⟩:=hc.sizes
    have h2:ss.length * g.prods.length≤256 * 97:=Nat.mul_le_mul h256 sP
    show (BksN g ss ss.length).length≤_
    omega
  · obtain ⟨q,m,_,_,rfl,_⟩:=bks_mem hb
    exact Nat.le_trans (rowF_len _ _) (trl_le hc hA)
def toLk (b:BkQ):LookT:=⟨b.1.1,b.1.2,b.2.2⟩
def LkB (g:GramT) (fs:List (List Int)) (tr:List Int) (B:List Bool):Prop:=B.length = g.T∧∀ y,fnB B y = true↔y < g.T∧∃ t∈tr,(y:Int)∈fs.getD t.toNat []
theorem LkB.nil (hT:g.T≤1024) (fs:List (List Int)):LkB g fs [] (ofB (g.T:Int) []):=by
  have e:ofN (g.T:Int) = g.T:=ofN_nat hT
  refine ⟨by rw [ofB_len,e],fun y=>?_⟩
  unfold ofB
  rw [fnB_add]; unfold addS
  rw [fnB_rep]; simp
theorem LkB.snoc {fs:List (List Int)} {tr row:List Int} {t:Int} {B:List Bool} (h:LkB g fs tr B) (hr:fs.getD t.toNat [] = row):LkB g fs (tr ++ [t]) (addB B row):=by
  refine ⟨by rw [addB_len]; exact h.1,fun y=>?_⟩
  rw [fnB_add]; unfold addS
  rw [Bool.or_eq_true,Bool.and_eq_true,decide_eq_true_eq,h.2,h.1,List.contains_iff_mem]
  constructor
  · rintro (⟨h1,t',h2,h3⟩ | ⟨h1,h2⟩)
    · exact ⟨h1,t',by simp [h2],h3⟩
    · exact ⟨h1,t,by simp,by rw [hr]; exact h2⟩
  · rintro ⟨h1,t',h2,h3⟩
    rcases List.mem_append.1 h2 with h2 | h2
    · exact .inl ⟨h1,t',h2,h3⟩
    · rw [List.mem_singleton] at h2
      subst h2
      exact .inr ⟨h1,by rw [← hr]; exact h3⟩
open Classical in
theorem LkB.row {fs:List (List Int)} {b:BackT} {B:List Bool} (h:LkB g fs b.tr B):lookOf g fs b = ⟨b.st,b.prod,mbI B⟩:=by
  unfold lookOf
  rw [mbI_row,h.1]
  congr 1
  refine rowF_congr fun k hk=>?_
  have:=h.2 k
  cases hb:fnB B k with
  | true=>rw [hb] at this; exact decide_eq_true (this.1 rfl).2
  | false=>rw [hb] at this; exact decide_eq_false fun hh=>by have:=this.2 ⟨hk,hh⟩; cases this
theorem LooksL_len:(LooksL g nn ss).length = (BksL g ss).length:=by unfold LooksL; simp
end
end Go.V
namespace Go.Proofs.YtndaepmjkbmjmaaGreatDoor
open Go.V
variable {w:World} {L:List Asn} {g:GramT} {x:GA}
set_option maxHeartbeats 4000000 in
theorem t_Sets (hg:gR (hp w) g x) (hb:okG g) (ht:tabA (hp w)):Run Tryz.prog n_look_Sets [.agg ⟨x.cells⟩] w fun v w'=>∃ (ss:List SQ) (ask int f:Int) (nn:List Bool) (o:Option Addr) (c:Nat) (ds:List BkQ),v = .tuple #[.slice o ds.length c,.int .i64 f]∧Res g ss ask int f∧(f = 0→NnP g nn)∧ds.map toLk = LooksL g nn ss∧St w' (own 3 o ds.length c (bkV ds) :: sta (bkO ds) :: all w):=by
  refine run_look_Sets _ _ _ _ _ _ _ _ _ _ _ _ _ w _ (gbox hg fun k1 w1 gw hg1 B=>?_)
  have zero:∀ {ss:List SQ} {ask int f:Int} {w' : World},Res g ss ask int f→f≠0→Gr w w'→∃ (ss:List SQ) (ask int f' : Int) (nn:List Bool) (o:Option Addr) (c:Nat) (ds:List BkQ),(.tuple #[.slice none 0 0,.int .i64 f] : Value) = .tuple #[.slice o ds.length c,.int .i64 f']∧Res g ss ask int f'∧(f' = 0→NnP g nn)∧ds.map toLk = LooksL g nn ss∧St w' (own 3 o ds.length c (bkV ds) :: sta (bkO ds) :: all w):=fun {ss ask int f w'} hR h1 hw=>by
    have hz:=hR.nil h1
    subst hz
    exact ⟨[],ask,int,f,[],none,0,[],rfl,hR,fun h=>absurd h h1,rfl,own_nil 3 ((St.flat (M:=[])).2 (St.here hw))⟩
  refine ⟨_,_,_,_,_,_,_,_,_,_,_,_,_,B.row (sub.refl _),(t_Following hg1 hb (rdV.mono gw ht)).mono ?_⟩
  rintro _ w2 ⟨ss,ask,int,f,nn,o,c,fs,rfl,hR,hn,hfs,h⟩
  have g12:Gr w1 w2:=rdH 2 h.l
  refine ⟨_,_,_,_,rfl,br_intro (fun h1=>zero hR (by simpa using h1) (gw.trans g12)) fun h1=>?_⟩
  have h1:f = 0:=by simpa using h1
  subst h1
  obtain ⟨hc,hA⟩:=hR.aut rfl
  have hnn:=hn rfl
  have rF:=rdLq h
  rw [hfs] at rF
  have hfl:fs.length = (TrL g ss).length:=by have:=congrArg List.length hfs; rw [List.length_map,FgL_len] at this; exact this
  rw [hfl] at rF ⊢
  have hnl:=trl_le hc hA
  clear h hfs
  refine ⟨_,_,_,_,_,_,_,_,_,_,_,_,_,B.row g12,(y_Lookback (hg1.mono g12) hb (rdV.mono (gw.trans g12) ht)).mono ?_⟩
  rintro _ w3 ⟨ss2,ask2,int2,f2,o2,c2,ds2,rfl,hR2,hds2,h⟩
  have g23:Gr w2 w3:=rdH 2 h.l
  obtain ⟨_,hes,_,_,ef,_⟩:=hR.one hR2
  subst ef
  rw [← BksL_es hes] at hds2
  have rB:=rdBk h
  rw [hds2] at rB
  have hdl:ds2.length = (BksL g ss).length:=by have:=congrArg List.length hds2; rw [List.length_map] at this; exact this
  rw [hdl] at rB ⊢
  clear h hds2
  obtain ⟨hbl,htl⟩:=bks_len hc hA
  obtain ⟨sT,_⟩:=hc.sizes
  have g13:=g12.trans g23
  have gw3:Gr w w3:=gw.trans g13
  have rF:=rF.mono g23
  have tl:=hg.t.1
  refine ⟨_,_,_,_,rfl,br_intro (fun h1=>by simp at h1) fun _=>?_⟩
  refine ⟨fun o n c z w'=>∃ (i:Nat) (bs:List BkQ),z = i∧i≤(BksL g ss).length∧n = bs.length∧bs.map toLk = ((BksL g ss).take i).map (lookOf g (FgL g nn ss))∧St w' (own 3 o n c (bkV bs) :: sta (bkO bs) :: all w3),fun _ _ _ z _=>(BksL g ss).length - z.toNat,
    ⟨0,[],rfl,Nat.zero_le _,rfl,rfl,own_nil 3 ((St.flat (M:=[])).2 (St.all w3))⟩,?_⟩
  rintro _ o4 _ c4 _ w4 ⟨i,bs,rfl,hi,rfl,hbs,h⟩
  have s34:sub (hp w3) (hp w4):=rdH 2 h.l
  have hbsl:bs.length = i:=by have:=congrArg List.length hbs; rw [List.length_map,List.length_map,List.length_take] at this; omega
  refine br_intro (fun h1=>?_) fun h1=>?_
  rotate_left
  · have h1:i = (BksL g ss).length:=by have:=of_decide_eq_false h1; omega
    rw [h1,List.take_length] at hbs
    refine run_slices_Clip_api_Look_api_Look_ _ _ _ w4 _ (slc_clip (own_le h) ⟨_,_,_,rfl,ss,ask,int,0,nn,_,_,bs,rfl,hR,hn,hbs,?_⟩)
    have h:=own_clip h
    exact St.on2 h (has_i gw3)
  have h1:i < (BksL g ss).length:=by have:=of_decide_eq_true h1; omega
  obtain ⟨b,ad,ta,tc,hb1,rfl,rb,rt⟩:=rdBk_get rB h1
  have hbm:=List.mem_of_getElem? hb1
  have htb:=htl b hbm
  refine idx_n rfl h1 ⟨_,_,_,_,_,rb.at s34 rfl,newC_i h fun kb w5 h=>stR_i h rfl (by simp [oneC]) fun w6 h=>?_⟩
  have s36:sub (hp w3) (hp w6):=rdH 3 h.l
  refine ⟨_,_,_,B.c0 (sub.trans g13 s36),?_⟩
  rw [← tl]
  refine (s_Of (xs:=[]) (l:=0) (a:=none) (g.T:Int) rdS.nil (by omega)).mono ?_
  rintro _ w7 ⟨kp,rfl,h7⟩
  have h:=h7.on1 h
  clear h7
  refine ⟨_,rfl,_,_,_,(rdCel 1 h.l).cell (sub.refl _) (j:=2) rfl,fun z w'=>∃ (k:Nat) (Bs:List Bool),z = k∧k≤b.tr.length∧LkB g (FgL g nn ss) (b.tr.take k) Bs∧St w' (setO (some ⟨kp,0,none⟩) Bs :: cel kb [.int .i64 b.st,.int .i64 b.prod,.slice ta b.tr.length tc] :: own 3 o4 bs.length c4 (bkV bs) :: sta (bkO bs) :: all w3),fun z _=>b.tr.length - z.toNat,
    ⟨0,_,rfl,Nat.zero_le _,LkB.nil (by omega) _,h⟩,?_⟩
  clear h
  rintro _ _ w8 ⟨k,Bs,rfl,hk,hB,h⟩
  have s38:sub (hp w3) (hp w8):=rdH 4 h.l
  refine br_intro (fun h2=>?_) fun h2=>?_
  · have h2:k < b.tr.length:=by have:=of_decide_eq_true h2; omega
    obtain ⟨t,tad,ht1,hta,ht2⟩:=rt.get1 h2
    obtain ⟨j,rfl,hj⟩:=bks_tr hbm (List.mem_of_getElem? ht1)
    obtain ⟨row,rad,ra,rc,hr1,rfl,hr2,hr3⟩:=rdLq_row rF hj
    have hrl:=(sol_mem (es:=IncL g nn ss) (ow:=RgL g nn ss) (List.mem_of_getElem? hr1)).1
    refine idx_i hta h2 ⟨_,ht2 _ s38,idx_i rfl hj ⟨_,_,_,hr2 _ s38,(s_Add h (fun hh hl=>hr3.mono (rdH 3 hl)) (by omega)).mono ?_⟩⟩
    rintro _ w9 ⟨rfl,h⟩
    refine ⟨_,rfl,⟨by omega,by omega⟩,⟨k + 1,_,by simp,h2,?_,h⟩,msr h2⟩
    rw [take_succ_get ht1]
    exact hB.snoc (by rw [Int.toNat_natCast,List.getD_eq_getElem?_getD,hr1]; rfl)
  have h2:k = b.tr.length:=by have:=of_decide_eq_false h2; omega
  rw [h2,List.take_length] at hB
  intro w10 hd
  have h:=h.eq (drawn_hp hd)
  have rk:rowH (hp w10) (aM kb) _:=rdCel 1 h.l
  have hset:setR (hp w10) (some ⟨kp,0,none⟩) Bs:=by
    obtain ⟨g1,g2,_,s1,_,ha,_⟩:=h
    exact (setO_R ha).mono s1
  refine ⟨fun u=>rowH (hp u) (aM kb) [.int .i64 b.st,.int .i64 b.prod,.slice ta b.tr.length tc],rk,_,fun u r=>r.cell0 (sub.refl _),_,fun u r=>r.cell (sub.refl _) (j:=1) rfl,(s_Members hset (rdV.mono (sub.trans gw3 (rdH 4 h.l)) ht)).mono ?_⟩
  rintro _ w13 ⟨a',c',rfl,h13⟩
  have h:=h13.on1 h
  clear h13
  refine ⟨_,_,_,rfl,rdCel 2 h.l,newC_i h fun kn w14 h=>⟨rdCel 3 h.l,?_⟩⟩
  refine (app_one (us:=bkV bs) tyOk (rfl:kdOfT Ty _ = .slice _) (rfl:kdOfT Ty _ = .slice _) rfl rfl rfl (h.pick 6 [0,4,1,2,3,5]) rfl (by simp [oneC]) (by show (bs.length + 1) * 40≤_; omega) (by omega)).mono ?_
  rintro _ w15 ⟨o',c5,rfl,h⟩
  refine ⟨_,_,_,rfl,rdCel 4 h.l,⟨by omega,by omega⟩,⟨i + 1,bs ++ [((b.st,b.prod),((a',c'),mbI Bs))],by simp,h1,by simp,?_,?_⟩,msr h1⟩
  · rw [List.map_append,hbs,List.take_add_one,hb1,List.map_append]
    show _ ++ [(⟨b.st,b.prod,mbI Bs⟩ : LookT)] = _ ++ [lookOf g (FgL g nn ss) b]
    rw [hB.row]
  · have e1:bkV (bs ++ [((b.st,b.prod),((a',c'),mbI Bs))]) = bkV bs ++ [.int .i64 b.st,.int .i64 b.prod,.slice a' (cntB Bs) c']:=by
      rw [bkV_app]
      unfold bkV bkE slQ
      simp [mbI_len]
    have e2:bkO (bs ++ [((b.st,b.prod),((a',c'),mbI Bs))]) = bkO bs ++ [own 1 a' (cntB Bs) c' (iv (mbI Bs))]:=by
      unfold bkO owQ
      simp [mbI_len]
    rw [e1,e2]
    have h:=St.snoc (h.pick 6 [2,5,0,1,3,4])
    exact h.pick 6 [1,0,5]
end Go.Proofs.YtndaepmjkbmjmaaGreatDoor

set_option linter.unusedVariables false
set_option maxRecDepth 4000
namespace Go.Proofs.YtndaepmjkbmjmaaGreatDoor
open Go.V
variable {w:World} {L:List Asn} {g:GramT} {x:GA}
end Go.Proofs.YtndaepmjkbmjmaaGreatDoor
set_option linter.unusedVariables false
set_option maxRecDepth 4000
namespace Go.V
open Go.Proofs.YtndaepmjkbmjmaaGreatDoor
instance:Rep LookT:={ n:=3,rd:=fun h x vs=>∃ (a:Option Addr) (c:Nat),vs = [.int .i64 x.st,.int .i64 x.prod,.slice a x.tm.length c]∧rdS h x.tm a x.tm.length,mono:=fun s ⟨a,c,e,r⟩=>⟨a,c,e,r.mono s⟩,len:=fun ⟨_,_,e,_⟩=>by rw [e]; rfl }
section
variable {w:World} {L:List Asn} {o:Option Addr} {c:Nat}
theorem rdLk {ds:List BkQ} (h:St w (own 3 o ds.length c (bkV ds) :: sta (bkO ds) :: L)):rdS (hp w) (ds.map toLk) o ds.length:=by
  have hr:=rdOv 0 h.l
  refine ⟨by simp,fun i x hi=>?_⟩
  rw [List.getElem?_map] at hi
  cases hd:ds[i]? with
  | none=>rw [hd] at hi; cases hi
  | some p =>
    rw [hd] at hi
    simp only [Option.map_some,Option.some.injEq] at hi
    subst hi
    have hA:(bkO ds)[i]? = some (owQ 1 iv p.2):=by unfold bkO; rw [List.getElem?_map,hd]; rfl
    have h2:=St.out (h.pick 2 [1]) hA
    have rp:rdS (hp w) p.2.2 p.2.1.1 p.2.2.length:=rdI_of rfl (rdOv 0 h2.l)
    rcases hr with e | ⟨ad,e,hc⟩
    · have h1:=congrArg List.length e
      rw [bkV_len,List.length_nil] at h1
      have:=(List.getElem?_eq_some_iff.1 hd).1; omega
    · exact ⟨ad,bkE p,e,rowH_unflat (n:=3) (fun _=>rfl) ds ad hc i p hd,p.2.1.1,p.2.1.2,rfl,rp⟩
theorem rdLk_get {h:Hp} {xs:List LookT} {l i:Nat} (r:rdS h xs o l) (hi:i < l):∃ x ad a c,xs[i]? = some x∧o = some ad∧rowH h (ad.add (mulS i 3)) [.int .i64 x.st,.int .i64 x.prod,.slice a x.tm.length c]∧rdS h x.tm a x.tm.length:=by
  obtain ⟨x,ad,vs,hx,ha,hr,a,c',rfl,hx2⟩:=r.get hi
  exact ⟨x,ad,a,c',hx,ha,hr,hx2⟩
end
def hasC (es ow:List (List Int)):Nat→Nat→Nat→Bool
  | 0,v,x=>(ow.getD v []).contains (x:Int)
  | k + 1,v,x=>(ow.getD v []).contains (x:Int) || (En es v).any fun m=>hasC es ow k m x
theorem hasC_sound {es ow:List (List Int)} {x:Nat}:∀ k v,hasC es ow k v x = true→HasP es ow v x
  | 0,v,h=>HasP.iff.2 (.inl (List.contains_iff_mem.1 h))
  | k + 1,v,h=>by
    rw [hasC,Bool.or_eq_true,List.any_eq_true] at h
    rcases h with h | ⟨m,h1,h2⟩
    · exact HasP.iff.2 (.inl (List.contains_iff_mem.1 h))
    · exact HasP.iff.2 (.inr ⟨m,h1,hasC_sound k m h2⟩)
def riseB:List Int→Bool
  | []=>true
  | a :: l=>l.all (fun b=>decide (a < b)) && riseB l
theorem riseB_iff:∀ {l:List Int},riseB l = true→Rise l
  | [],_=>.nil
  | a :: l,h=>by
    rw [riseB,Bool.and_eq_true,List.all_eq_true] at h
    exact .cons (fun b hb=>of_decide_eq_true (h.1 b hb)) (riseB_iff h.2)
def chkS (es ow rs:List (List Int)) (K:Nat):Bool:=decide (rs.length = es.length) && decide (ow.length = es.length) && (List.range es.length).all fun v=>riseB (rs.getD v []) && (rs.getD v []).all (fun z=>decide (0≤z) && decide (z < 1024) && hasC es ow K v z.toNat) && (ow.getD v []).all (fun z=>(rs.getD v []).contains z) && (En es v).all fun m=>(rs.getD m []).all fun z=>(rs.getD v []).contains z
theorem chkS_is {es ow rs:List (List Int)} {K:Nat} (h:chkS es ow rs K = true):rs = solL es ow:=by
  unfold chkS at h
  simp only [Bool.and_eq_true,decide_eq_true_eq,List.all_eq_true,List.mem_range,List.contains_iff_mem] at h
  obtain ⟨⟨h1,h2⟩,h3⟩:=h
  have key:∀ v x,HasP es ow v x→(x:Int)∈rs.getD v []:=fun v x hh=>by
    refine HasP.least (Q:=fun v x=>(x:Int)∈rs.getD v []) (fun v x hx=>?_) (fun v m x hm hx=>?_) hh
    · by_cases hv:v < es.length
      · exact (h3 v hv).1.2 _ hx
      · rw [List.getD_eq_getElem?_getD,List.getElem?_eq_none (by omega)] at hx
        simp at hx
    · by_cases hv:v < es.length
      · exact (h3 v hv).2 m hm _ hx
      · unfold En at hm
        rw [List.getD_eq_getElem?_getD,List.getElem?_eq_none (by omega)] at hm
        simp at hm
  refine sol_is h1 fun v row hr=>?_
  have hv:v < es.length:=by rw [← h1]; exact (List.getElem?_eq_some_iff.1 hr).1
  have e:rs.getD v [] = row:=by rw [List.getD_eq_getElem?_getD,hr]; rfl
  obtain ⟨⟨⟨q1,q2⟩,_⟩,_⟩:=h3 v hv
  rw [e] at q1 q2
  refine ⟨riseB_iff q1,fun z=>⟨fun hz=>?_,?_⟩⟩
  · obtain ⟨⟨q3,q4⟩,q5⟩:=q2 z hz
    exact ⟨z.toNat,by omega,by omega,hasC_sound K v q5⟩
  · rintro ⟨x,rfl,_,hx⟩
    have:=key v x hx
    rwa [e] at this
def lookC (g:GramT) (fs:List (List Int)) (b:BackT):LookT:=⟨b.st,b.prod,rowF g.T fun x=>b.tr.any fun t=>(fs.getD t.toNat []).contains (x:Int)⟩
open Classical in
theorem lookC_eq (g:GramT) (fs:List (List Int)) (b:BackT):lookOf g fs b = lookC g fs b:=by
  unfold lookOf lookC
  congr 1
  refine rowF_congr fun k _=>?_
  rw [Bool.eq_iff_iff,decide_eq_true_eq,List.any_eq_true]
  exact exists_congr fun t=>and_congr_right fun _=>List.contains_iff_mem.symm
end Go.V
namespace Go.Proofs.YtndaepmjkbmjmaaGreatDoor
open Go.V
variable {w:World} {L:List Asn} {g:GramT} {x:GA}
end Go.Proofs.YtndaepmjkbmjmaaGreatDoor

set_option linter.unusedVariables false
set_option maxRecDepth 4000
namespace Go.Proofs.YtndaepmjkbmjmaaGreatDoor
open Go.V
variable {w:World} {L:List Asn} {g:GramT} {x:GA}
end Go.Proofs.YtndaepmjkbmjmaaGreatDoor
set_option linter.unusedVariables false
set_option maxRecDepth 4000
namespace Go.V
structure AsR (h:Hp) (g:GramT) (ss:List SQ) (nn:List Bool) (k:Nat):Prop where
  ex:∃ (x:GA) (ol:Option Addr) (cl:Nat) (on:Option Addr) (cn:Nat),rowH h (aM k) (x.cells ++ [.slice ol (TrL g ss).length cl,.slice on g.N cn])∧gR h g x∧rdS h (TrL g ss) ol (TrL g ss).length∧rdS h nn on g.N
theorem AsR.mono {h h' : Hp} {g:GramT} {ss:List SQ} {nn:List Bool} {k:Nat} (s:sub h h') (r:AsR h g ss nn k):AsR h' g ss nn k:=by
  obtain ⟨x,ol,cl,on,cn,h1,h2,h3,h4⟩:=r.ex
  exact ⟨x,ol,cl,on,cn,h1.mono s,h2.mono s,h3.mono s,h4.mono s⟩
end Go.V
namespace Go.Proofs.YtndaepmjkbmjmaaGreatDoor
open Go.V
variable {w:World} {L:List Asn} {g:GramT} {x:GA}
end Go.Proofs.YtndaepmjkbmjmaaGreatDoor
set_option linter.unusedVariables false
set_option maxRecDepth 4000
namespace Go.V
end Go.V
namespace Go.Proofs.YtndaepmjkbmjmaaGreatDoor
open Go.V
variable {w:World} {L:List Asn} {g:GramT} {x:GA}
end Go.Proofs.YtndaepmjkbmjmaaGreatDoor

set_option linter.unusedVariables false
set_option maxRecDepth 4000
namespace Go.V
theorem rowH_pre {h:Hp} {a:Addr} {vs us:List Value} (r:rowH h a (vs ++ us)):rowH h a vs:=fun j v hv=>r j v (by rw [List.getElem?_append_left (List.getElem?_eq_some_iff.1 hv).1]; exact hv)
section
variable {g:GramT} {nn:List Bool} {ss:List SQ}
end
end Go.V
namespace Go.Proofs.YtndaepmjkbmjmaaGreatDoor
open Go.V
variable {w:World} {L:List Asn} {g:GramT} {x:GA} {ss:List SQ} {nn:List Bool}
end Go.Proofs.YtndaepmjkbmjmaaGreatDoor
set_option linter.unusedVariables false
set_option maxRecDepth 4000
namespace Go.Proofs.YtndaepmjkbmjmaaGreatDoor
open Go.V
variable {w:World} {L:List Asn} {g:GramT} {x:GA} {wh:Int}
end Go.Proofs.YtndaepmjkbmjmaaGreatDoor
set_option linter.unusedVariables false
set_option maxRecDepth 4000
namespace Go.V
section
variable {g:GramT} {ss:List SQ}
theorem bkAt_prod {q m:Nat} {b:BackT} (h:b∈bkAt g ss q m):b = ⟨(q:Int),(m:Int),rowF (TrL g ss).length (backB g ss q m)⟩∧rowF (TrL g ss).length (backB g ss q m)≠[]:=by
  unfold bkAt at h
  split at h
  · simp at h
  · rename_i hn
    rw [List.mem_singleton] at h
    exact ⟨h,hn⟩
theorem bkRow_mem {q j:Nat} {b:BackT}:b∈bkRow g ss q j↔∃ m,m < j∧rowF (TrL g ss).length (backB g ss q m)≠[]∧b = ⟨(q:Int),(m:Int),rowF (TrL g ss).length (backB g ss q m)⟩:=by
  unfold bkRow
  rw [List.mem_flatMap]
  constructor
  · rintro ⟨m,hm,h⟩
    obtain ⟨h1,h2⟩:=bkAt_prod h
    exact ⟨m,List.mem_range.1 hm,h2,h1⟩
  · rintro ⟨m,hm,h2,rfl⟩
    refine ⟨m,List.mem_range.2 hm,?_⟩
    unfold bkAt
    rw [if_neg h2]; simp
theorem bkRow_rise (q:Nat):∀ j,Rise ((bkRow g ss q j).map (·.prod))
  | 0=>by simp [bkRow,Rise]
  | j + 1=>by
    rw [bkRow_succ,List.map_append]
    unfold Rise
    rw [List.pairwise_append]
    refine ⟨bkRow_rise q j,?_,fun a ha b hb=>?_⟩
    · unfold bkAt
      split <;> simp
    · obtain ⟨x,hx,rfl⟩:=List.mem_map.1 ha
      obtain ⟨y,hy,rfl⟩:=List.mem_map.1 hb
      obtain ⟨m,hm,_,rfl⟩:=bkRow_mem.1 hx
      obtain ⟨rfl,_⟩:=bkAt_prod hy
      show (m:Int) < j
      omega
end
end Go.V

set_option linter.unusedVariables false
set_option maxRecDepth 4000
namespace Go.Proofs.YtndaepmjkbmjmaaGreatDoor
open Go.V
section
variable {w:World} {L:List Asn} {g:GramT} {x:GA} {ss:List SQ}
end
end Go.Proofs.YtndaepmjkbmjmaaGreatDoor
set_option linter.unusedVariables false
set_option maxRecDepth 4000
namespace Go.Proofs.YtndaepmjkbmjmaaGreatDoor
open Go.V
section
variable {w:World} {L:List Asn} {g:GramT} {x:GA} {ss:List SQ}
end
end Go.Proofs.YtndaepmjkbmjmaaGreatDoor
set_option linter.unusedVariables false
set_option maxRecDepth 4000
namespace Go.Proofs.YtndaepmjkbmjmaaGreatDoor
open Go.V
section
variable {w:World} {L:List Asn} {g:GramT} {x:GA} {ss:List SQ} {a:Option Addr} {l c:Nat} {row:List Int}
end
end Go.Proofs.YtndaepmjkbmjmaaGreatDoor
set_option linter.unusedVariables false
set_option maxRecDepth 4000
namespace Go.V
theorem AsR.es {h:Hp} {g:GramT} {ss ss' : List SQ} {nn:List Bool} {k:Nat} (r:AsR h g ss nn k) (e:esOf ss = esOf ss'):AsR h g ss' nn k:=by
  obtain ⟨x,ol,cl,on,cn,h1,h2,h3,h4⟩:=r.ex
  rw [TrL_es e] at h1 h3
  exact ⟨x,ol,cl,on,cn,h1,h2,h3,h4⟩
end Go.V
namespace Go.Proofs.YtndaepmjkbmjmaaGreatDoor
open Go.V
variable {w:World} {L:List Asn} {g:GramT} {x:GA}
end Go.Proofs.YtndaepmjkbmjmaaGreatDoor

set_option linter.unusedVariables false
set_option maxRecDepth 4000
namespace Go.V
abbrev wdC (x:GA) (o:Option Addr) (n c:Nat) (a int:Int) (ol:Option Addr) (nl cl:Nat) (on:Option Addr) (nn cn:Nat):List Value:=x.cells ++ [.slice o n c,.int .i64 a,.int .i64 int,.slice ol nl cl,.slice on nn cn]
structure DwR (h:Hp) (g:GramT) (ss:List SQ) (nn:List Bool) (k:Nat):Prop where
  ex:∃ (x:GA) (o:Option Addr) (c:Nat) (a int:Int) (ol:Option Addr) (cl:Nat) (on:Option Addr) (cn:Nat),rowH h (aM k) (wdC x o ss.length c a int ol (TrL g ss).length cl on g.N cn)∧gR h g x∧stRd h ss o∧rdS h (TrL g ss) ol (TrL g ss).length∧rdS h nn on g.N
theorem DwR.mono {h h' : Hp} {g:GramT} {ss:List SQ} {nn:List Bool} {k:Nat} (s:sub h h') (r:DwR h g ss nn k):DwR h' g ss nn k:=by
  obtain ⟨x,o,c,a,int,ol,cl,on,cn,h1,h2,h3,h4,h5⟩:=r.ex
  exact ⟨x,o,c,a,int,ol,cl,on,cn,h1.mono s,h2.mono s,h3.mono s,h4.mono s,h5.mono s⟩
def RowsC (n:Nat) (f:Nat→List Int) (k:Nat) (L:List Asn) (w:World):Prop:=∃ es:List (Lq Int),es.length = n∧(∀ j q,es[j]? = some q→q.2 = f j)∧St w (cel k (es.map slQ) :: sta (es.map (owQ 1 iv)) :: L)
theorem RowsC.gr {n k:Nat} {f:Nat→List Int} {L:List Asn} {w w' : World} (h:RowsC n f k L w) (g:Gr w w'):RowsC n f k L w':=by
  obtain ⟨es,h1,h2,h3⟩:=h
  exact ⟨es,h1,h2,h3.gr g⟩
theorem RowsC.gw {n k:Nat} {f:Nat→List Int} {w0 w:World} (h:RowsC n f k (all w0) w):Gr w0 w:=by
  obtain ⟨es,h1,h2,h3⟩:=h
  exact rdH 2 h3.l
theorem RowsC.iff {n k:Nat} {f f' : Nat→List Int} {L:List Asn} {w:World} (h:RowsC n f k L w) (e:∀ j,j < n→f j = f' j):RowsC n f' k L w:=by
  obtain ⟨es,h1,h2,h3⟩:=h
  refine ⟨es,h1,fun j q hq=>?_,h3⟩
  rw [h2 j q hq,e j (by rw [← h1]; exact (List.getElem?_eq_some_iff.1 hq).1)]
theorem RowsC.take {n k i:Nat} {f:Nat→List Int} {L:List Asn} {w:World} (h:RowsC n f k L w) (hi:i < n):∃ (q:Lq Int) (es:List (Lq Int)),q.2 = f i∧es.length = n∧(es.map slQ)[i]? = some (slQ q)∧St w (own 1 q.1.1 q.2.length q.1.2 (iv q.2) :: sta ((es.map (owQ 1 iv)).eraseIdx i) :: cel k (es.map slQ) :: L) ∧
    ∀ (w' : World) (L' : List Asn) (o:Option Addr) (c:Nat) (xs:List Int),St w' (own 1 o xs.length c (iv xs) :: sta ((es.map (owQ 1 iv)).eraseIdx i) :: cel k ((es.map slQ).set i (.slice o xs.length c)) :: L')→RowsC n (fun j=>if j = i then xs else f j) k L' w':=by
  obtain ⟨es,h1,h2,h3⟩:=h
  obtain ⟨q,hq⟩ : ∃ q,es[i]? = some q:=⟨_,List.getElem?_eq_getElem (by omega)⟩
  have hA:(es.map (owQ 1 iv))[i]? = some (owQ 1 iv q):=by rw [List.getElem?_map,hq]; rfl
  refine ⟨q,es,h2 i q hq,h1,by rw [List.getElem?_map,hq]; rfl,?_,fun w' L' o c xs h=>?_⟩
  · have h:=St.out (h3.pick 2 [1,0]) hA
    exact h
  · refine ⟨es.set i ((o,c),xs),by rw [List.length_set]; exact h1,fun j r hr=>?_,?_⟩
    · by_cases e:i = j
      · subst e
        rw [List.getElem?_set_self (by omega)] at hr
        cases hr
        show xs = if i = i then xs else f i
        rw [if_pos rfl]
      · rw [List.getElem?_set_ne e] at hr
        show r.2 = if j = i then xs else f j
        rw [if_neg (Ne.symm e)]
        exact h2 j r hr
    · have h:=St.back (B:=own 1 o xs.length c (iv xs)) h hA
      rw [show own 1 o xs.length c (iv xs) = owQ 1 iv (((o,c),xs):Lq Int) from rfl,← List.map_set,show (.slice o xs.length c:Value) = slQ (((o,c),xs):Lq Int) from rfl,← List.map_set] at h
      exact h.pick 2 [1,0]
theorem RowsC.start {n k:Nat} {L:List Asn} {w:World} (h:St w (cel k ((List.replicate n (((none,0),[]):Lq Int)).map slQ) :: L)):RowsC n (fun _=>[]) k L w:=by
  have h:=sta_reps (A:=owQ 1 iv (((none,0),[]):Lq Int)) (fun w L h=>own_nil 1 h) n h
  rw [← List.map_replicate] at h
  refine ⟨_,by simp,fun j q hq=>?_,h.pick 2 [1,0]⟩
  rw [List.getElem?_replicate] at hq
  split at hq
  · cases hq; rfl
  · cases hq
theorem RowsC.fin {n k:Nat} {f:Nat→List Int} {L:List Asn} {w:World} (h:RowsC n f k L w):∃ ds:List (Lq Int),ds.length = n∧ds.map (·.2) = (List.range n).map f∧St w (own 1 (some (aM k)) n n (ds.map slQ) :: sta (ds.map (owQ 1 iv)) :: L):=by
  obtain ⟨es,h1,h2,h3⟩:=h
  refine ⟨es,h1,?_,own_some (cs:=[]) (by rw [List.append_nil]; exact h3) (by simp [h1]) (by simp [h1]) (Nat.le_refl _)⟩
  apply List.ext_getElem?
  intro i
  rw [List.getElem?_map,List.getElem?_map]
  by_cases hi:i < n
  · have hd:es[i]? = some es[i]:=List.getElem?_eq_getElem (by omega)
    rw [hd,List.getElem?_range hi]
    exact congrArg some (h2 i _ hd)
  · rw [List.getElem?_eq_none (by omega),List.getElem?_eq_none (by simp; omega)]; rfl
end Go.V
namespace Go.Proofs.YtndaepmjkbmjmaaGreatDoor
open Go.V
variable {w:World} {L:List Asn} {g:GramT} {x:GA} {ss:List SQ} {nn:List Bool}
end Go.Proofs.YtndaepmjkbmjmaaGreatDoor
set_option linter.unusedVariables false
set_option maxRecDepth 4000
namespace Go.V
theorem rowH_drop {h:Hp} {a:Addr} {vs:List Value} (r:rowH h a vs) (n:Nat):rowH h (a.add n) (vs.drop n):=fun j v hv=>by
  rw [List.getElem?_drop] at hv
  rw [add_add]
  exact r _ v hv
theorem DwR.aut {h:Hp} {k:Nat} {x:GA} {o ol on:Option Addr} {n c nl cl nN cn:Nat} {a int:Int} (r:rowH h (aM k) (wdC x o n c a int ol nl cl on nN cn)):rowH h ((aM k).add 5) [.slice o n c,.int .i64 a,.int .i64 int] :=
  rowH_pre (us:=[.slice ol nl cl,.slice on nN cn]) (rowH_drop r 5)
end Go.V
namespace Go.Proofs.YtndaepmjkbmjmaaGreatDoor
open Go.V
variable {w:World} {L:List Asn} {g:GramT} {x:GA} {ss:List SQ} {nn:List Bool}
end Go.Proofs.YtndaepmjkbmjmaaGreatDoor
set_option linter.unusedVariables false
set_option maxRecDepth 4000
namespace Go.V
end Go.V
namespace Go.Proofs.YtndaepmjkbmjmaaGreatDoor
open Go.V
variable {w:World} {L:List Asn} {g:GramT} {x:GA} {ss:List SQ} {nn:List Bool}
end Go.Proofs.YtndaepmjkbmjmaaGreatDoor
set_option linter.unusedVariables false
set_option maxRecDepth 4000
namespace Go.V
def RowsD (n:Nat) (P:Nat→Int→Prop) (B k:Nat) (L:List Asn) (w:World):Prop:=∃ f:Nat→List Int,(∀ j,j < n→Rise (f j)∧(∀ z,z∈f j↔P j z)∧(f j).length≤B)∧RowsC n f k L w
theorem RowsD.gr {n B k:Nat} {P:Nat→Int→Prop} {L:List Asn} {w w' : World} (h:RowsD n P B k L w) (g:Gr w w'):RowsD n P B k L w':=by
  obtain ⟨f,h1,h2⟩:=h
  exact ⟨f,h1,h2.gr g⟩
theorem RowsD.gw {n B k:Nat} {P:Nat→Int→Prop} {w0 w:World} (h:RowsD n P B k (all w0) w):Gr w0 w:=by
  obtain ⟨f,h1,h2⟩:=h
  exact h2.gw
theorem RowsD.iff {n B k:Nat} {P Q:Nat→Int→Prop} {L:List Asn} {w:World} (h:RowsD n P B k L w) (e:∀ j z,j < n→(P j z↔Q j z)):RowsD n Q B k L w:=by
  obtain ⟨f,h1,h2⟩:=h
  exact ⟨f,fun j hj=>⟨(h1 j hj).1,fun z=>by rw [(h1 j hj).2.1 z,e j z hj],(h1 j hj).2.2⟩,h2⟩
end Go.V
namespace Go.Proofs.YtndaepmjkbmjmaaGreatDoor
open Go.V
variable {w:World} {L:List Asn} {g:GramT} {x:GA} {ss:List SQ} {nn:List Bool}
end Go.Proofs.YtndaepmjkbmjmaaGreatDoor
set_option linter.unusedVariables false
set_option maxRecDepth 4000
namespace Go.V
section
variable {g:GramT} {ss:List SQ}
end
end Go.V
namespace Go.Proofs.YtndaepmjkbmjmaaGreatDoor
open Go.V
variable {w:World} {L:List Asn} {g:GramT} {x:GA} {ss:List SQ} {nn:List Bool}
end Go.Proofs.YtndaepmjkbmjmaaGreatDoor
set_option linter.unusedVariables false
set_option maxRecDepth 4000
namespace Go.V
end Go.V
namespace Go.Proofs.YtndaepmjkbmjmaaGreatDoor
open Go.V
variable {w:World} {L:List Asn} {a a2:Option Addr} {l c c2:Nat}
end Go.Proofs.YtndaepmjkbmjmaaGreatDoor
set_option linter.unusedVariables false
set_option maxRecDepth 4000
namespace Go.Proofs.YtndaepmjkbmjmaaGreatDoor
open Go.V
variable {w:World} {L:List Asn} {g:GramT} {x:GA}
end Go.Proofs.YtndaepmjkbmjmaaGreatDoor
set_option linter.unusedVariables false
set_option maxRecDepth 4000
namespace Go.V
open Go.Proofs.YtndaepmjkbmjmaaGreatDoor
inductive Rdw (g:GramT) (ss:List SQ):Nat→Nat→Prop
  | now (j x:Nat):x < g.T→(nxt ss j (x:Int)).isSome→Rdw g ss j x
  | via (j k x:Nat) (s:Int):(g.T:Int)≤s→Nul g s→nxt ss j s = some (k:Int)→Rdw g ss k x→Rdw g ss j x
section
variable {g:GramT} {nn:List Bool} {ss:List SQ}
theorem aft_at {n m:Nat} {p:ProdT} (hp:g.prods[n]? = some p):aft g ⟨(n:Int),(m:Int)⟩ = p.right.getD m (-1):=by
  rw [aft_some (p:=p) (by show g.prods[(n:Int).toNat]? = _; rw [Int.toNat_natCast]; exact hp)]
  rfl
theorem aft_get {n m:Nat} {p:ProdT} {s:Int} (hp:g.prods[n]? = some p) (hs:p.right[m]? = some s):aft g ⟨(n:Int),(m:Int)⟩ = s:=by
  rw [aft_at hp,List.getD_eq_getElem?_getD,hs]; rfl
theorem vanB_iff (hn:NnP g nn) {s:Int} (h:(g.T:Int)≤s):vanB g nn s = true↔Nul g s:=by
  unfold vanB
  rw [decide_eq_true h,Bool.true_and,hn.2,show ((g.T + (s.toNat - g.T):Nat):Int) = s by omega]
def rest (g:GramT) (y:ItemT):List Int:=match g.prods[y.prod.toNat]? with
  | some p=>p.right.drop y.dot.toNat
  | none=>[]
theorem aft_rest {y:ItemT} (h:0≤aft g y):∃ p,g.prods[y.prod.toNat]? = some p∧p.right[y.dot.toNat]? = some (aft g y)∧rest g y = aft g y :: p.right.drop (y.dot.toNat + 1):=by
  unfold aft at h ⊢
  unfold rest
  cases hp:g.prods[y.prod.toNat]? with
  | none=>rw [hp] at h; simp at h
  | some p =>
    rw [hp] at h
    simp only at h ⊢
    have hl:y.dot.toNat < p.right.length:=by
      refine Nat.lt_of_not_le fun hh=>?_
      rw [List.getD_eq_getElem?_getD,List.getElem?_eq_none hh] at h
      simp at h
    rw [List.getD_eq_getElem?_getD,List.getElem?_eq_getElem hl]
    exact ⟨p,rfl,List.getElem?_eq_getElem hl,List.drop_eq_getElem_cons hl⟩
theorem FstR.head {s:Int} {l:List Int} {x:Nat} (h:Fst g s x):FstR g (s :: l) x:=⟨0,s,rfl,by simp,h⟩
theorem FstR.skip {s:Int} {l:List Int} {x:Nat} (h:Nul g s) (hl:FstR g l x):FstR g (s :: l) x:=by
  obtain ⟨i,y,h1,h2,h3⟩:=hl
  refine ⟨i + 1,y,h1,fun z hz=>?_,h3⟩
  rw [List.take_succ_cons] at hz
  rcases List.mem_cons.1 hz with rfl | hz
  · exact h
  · exact h2 z hz
theorem FstR.left {p:ProdT} {x:Nat} (hp:p∈g.prods) (h:FstR g p.right x):Fst g p.left x:=by
  obtain ⟨i,s,h1,h2,h3⟩:=h
  exact .pr p i s x hp h1 h2 h3
end
end Go.V
set_option linter.unusedVariables false
set_option maxRecDepth 4000
namespace Go.V
open Go.Proofs.YtndaepmjkbmjmaaGreatDoor
inductive Fol (g:GramT):Int→Nat→Prop
  | st:Fol g (g.T:Int) 0
  | fst (p:ProdT) (k:Nat) (s:Int) (x:Nat):p∈g.prods→p.right[k]? = some s→FstR g (p.right.drop (k + 1)) x→Fol g s x
  | up (p:ProdT) (k:Nat) (s:Int) (x:Nat):p∈g.prods→p.right[k]? = some s→NulR g (p.right.drop (k + 1))→Fol g p.left x→Fol g s x
section
variable {g:GramT} {nn:List Bool} {ss:List SQ}
theorem dirL_at {v:Nat} {t:TransT} (ht:(TrL g ss)[v]? = some t):(DirL g ss).getD v [] = dirOf g ss t:=by
  unfold DirL; rw [List.getD_eq_getElem?_getD,List.getElem?_map,ht]; rfl
theorem en_row {n:Nat} {f:Nat→Nat→Bool} {v m:Nat}:m∈En ((List.range n).map fun i=>rowF n (f i)) v↔v < n∧m < n∧f v m = true:=by
  unfold En
  rw [List.getD_eq_getElem?_getD]
  by_cases hv:v < n
  · rw [List.getElem?_map,List.getElem?_range hv]
    simp only [Option.map_some,Option.getD_some,List.mem_map]
    constructor
    · rintro ⟨z,hz,rfl⟩
      obtain ⟨k,rfl,h1,h2⟩:=rowF_mem.1 hz
      exact ⟨hv,h1,h2⟩
    · rintro ⟨_,h1,h2⟩
      exact ⟨(m:Int),rowF_mem.2 ⟨m,rfl,h1,h2⟩,rfl⟩
  · rw [List.getElem?_eq_none (by simp; omega)]
    simp
    omega
theorem en_rds {v m:Nat}:m∈En (RdsL g nn ss) v↔v < (TrL g ss).length∧m < (TrL g ss).length∧readB g nn ss v m = true:=en_row
theorem trl_at {v:Nat} {t:TransT} (hc:ClosedP g) (hA:AutI g ss) (ht:(TrL g ss)[v]? = some t):∃ (i j:Nat) (q r:SQ),t.st = i∧ss[i]? = some q∧(g.T:Int)≤t.sym∧nxt ss i t.sym = some (j:Int)∧1≤j∧ss[j]? = some r∧r.1.2 = kern g q.1.2 t.sym:=by
  obtain ⟨i,q,k,e,hi,hq,he,hge,rfl⟩:=TrN_mem (List.mem_of_getElem? ht)
  obtain ⟨_,_,j,r,hj,hj1,hr,hrk,_⟩:=aut_edge hc hA hq he
  exact ⟨i,j,q,r,rfl,hq,hge,by rw [← hj]; exact nxt_edge hA hq he,hj1,hr,hrk⟩
theorem trl_of {i:Nat} {s j:Int} (h:nxt ss i s = some j) (hs:(g.T:Int)≤s):∃ v:Nat,(TrL g ss)[v]? = some ⟨(i:Int),s⟩:=by
  obtain ⟨q,k,e,hq,he,rfl,_⟩:=nxt_inv h
  exact ⟨_,TrL_at hq he hs⟩
theorem dir_iff (hc:ClosedP g) (hA:AutI g ss) {v i j x:Nat} {t:TransT} (ht:(TrL g ss)[v]? = some t) (hi:t.st = i) (hj:nxt ss i t.sym = some (j:Int)):(x:Int)∈(DirL g ss).getD v []↔(t = ⟨0,g.start⟩∧x = 0)∨(x < g.T∧(nxt ss j (x:Int)).isSome):=by
  have hc':=hc.sizes
  obtain ⟨i',j',q,r,h1,h2,h3,h4,h5,h6,_⟩:=trl_at hc hA ht
  have:i' = i:=by omega
  subst this
  rw [hj] at h4
  have:j = j':=by have:=Option.some.inj h4; omega
  subst this
  rw [dirL_at ht,dirOf_eq (j:=j) (q:=r) (by rw [hi]; exact hj) h6,List.mem_append,flT_eq hA h6,List.mem_map]
  refine or_congr ?_ ?_
  · unfold preT
    by_cases e:t = ⟨0,g.start⟩
    · rw [if_pos e]; simp [e]
    · rw [if_neg e]; simp [e]
  · constructor
    · rintro ⟨y,hy,e⟩
      have:y = x:=by have e:(y:Int) = x:=e; omega
      subst this
      obtain ⟨h7,h8⟩:=List.mem_filter.1 hy
      have h7:=List.mem_range.1 h7
      exact ⟨h7,by rw [nxt_kern hA h6 (by omega)]; exact h8⟩
    · rintro ⟨h7,h8⟩
      rw [nxt_kern hA h6 (by omega)] at h8
      exact ⟨x,List.mem_filter.2 ⟨List.mem_range.2 h7,h8⟩,rfl⟩
theorem Rdw.has (hc:ClosedP g) (hA:AutI g ss) (hn:NnP g nn) {j x:Nat} (h:Rdw g ss j x):∀ (v i:Nat) t,(TrL g ss)[v]? = some t→t.st = i→nxt ss i t.sym = some (j:Int)→HasP (RdsL g nn ss) (DirL g ss) v x:=by
  induction h with
  | now j x hx hs=>exact fun v i t ht hi hj=>HasP.iff.2 (.inl ((dir_iff hc hA ht hi hj).2 (.inr ⟨hx,hs⟩)))
  | via j k x s hs hnu hk hr ih =>
    intro v i t ht hi hj
    obtain ⟨u,hu⟩:=trl_of (g:=g) hk hs
    refine HasP.iff.2 (.inr ⟨u,en_rds.2 ⟨(List.getElem?_eq_some_iff.1 ht).1,(List.getElem?_eq_some_iff.1 hu).1,?_⟩,ih u j _ hu rfl hk⟩)
    unfold readB
    rw [ht,hu]
    simp only [Bool.and_eq_true,decide_eq_true_eq]
    rw [hi]
    exact ⟨hj,(vanB_iff hn hs).2 hnu⟩
end
end Go.V
set_option linter.unusedVariables false
set_option maxRecDepth 4000
namespace Go.V
open Go.Proofs.YtndaepmjkbmjmaaGreatDoor
section
variable {g:GramT} {nn:List Bool} {ss:List SQ} {w w' : World} {v:Value} {a i f:Int}
theorem Tells.at {F:GramT→List Bool→List SQ→List (List Int)} (hF:RowF F) (hR:Res g ss a i f) (hn:f = 0→NnP g nn) (h:Tells F g w v w'):∃ (o:Option Addr) (c:Nat),v = .tuple #[.slice o (TrL g ss).length c,.int .i64 f]∧rdS (hp w') (F g nn ss) o (TrL g ss).length∧Gr w w':=by
  obtain ⟨ss2,ask,int,f2,nn2,o,c,ds,rfl,hR2,hn2,hds,h⟩:=h
  obtain ⟨_,hes,_,_,rfl,_⟩:=hR.one hR2
  have e:F g nn2 ss2 = F g nn ss:=by
    by_cases hf:f = 0
    · rw [(hn2 hf).inj (hn hf),hF.es hes]
    · rw [hR.nil hf,hR2.nil hf,hF.nil,hF.nil]
  rw [e] at hds
  have hl:ds.length = (TrL g ss).length:=by have:=congrArg List.length hds; rw [List.length_map,hF.ln] at this; exact this
  have r:=rdLq h
  rw [hds,hl] at r
  exact ⟨o,c,by rw [hl],r,rdH 2 h.l⟩
theorem look_mem {fs:List (List Int)} {b:BackT} {z:Int}:z∈(lookOf g fs b).tm↔∃ x:Nat,z = x∧x < g.T∧∃ t∈b.tr,(x:Int)∈fs.getD t.toNat []:=by
  unfold lookOf
  rw [rowF_mem]
  simp
theorem look_rise {fs:List (List Int)} {b:BackT}:Rise (lookOf g fs b).tm:=rowF_rise _ _
theorem look_len {fs:List (List Int)} {b:BackT}:(lookOf g fs b).tm.length≤g.T:=rowF_len _ _
end
end Go.V
namespace Go.Proofs.YtndaepmjkbmjmaaGreatDoor
open Go.V
variable {w:World} {L:List Asn} {g:GramT} {x:GA} {ss:List SQ} {nn:List Bool} {a i f:Int}
end Go.Proofs.YtndaepmjkbmjmaaGreatDoor
set_option linter.unusedVariables false
set_option maxRecDepth 4000
namespace Go.V
section
variable {n k i j:Nat} {f f0:Nat→List Int} {L:List Asn} {A:Asn} {w w' w0:World}
theorem RowsC.eq (h:RowsC n f k L w) (e:hp w' = hp w):RowsC n f k L w':=by
  obtain ⟨es,h1,h2,h3⟩:=h
  exact ⟨es,h1,h2,h3.eq e⟩
theorem RowsC.tail (h:RowsC n f k (A :: L) w):RowsC n f k L w:=by
  obtain ⟨es,h1,h2,h3⟩:=h
  exact ⟨es,h1,h2,(h3.pick 3 [2,0,1]).tail⟩
theorem RowsC.on1 (h:RowsC n f k L w) (h1:St w' (A :: all w)):RowsC n f k (A :: L) w':=by
  obtain ⟨es,q1,q2,q3⟩:=h
  exact ⟨es,q1,q2,(h1.on1 q3).pick 3 [1,2,0]⟩
theorem RowsC.cell (h:RowsC n f k L w) (hi:i < n):∃ (o:Option Addr) (c:Nat),w.cell? ((aM k).add i) = some (.slice o (f i).length c):=by
  obtain ⟨q,es,e1,_,e3,h,_⟩:=h.take hi
  refine ⟨q.1.1,q.1.2,?_⟩
  rw [← e1]
  exact (rdCel 2 h.l).cell (sub.refl _) e3
def upF (f:Nat→List Int) (i:Nat) (xs:List Int):Nat→List Int:=fun j=>if j = i then xs else f j
theorem upF_self {xs:List Int}:upF f i xs i = xs:=by unfold upF; rw [if_pos rfl]
theorem upF_ne {xs:List Int} (h:j≠i):upF f i xs j = f j:=by unfold upF; rw [if_neg h]
def totL (n:Nat) (f:Nat→List Int):Nat:=((List.range n).map fun j=>(f j).length).sum
theorem totL_succ:totL (n + 1) f = totL n f + (f n).length:=by
  unfold totL; rw [List.range_succ,List.map_append,List.sum_append]; simp
theorem totL_up {xs:List Int}:∀ {n:Nat},i < n→totL n (upF f i xs) + (f i).length = totL n f + xs.length
  | n + 1,h=>by
    rw [totL_succ,totL_succ]
    by_cases e:i = n
    · subst e
      rw [upF_self]
      have:∀ m,m≤i→totL m (upF f i xs) = totL m f:=by
        intro m
        induction m with
        | zero=>intro _; rfl
        | succ m ih =>
          intro hm
          rw [totL_succ,totL_succ,ih (by omega),upF_ne (by omega)]
      rw [this i (Nat.le_refl _)]
      omega
    · rw [upF_ne (fun h=>e h.symm)]
      have:=totL_up (xs:=xs) (n:=n) (by omega)
      omega
theorem rise_nd {l:List Int} (h:Rise l):l.Nodup:=List.nodup_iff_pairwise_ne.2 (h.imp fun h e=>by omega)
theorem rise_bound {l:List Int} {B:Nat} (h:Rise l) (hb:∀ z∈l,0≤z∧z < B):l.length≤B:=by
  have e:l = rowF B fun k=>decide ((k:Int)∈l):=by
    refine rise_eq h (rowF_rise _ _) fun z=>?_
    rw [rowF_mem]
    constructor
    · intro hz
      have:=hb z hz
      exact ⟨z.toNat,by omega,by omega,by rw [decide_eq_true_eq,show ((z.toNat:Nat):Int) = z by omega]; exact hz⟩
    · rintro ⟨k,rfl,_,hk⟩
      exact of_decide_eq_true hk
  rw [e]
  exact rowF_len _ _
theorem nd_sub:∀ {l m:List Int},l.Nodup→(∀ z∈l,z∈m)→l.length≤m.length
  | [],_,_,_=>Nat.zero_le _
  | a :: l,m,h,hs=>by
    obtain ⟨h1,h2⟩:=List.nodup_cons.1 h
    have h3:=nd_sub (m:=m.erase a) h2 fun z hz=>(List.mem_erase_of_ne (fun e=>h1 (by rw [← e]; exact hz))).2 (hs z (by simp [hz]))
    have h4:=List.length_erase_of_mem (hs a (by simp))
    have h5:=List.length_pos_of_mem (hs a (by simp))
    simp only [List.length_cons]
    omega
theorem rise_len {l m:List Int} (h:Rise l) (hs:∀ z∈l,z∈m):l.length≤m.length:=nd_sub (rise_nd h) hs
theorem rise_same {l m:List Int} (h:Rise l) (hm:Rise m) (hs:∀ z∈l,z∈m) (hl:m.length≤l.length):l = m:=by
  refine rise_eq h hm fun z=>⟨hs z,fun hz=>Classical.byContradiction fun hn=>?_⟩
  have:=nd_sub (l:=z :: l) (m:=m) (List.nodup_cons.2 ⟨hn,rise_nd h⟩) fun y hy=>by
    rcases List.mem_cons.1 hy with rfl | hy
    · exact hz
    · exact hs y hy
  simp only [List.length_cons] at this
  omega
structure Grew (n:Nat) (f0 f:Nat→List Int) (b:Bool):Prop where
  le:totL n f0≤totL n f
  yes:b = true→totL n f0 < totL n f
  no:b = false→∀ j,j < n→f j = f0 j
theorem Grew.start:Grew n f0 f0 false:=⟨Nat.le_refl _,fun h=>(by cases h),fun _ _ _=>rfl⟩
theorem Grew.step {b:Bool} {xs:List Int} (h:Grew n f0 f b) (hi:i < n) (hr:Rise (f i)) (hx:Rise xs) (hs:∀ z∈f i,z∈xs):Grew n f0 (upF f i xs) (b || decide ((f i).length < xs.length)):=by
  have h1:=totL_up (f:=f) (xs:=xs) hi
  have h2:=rise_len hr hs
  have h3:=h.le
  refine ⟨by omega,fun hb=>?_,fun hb j hj=>?_⟩
  · rw [Bool.or_eq_true,decide_eq_true_eq] at hb
    rcases hb with hb | hb
    · have:=h.yes hb; omega
    · omega
  · rw [Bool.or_eq_false_iff,decide_eq_false_iff_not] at hb
    have e:=rise_same hr hx hs (by omega)
    by_cases e2:j = i
    · subst e2
      rw [upF_self,← e]
      exact h.no hb.1 j hj
    · rw [upF_ne e2]
      exact h.no hb.1 j hj
end
end Go.V
set_option linter.unusedVariables false
set_option maxRecDepth 4000
namespace Go.V
section
variable {α : Type} {k:α→Int} {l m:List α}
abbrev SrK (k:α→Int) (l:List α):Prop:=l.Pairwise fun x y=>k x≤k y
theorem srk_app:SrK k (l ++ m)↔SrK k l∧SrK k m∧∀ x∈l,∀ y∈m,k x≤k y:=List.pairwise_append
theorem srk_last (h:SrK k l) {z:α} (hz:l.getLast? = some z):∀ x∈l,k x≤k z:=fun x hx=>by
  obtain ⟨i,hi⟩:=List.getElem?_of_mem hx
  rw [List.getLast?_eq_getElem?] at hz
  have h1:=(List.getElem?_eq_some_iff.1 hi).1
  by_cases e:i = l.length - 1
  · subst e; rw [hi] at hz; cases hz; omega
  · obtain ⟨h2,rfl⟩:=List.getElem?_eq_some_iff.1 hi
    obtain ⟨h3,rfl⟩:=List.getElem?_eq_some_iff.1 hz
    exact List.pairwise_iff_getElem.1 h i _ h2 h3 (by omega)
theorem srk_head (h:SrK k l) {z:α} (hz:l.head? = some z):∀ x∈l,k z≤k x:=fun x hx=>by
  cases l with
  | nil=>cases hx
  | cons a l =>
    cases hz
    rcases List.mem_cons.1 hx with rfl | hx
    · omega
    · exact (List.pairwise_cons.1 h).1 x hx
theorem srk_cross (hl:SrK k l) (hm:SrK k m) (h:∀ x y,l.getLast? = some x→m.head? = some y→k x≤k y):∀ x∈l,∀ y∈m,k x≤k y:=fun x hx y hy=>by
  obtain ⟨a,ha⟩ : ∃ a,l.getLast? = some a:=⟨_,List.getLast?_eq_some_getLast (List.ne_nil_of_mem hx)⟩
  obtain ⟨b,hb⟩ : ∃ b,m.head? = some b:=⟨_,List.head?_eq_some_head (List.ne_nil_of_mem hy)⟩
  have h1:=srk_last hl ha x hx
  have h2:=srk_head hm hb y hy
  have h3:=h a b ha hb
  omega
theorem srk_halves {L1 L2 R1 R2 S1 S2:List α} (hL:SrK k (L1 ++ L2)) (hR:SrK k (R1 ++ R2)) (h1:∀ x y,L1.getLast? = some x→R2.head? = some y→k x≤k y) (h2:∀ x y,R1.getLast? = some x→L2.head? = some y→k x≤k y)
    (p1:S1.Perm (L1 ++ R1)) (s1:SrK k S1) (p2:S2.Perm (L2 ++ R2)) (s2:SrK k S2):SrK k (S1 ++ S2)∧(S1 ++ S2).Perm ((L1 ++ L2) ++ (R1 ++ R2)):=by
  obtain ⟨a1,a2,a3⟩:=srk_app.1 hL
  obtain ⟨b1,b2,b3⟩:=srk_app.1 hR
  have c1:=srk_cross a1 b2 h1
  have c2:=srk_cross b1 a2 h2
  refine ⟨srk_app.2 ⟨s1,s2,fun x hx y hy=>?_⟩,?_⟩
  · rcases List.mem_append.1 (p1.mem_iff.1 hx) with hx | hx <;> rcases List.mem_append.1 (p2.mem_iff.1 hy) with hy | hy
    · exact a3 x hx y hy
    · exact c1 x hx y hy
    · exact c2 x hx y hy
    · exact b3 x hx y hy
  · refine (p1.append p2).trans ?_
    rw [List.append_assoc,List.append_assoc]
    refine List.Perm.append_left _ ?_
    rw [← List.append_assoc,← List.append_assoc]
    exact List.Perm.append_right _ List.perm_append_comm
theorem srk_put {R1 R2:List α} {x:α} (hR:SrK k (R1 ++ R2)) (h1:∀ y,R1.getLast? = some y→k y≤k x) (h2:∀ y,R2.head? = some y→k x≤k y):SrK k (R1 ++ x :: R2):=by
  obtain ⟨b1,b2,b3⟩:=srk_app.1 hR
  refine srk_app.2 ⟨b1,List.pairwise_cons.2 ⟨fun y hy=>?_,b2⟩,fun y hy z hz=>?_⟩
  · exact srk_cross (l:=[x]) (List.pairwise_singleton _ _) b2 (fun a b ha hb=>by cases ha; exact h2 b hb) x (by simp) y hy
  · rcases List.mem_cons.1 hz with rfl | hz
    · exact srk_cross b1 (m:=[z]) (List.pairwise_singleton _ _) (fun a b ha hb=>by cases hb; exact h1 a ha) y hy z (by simp)
    · exact b3 y hy z hz
theorem set_swap {P M Q:List α} {x y:α} {i j:Nat} (hi:i = P.length) (hj:j = P.length + 1 + M.length):((P ++ x :: (M ++ y :: Q)).set i y).set j x = P ++ y :: (M ++ x :: Q):=by
  subst hi hj
  rw [List.set_append_right _ _ (Nat.le_refl _),Nat.sub_self,List.set_cons_zero,List.set_append_right _ _ (by omega),show P.length + 1 + M.length - P.length = M.length + 1 by omega,List.set_cons_succ,List.set_append_right _ _ (Nat.le_refl _),Nat.sub_self,List.set_cons_zero]
theorem get_mid {P Q:List α} {x:α} {i:Nat} (hi:i = P.length):(P ++ x :: Q)[i]? = some x:=by
  subst hi; rw [List.getElem?_append_right (Nat.le_refl _),Nat.sub_self]; rfl
end
end Go.V
set_option linter.unusedVariables false
set_option maxRecDepth 4000
namespace Go.V
open Go.Proofs.YtndaepmjkbmjmaaGreatDoor
structure ActT where
  kind:Int
  to:Int
deriving DecidableEq
instance:Inhabited ActT:=⟨⟨0,0⟩⟩
structure PlcT where
  st:Int
  tm:Int
deriving DecidableEq
structure CellT where
  st:Int
  tm:Int
  acts:List ActT
deriving DecidableEq
instance:Inhabited CellT:=⟨⟨0,0,[]⟩⟩
section
variable {g:GramT} {nn:List Bool} {ss ss' : List SQ} {α : Type}
def shL (ss:List SQ) (q t:Nat):List ActT:=match nxt ss q (t:Int) with
  | some j=>[⟨1,j⟩]
  | none=>[]
def acL (ss:List SQ) (q t:Nat):List ActT:=match ss[q]? with
  | some r=>if t = 0∧(⟨0,1⟩ : ItemT)∈r.1.2 then [⟨3,0⟩] else []
  | none=>[]
def reL (ls:List LookT) (q t:Nat):List ActT:=(ls.filter fun l=>decide (l.st = (q:Int)) && decide ((t:Int)∈l.tm)).map fun l=>⟨2,l.prod⟩
noncomputable def actL (g:GramT) (nn:List Bool) (ss:List SQ) (q t:Nat):List ActT:=shL ss q t ++ acL ss q t ++ reL (LooksL g nn ss) q t
noncomputable def cellAt (g:GramT) (nn:List Bool) (ss:List SQ) (least q t:Nat):List CellT:=if least≤(actL g nn ss q t).length then [⟨(q:Int),(t:Int),actL g nn ss q t⟩] else []
noncomputable def cellR (g:GramT) (nn:List Bool) (ss:List SQ) (least q n:Nat):List CellT:=(List.range n).flatMap (cellAt g nn ss least q)
noncomputable def cellN (g:GramT) (nn:List Bool) (ss:List SQ) (least n:Nat):List CellT:=(List.range n).flatMap fun q=>cellR g nn ss least q g.T
noncomputable def cellL (g:GramT) (nn:List Bool) (ss:List SQ) (least:Nat):List CellT:=cellN g nn ss least ss.length
theorem cellR_succ {least q n:Nat}:cellR g nn ss least q (n + 1) = cellR g nn ss least q n ++ cellAt g nn ss least q n:=by unfold cellR; rw [List.range_succ,List.flatMap_append]; simp
theorem cellN_succ {least n:Nat}:cellN g nn ss least (n + 1) = cellN g nn ss least n ++ cellR g nn ss least n g.T:=by unfold cellN; rw [List.range_succ,List.flatMap_append]; simp
abbrev PutL:=List (PlcT × ActT)
def putsE (g:GramT) (q:Nat) (es:List EdgeT):PutL:=(es.filter fun e=>decide (e.sym < (g.T:Int))).map fun e=>(⟨(q:Int),e.sym⟩,⟨1,e.to⟩)
def putsA (q:Nat) (K:List ItemT):PutL:=if (⟨0,1⟩ : ItemT)∈K then [(⟨(q:Int),0⟩,⟨3,0⟩)] else []
def putsQ (g:GramT) (ss:List SQ) (q:Nat):PutL:=match ss[q]? with
  | some r=>putsE g q r.2.2 ++ putsA q r.1.2
  | none=>[]
def putsS (g:GramT) (ss:List SQ) (n:Nat):PutL:=(List.range n).flatMap (putsQ g ss)
def putsK (l:LookT) (n:Nat):PutL:=(l.tm.take n).map fun t=>(⟨l.st,t⟩,⟨2,l.prod⟩)
def putsL (ls:List LookT) (n:Nat):PutL:=(ls.take n).flatMap fun l=>putsK l l.tm.length
theorem putsS_succ {n:Nat}:putsS g ss (n + 1) = putsS g ss n ++ putsQ g ss n:=by unfold putsS; rw [List.range_succ,List.flatMap_append]; simp
theorem putsE_snoc {q:Nat} {es:List EdgeT} {e:EdgeT}:putsE g q (es ++ [e]) = if e.sym < (g.T:Int) then putsE g q es ++ [(⟨(q:Int),e.sym⟩,⟨1,e.to⟩)] else putsE g q es:=by
  unfold putsE
  rw [List.filter_append,List.map_append]
  by_cases h:e.sym < (g.T:Int) <;> simp [h]
theorem putsK_succ {l:LookT} {n:Nat} {t:Int} (h:l.tm[n]? = some t):putsK l (n + 1) = putsK l n ++ [(⟨l.st,t⟩,⟨2,l.prod⟩)]:=by
  unfold putsK; rw [List.take_add_one,h]; simp
theorem putsL_succ {ls:List LookT} {n:Nat} {l:LookT} (h:ls[n]? = some l):putsL ls (n + 1) = putsL ls n ++ putsK l l.tm.length:=by
  unfold putsL; rw [List.take_add_one,h,List.flatMap_append]; simp
def atP (ps:PutL) (p:PlcT):List ActT:=(ps.filter fun x=>decide (x.1 = p)).map (·.2)
theorem atP_app {ps qs:PutL} {p:PlcT}:atP (ps ++ qs) p = atP ps p ++ atP qs p:=by unfold atP; rw [List.filter_append,List.map_append]
theorem atP_none {ps:PutL} {p:PlcT} (h:∀ x∈ps,x.1≠p):atP ps p = []:=by
  unfold atP; rw [List.filter_eq_nil_iff.2 fun x hx=>by simpa using h x hx]; rfl
theorem atP_flat {β : Type} {l:List β} {f:β→PutL} {p:PlcT}:atP (l.flatMap f) p = l.flatMap fun x=>atP (f x) p:=by
  induction l with
  | nil=>rfl
  | cons a l ih=>rw [List.flatMap_cons,List.flatMap_cons,atP_app,ih]
theorem flat_one {f:Nat→List α} {q:Nat} (h:∀ i,i≠q→f i = []):∀ n,q < n→(List.range n).flatMap f = f q
  | 0,hq=>by omega
  | n + 1,hq=>by
    rw [List.range_succ,List.flatMap_append]
    by_cases e:q = n
    · subst e
      have:(List.range q).flatMap f = []:=List.flatMap_eq_nil_iff.2 fun i hi=>h i (by have:=List.mem_range.1 hi; omega)
      rw [this]; simp
    · rw [flat_one h n (by omega)]
      simp [h n (Ne.symm e)]
theorem nxt_find {q:Nat} {r:SQ} {s:Int} (hr:ss[q]? = some r):nxt ss q s = (r.2.2.find? fun e=>decide (e.sym = s)).map (·.to):=nxt_some hr s
theorem filt_find:∀ {es:List EdgeT} {s:Int},(es.map (·.sym)).Nodup→(es.filter fun e=>decide (e.sym = s)) = (es.find? fun e=>decide (e.sym = s)).toList
  | [],s,_=>rfl
  | e :: es,s,h=>by
    rw [List.map_cons,List.nodup_cons] at h
    by_cases he:e.sym = s
    · rw [List.filter_cons_of_pos (by simpa using he),List.find?_cons_of_pos (by simpa using he)]
      have:(es.filter fun e=>decide (e.sym = s)) = []:=List.filter_eq_nil_iff.2 fun x hx=>by
        simp only [decide_eq_true_eq]
        intro e2
        exact h.1 (by rw [he,← e2]; exact List.mem_map_of_mem hx)
      rw [this]; rfl
    · rw [List.filter_cons_of_neg (by simpa using he),List.find?_cons_of_neg (by simpa using he)]
      exact filt_find h.2
theorem atE (hA:AutI g ss) {q t:Nat} {r:SQ} (hr:ss[q]? = some r) (ht:t < g.T):atP (putsE g q r.2.2) ⟨(q:Int),(t:Int)⟩ = shL ss q t:=by
  unfold shL
  rw [nxt_find hr]
  have hnd:=aut_nd hA hr
  unfold atP putsE
  rw [List.filter_map,List.filter_filter,List.map_map]
  have e:(r.2.2.filter fun e=>(((fun x:PlcT × ActT=>decide (x.1 = ⟨(q:Int),(t:Int)⟩)) ∘ fun e:EdgeT=>((⟨(q:Int),e.sym⟩ : PlcT),(⟨1,e.to⟩ : ActT))) e) && decide (e.sym < (g.T:Int))) = r.2.2.filter fun e=>decide (e.sym = (t:Int)):=by
    refine List.filter_congr fun e _=>?_
    show (decide ((⟨(q:Int),e.sym⟩ : PlcT) = ⟨(q:Int),(t:Int)⟩) && _) = _
    by_cases h:e.sym = (t:Int)
    · rw [h,decide_eq_true rfl,decide_eq_true (by omega),decide_eq_true rfl]; rfl
    · rw [decide_eq_false (by simp [h]),decide_eq_false h]; rfl
  rw [e,filt_find hnd]
  cases r.2.2.find? fun e=>decide (e.sym = (t:Int)) with
  | none=>rfl
  | some e=>rfl
theorem atQ (hA:AutI g ss) {q t:Nat} {r:SQ} (hr:ss[q]? = some r) (ht:t < g.T):atP (putsQ g ss q) ⟨(q:Int),(t:Int)⟩ = shL ss q t ++ acL ss q t:=by
  unfold putsQ acL
  rw [hr]
  show atP (putsE g q r.2.2 ++ putsA q r.1.2) _ = _
  rw [atP_app,atE hA hr ht]
  congr 1
  show _ = if t = 0∧(⟨0,1⟩ : ItemT)∈r.1.2 then [(⟨3,0⟩ : ActT)] else []
  unfold putsA
  by_cases h:(⟨0,1⟩ : ItemT)∈r.1.2
  · rw [if_pos h]
    by_cases h2:t = 0
    · subst h2; rw [if_pos ⟨rfl,h⟩]; simp [atP]
    · rw [if_neg (fun hh=>h2 hh.1)]; exact atP_none fun x hx=>by simp at hx; subst hx; simp; omega
  · rw [if_neg h,if_neg (fun hh=>h hh.2)]; rfl
theorem putsQ_st {q:Nat} {x:PlcT × ActT} (h:x∈putsQ g ss q):x.1.st = (q:Int):=by
  unfold putsQ at h
  split at h
  · rcases List.mem_append.1 h with h | h
    · unfold putsE at h
      obtain ⟨e,_,rfl⟩:=List.mem_map.1 h
      rfl
    · unfold putsA at h
      split at h
      · simp at h; subst h; rfl
      · simp at h
  · simp at h
theorem atS (hA:AutI g ss) {q t:Nat} (hq:q < ss.length) (ht:t < g.T):atP (putsS g ss ss.length) ⟨(q:Int),(t:Int)⟩ = shL ss q t ++ acL ss q t:=by
  unfold putsS
  rw [atP_flat,flat_one (q:=q) (fun i hi=>atP_none fun x hx e=>hi (by have:=putsQ_st hx; rw [e] at this; simp at this; omega)) _ hq]
  exact atQ hA (List.getElem?_eq_getElem hq) ht
theorem atK {l:LookT} {q t:Nat} (hr:Rise l.tm):atP (putsK l l.tm.length) ⟨(q:Int),(t:Int)⟩ = if l.st = (q:Int)∧(t:Int)∈l.tm then [⟨2,l.prod⟩] else []:=by
  unfold atP putsK
  rw [List.take_length,List.filter_map,List.map_map]
  by_cases h:l.st = (q:Int)∧(t:Int)∈l.tm
  · rw [if_pos h]
    have e:(l.tm.filter ((fun x:PlcT × ActT=>decide (x.1 = ⟨(q:Int),(t:Int)⟩)) ∘ fun t=>((⟨l.st,t⟩ : PlcT),(⟨2,l.prod⟩ : ActT)))) = [(t:Int)]:=by
      have key:∀ {l:List Int},l.Nodup→(t:Int)∈l→(l.filter fun x=>decide (x = (t:Int))) = [(t:Int)]:=by
        intro l
        induction l with
        | nil=>intro _ h; cases h
        | cons a l ih =>
          intro hn hm
          obtain ⟨h1,h2⟩:=List.nodup_cons.1 hn
          by_cases ea:a = (t:Int)
          · subst ea
            rw [List.filter_cons_of_pos (by simp),List.filter_eq_nil_iff.2 fun x hx=>by simp; intro e; exact h1 (e ▸ hx)]
          · rw [List.filter_cons_of_neg (by simpa using ea)]
            exact ih h2 ((List.mem_cons.1 hm).resolve_left (Ne.symm ea))
      rw [← key (rise_nd hr) h.2]
      refine List.filter_congr fun x _=>?_
      show decide ((⟨l.st,x⟩ : PlcT) = ⟨(q:Int),(t:Int)⟩) = _
      rw [h.1]; simp
    rw [e]; rfl
  · rw [if_neg h,List.filter_eq_nil_iff.2 fun x hx=>?_]; rfl
    show ¬ decide ((⟨l.st,x⟩ : PlcT) = ⟨(q:Int),(t:Int)⟩) = true
    simp only [PlcT.mk.injEq,decide_eq_true_eq]
    rintro ⟨h1,h2⟩
    exact h ⟨h1,h2 ▸ hx⟩
theorem atL {ls:List LookT} {q t:Nat} (hr:∀ l∈ls,Rise l.tm):atP (putsL ls ls.length) ⟨(q:Int),(t:Int)⟩ = reL ls q t:=by
  unfold putsL reL
  rw [List.take_length,atP_flat]
  induction ls with
  | nil=>rfl
  | cons l ls ih =>
    rw [List.flatMap_cons,atK (hr l (by simp)),ih fun l hl=>hr l (by simp [hl])]
    by_cases h:l.st = (q:Int)∧(t:Int)∈l.tm
    · rw [if_pos h,List.filter_cons_of_pos (by simp [h.1,h.2])]; rfl
    · rw [if_neg h,List.filter_cons_of_neg (by simpa using h)]; rfl
theorem perm_srt {k:α→Int}:∀ {l m:List α},l.Perm m→(l.Pairwise fun x y=>k x < k y)→(m.Pairwise fun x y=>k x < k y)→l = m
  | [],m,p,_,_=>(p.symm.eq_nil).symm
  | a :: l,[],p,_,_=>absurd p.eq_nil (by simp)
  | a :: l,b :: m,p,hl,hm=>by
    obtain ⟨h1,h2⟩:=List.pairwise_cons.1 hl
    obtain ⟨h3,h4⟩:=List.pairwise_cons.1 hm
    have e:a = b:=by
      rcases List.mem_cons.1 (p.mem_iff.1 (List.mem_cons_self)) with h | h
      · exact h
      · rcases List.mem_cons.1 (p.mem_iff.2 (List.mem_cons_self)) with h' | h'
        · exact h'.symm
        · have:=h3 a h; have:=h1 b h'; omega
    subst e
    rw [perm_srt ((List.perm_cons a).1 p) h2 h4]
theorem looks_row (q:Nat):((LooksL g nn ss).filter fun l=>decide (l.st = (q:Int))).Pairwise fun x y=>x.prod < y.prod:=by
  have key:∀ n,((BksN g ss n).filter fun b=>decide (b.st = (q:Int))) = if q < n then bkRow g ss q g.prods.length else []:=by
    intro n
    induction n with
    | zero=>rw [if_neg (by omega)]; rfl
    | succ n ih =>
      rw [BksN_succ,List.filter_append,ih]
      have hst:∀ b∈bkRow g ss n g.prods.length,b.st = (n:Int):=fun b hb=>by obtain ⟨m,_,_,rfl⟩:=bkRow_mem.1 hb; rfl
      by_cases e:q = n
      · subst e
        rw [if_neg (by omega),if_pos (by omega),List.nil_append,List.filter_eq_self.2 fun b hb=>by simpa using hst b hb]
      · have:((bkRow g ss n g.prods.length).filter fun b=>decide (b.st = (q:Int))) = []:=List.filter_eq_nil_iff.2 fun b hb=>by rw [hst b hb]; simp; omega
        rw [this,List.append_nil]
        by_cases h:q < n
        · rw [if_pos h,if_pos (by omega)]
        · rw [if_neg h,if_neg (by omega)]
  have hk:=key ss.length
  have e:((LooksL g nn ss).filter fun l=>decide (l.st = (q:Int))) = (((BksL g ss).filter fun b=>decide (b.st = (q:Int)))).map (lookOf g (FgL g nn ss)):=by
    unfold LooksL
    rw [List.filter_map]; rfl
  rw [e,List.pairwise_map]
  show List.Pairwise _ ((BksN g ss ss.length).filter _)
  rw [hk]
  by_cases h:q < ss.length
  · rw [if_pos h]
    have h2:=bkRow_rise (g:=g) (ss:=ss) q g.prods.length
    unfold Rise at h2
    rw [List.pairwise_map] at h2
    exact h2
  · rw [if_neg h]; exact .nil
theorem reL_srt {ls:List LookT} (p:ls.Perm (LooksL g nn ss)) (h:SrK (·.prod) ls) (q t:Nat):reL ls q t = reL (LooksL g nn ss) q t:=by
  have e:∀ m:List LookT,reL m q t = ((m.filter fun l=>decide (l.st = (q:Int))).filter fun l=>decide ((t:Int)∈l.tm)).map fun l=>⟨2,l.prod⟩:=fun m=>by
    unfold reL
    rw [List.filter_filter]
    congr 1
    refine List.filter_congr fun l _=>?_
    rw [Bool.and_comm]
  rw [e,e]
  congr 2
  have hp:=p.filter fun l=>decide (l.st = (q:Int))
  have hS:=looks_row (g:=g) (nn:=nn) (ss:=ss) q
  refine perm_srt (k:=(·.prod)) hp ?_ hS
  have h1:(ls.filter fun l=>decide (l.st = (q:Int))).Pairwise fun x y=>x.prod≤y.prod:=List.Pairwise.filter _ h
  have h2:((ls.filter fun l=>decide (l.st = (q:Int))).map (·.prod)).Nodup:=by
    refine (hp.map (·.prod)).nodup_iff.2 ?_
    rw [List.nodup_iff_pairwise_ne,List.pairwise_map]
    exact hS.imp fun h e=>by omega
  rw [List.nodup_iff_pairwise_ne,List.pairwise_map] at h2
  exact h1.imp₂ (fun _ _ a b=>by omega) h2
theorem atAll (hA:AutI g ss) {ls:List LookT} (p:ls.Perm (LooksL g nn ss)) (h:SrK (·.prod) ls) {q t:Nat} (hq:q < ss.length) (ht:t < g.T):atP (putsS g ss ss.length ++ putsL ls ls.length) ⟨(q:Int),(t:Int)⟩ = actL g nn ss q t:=by
  rw [atP_app,atS hA hq ht,atL,reL_srt p h]
  · rfl
  · intro l hl
    obtain ⟨b,_,rfl⟩:=List.mem_map.1 (p.mem_iff.1 hl)
    exact look_rise
end
end Go.V
set_option linter.unusedVariables false
set_option maxRecDepth 4000
namespace Go.V
open Go.Proofs.YtndaepmjkbmjmaaGreatDoor
section
variable {g:GramT} {nn:List Bool} {ss:List SQ} {least:Nat}
theorem cellAt_mem {q t:Nat} {c:CellT}:c∈cellAt g nn ss least q t↔least≤(actL g nn ss q t).length∧c = ⟨(q:Int),(t:Int),actL g nn ss q t⟩:=by
  unfold cellAt
  split
  · rename_i h; simp [h]
  · rename_i h; simp [h]
theorem cellR_mem {q n:Nat} {c:CellT}:c∈cellR g nn ss least q n↔∃ t,t < n∧least≤(actL g nn ss q t).length∧c = ⟨(q:Int),(t:Int),actL g nn ss q t⟩:=by
  unfold cellR
  rw [List.mem_flatMap]
  exact exists_congr fun t=>by rw [List.mem_range,cellAt_mem]
theorem cellN_mem {n:Nat} {c:CellT}:c∈cellN g nn ss least n↔∃ q t,q < n∧t < g.T∧least≤(actL g nn ss q t).length∧c = ⟨(q:Int),(t:Int),actL g nn ss q t⟩:=by
  unfold cellN
  rw [List.mem_flatMap]
  constructor
  · rintro ⟨q,hq,h⟩
    obtain ⟨t,h1,h2,h3⟩:=cellR_mem.1 h
    exact ⟨q,t,List.mem_range.1 hq,h1,h2,h3⟩
  · rintro ⟨q,t,hq,h1,h2,h3⟩
    exact ⟨q,List.mem_range.2 hq,cellR_mem.2 ⟨t,h1,h2,h3⟩⟩
def CellT.lt (a b:CellT):Prop:=a.st < b.st∨a.st = b.st∧a.tm < b.tm
theorem cellR_srt {q:Nat}:∀ n,(cellR g nn ss least q n).Pairwise CellT.lt
  | 0=>by simp [cellR]
  | n + 1=>by
    rw [cellR_succ,List.pairwise_append]
    refine ⟨cellR_srt n,?_,fun a ha b hb=>?_⟩
    · unfold cellAt; split <;> simp
    · obtain ⟨t,h1,_,rfl⟩:=cellR_mem.1 ha
      obtain ⟨_,rfl⟩:=cellAt_mem.1 hb
      exact .inr ⟨rfl,by show (t:Int) < n; omega⟩
theorem cellN_srt:∀ n,(cellN g nn ss least n).Pairwise CellT.lt
  | 0=>by simp [cellN]
  | n + 1=>by
    rw [cellN_succ,List.pairwise_append]
    refine ⟨cellN_srt n,cellR_srt _,fun a ha b hb=>?_⟩
    obtain ⟨q,t,h1,_,_,rfl⟩:=cellN_mem.1 ha
    obtain ⟨t',_,_,rfl⟩:=cellR_mem.1 hb
    exact .inl (by show (q:Int) < n; omega)
theorem cellR_len {q n:Nat}:(cellR g nn ss least q n).length≤n:=by
  induction n with
  | zero=>simp [cellR]
  | succ n ih =>
    rw [cellR_succ,List.length_append]
    have:(cellAt g nn ss least q n).length≤1:=by unfold cellAt; split <;> simp
    omega
theorem cellN_len {n:Nat}:(cellN g nn ss least n).length≤n * g.T:=by
  induction n with
  | zero=>simp [cellN]
  | succ n ih =>
    rw [cellN_succ,List.length_append,Nat.succ_mul]
    have:=cellR_len (g:=g) (nn:=nn) (ss:=ss) (least:=least) (q:=n) (n:=g.T)
    omega
theorem shL_len (q t:Nat):(shL ss q t).length≤1:=by unfold shL; split <;> simp
theorem acL_len (q t:Nat):(acL ss q t).length≤1:=by unfold acL; split; split <;> simp; simp
theorem reL_row {q t:Nat}:(reL (LooksL g nn ss) q t).Pairwise fun x y=>x.to < y.to:=by
  have e:reL (LooksL g nn ss) q t = (((LooksL g nn ss).filter fun l=>decide (l.st = (q:Int))).filter fun l=>decide ((t:Int)∈l.tm)).map fun l=>⟨2,l.prod⟩:=by
    unfold reL
    rw [List.filter_filter]
    congr 1
    refine List.filter_congr fun l _=>?_
    rw [Bool.and_comm]
  rw [e,List.pairwise_map]
  exact List.Pairwise.filter _ (looks_row q)
theorem looks_st {l:LookT} (h:l∈LooksL g nn ss):∃ q m:Nat,q < ss.length∧m < g.prods.length∧m≠0∧l = lookOf g (FgL g nn ss) ⟨(q:Int),(m:Int),rowF (TrL g ss).length (backB g ss q m)⟩:=by
  obtain ⟨b,hb,rfl⟩:=List.mem_map.1 h
  obtain ⟨q,m,hq,hm,rfl,hne⟩:=bks_mem hb
  refine ⟨q,m,hq,hm,fun e=>?_,rfl⟩
  subst e
  obtain ⟨z,hz⟩:=List.exists_mem_of_ne_nil _ hne
  obtain ⟨u,_,hu,hb⟩:=rowF_mem.1 hz
  have ht:(TrL g ss)[u]? = some (TrL g ss)[u]:=List.getElem?_eq_getElem hu
  obtain ⟨hmm,_⟩:=(backB_iff ht).1 hb
  have:=(byR_mem.1 hmm).1
  omega
theorem reL_len {q t:Nat}:(reL (LooksL g nn ss) q t).length≤g.prods.length:=by
  have h:=reL_row (g:=g) (nn:=nn) (ss:=ss) (q:=q) (t:=t)
  have h1:Rise ((reL (LooksL g nn ss) q t).map (·.to)):=by unfold Rise; rw [List.pairwise_map]; exact h
  have h2:=rise_bound (B:=g.prods.length) h1 fun z hz=>by
    obtain ⟨x,hx,rfl⟩:=List.mem_map.1 hz
    unfold reL at hx
    obtain ⟨l,hl,rfl⟩:=List.mem_map.1 hx
    obtain ⟨_,m,_,hm,_,rfl⟩:=looks_st (List.mem_filter.1 hl).1
    exact ⟨Int.natCast_nonneg _,by show (m:Int) < _; omega⟩
  rwa [List.length_map] at h2
theorem actL_len {q t:Nat}:(actL g nn ss q t).length≤g.prods.length + 2:=by
  unfold actL
  have h1:=shL_len (ss:=ss) q t
  have h2:=acL_len (ss:=ss) q t
  have h3:=reL_len (g:=g) (nn:=nn) (ss:=ss) (q:=q) (t:=t)
  simp only [List.length_append]
  omega
def sum2 (n T:Nat) (f:Nat→Nat→Nat):Nat:=((List.range n).map fun q=>((List.range T).map (f q)).sum).sum
theorem sum1_zero {n:Nat} {f:Nat→Nat} (h:∀ i,i < n→f i = 0):((List.range n).map f).sum = 0:=by
  induction n with
  | zero=>rfl
  | succ n ih=>rw [List.range_succ,List.map_append,List.sum_append,ih fun i hi=>h i (by omega)]; simp [h n (by omega)]
theorem sum1_add {n:Nat} {f f' : Nat→Nat}:((List.range n).map fun i=>f i + f' i).sum = ((List.range n).map f).sum + ((List.range n).map f').sum:=by
  induction n with
  | zero=>rfl
  | succ n ih=>rw [List.range_succ,List.map_append,List.map_append,List.map_append,List.sum_append,List.sum_append,List.sum_append,ih]; simp; omega
theorem sum1_congr {n:Nat} {f f' : Nat→Nat} (h:∀ i,i < n→f i = f' i):((List.range n).map f).sum = ((List.range n).map f').sum:=by
  rw [List.map_congr_left fun i hi=>h i (List.mem_range.1 hi)]
theorem sum1_one {n q:Nat} (hq:q < n):((List.range n).map fun i=>if i = q then 1 else 0).sum = 1:=by
  induction n with
  | zero=>omega
  | succ n ih =>
    rw [List.range_succ,List.map_append,List.sum_append]
    by_cases e:q = n
    · subst e
      rw [sum1_zero fun i hi=>if_neg (by omega)]; simp
    · rw [ih (by omega)]; simp; omega
theorem sum2_add {n T:Nat} {f f' : Nat→Nat→Nat}:sum2 n T (fun q t=>f q t + f' q t) = sum2 n T f + sum2 n T f':=by
  unfold sum2
  rw [← sum1_add]
  exact sum1_congr fun q _=>sum1_add
theorem sum2_congr {n T:Nat} {f f' : Nat→Nat→Nat} (h:∀ q t,q < n→t < T→f q t = f' q t):sum2 n T f = sum2 n T f':=by
  unfold sum2
  exact sum1_congr fun q hq=>sum1_congr fun t ht=>h q t hq ht
theorem sum2_one {n T q t:Nat} (hq:q < n) (ht:t < T):sum2 n T (fun i j=>if i = q∧j = t then 1 else 0) = 1:=by
  unfold sum2
  refine (sum1_congr (f':=fun i=>if i = q then 1 else 0) fun i _=>?_).trans (sum1_one hq)
  by_cases e:i = q
  · rw [if_pos e]
    exact (sum1_congr (f':=fun j=>if j = t then 1 else 0) fun j _=>by simp [e]).trans (sum1_one ht)
  · rw [if_neg e]
    exact sum1_zero fun j _=>if_neg fun h=>e h.1
theorem atP_sum {n T:Nat}:∀ {ps:PutL},(∀ x∈ps,∃ q t:Nat,q < n∧t < T∧x.1 = ⟨(q:Int),(t:Int)⟩)→sum2 n T (fun q t=>(atP ps ⟨(q:Int),(t:Int)⟩).length) = ps.length
  | [],_=>by
    unfold sum2
    exact sum1_zero fun q _=>sum1_zero fun t _=>rfl
  | x :: ps,h=>by
    obtain ⟨q,t,hq,ht,hx⟩:=h x (by simp)
    have ih:=atP_sum (ps:=ps) fun y hy=>h y (by simp [hy])
    have e:∀ i j:Nat,(atP (x :: ps) ⟨(i:Int),(j:Int)⟩).length = (if i = q∧j = t then 1 else 0) + (atP ps ⟨(i:Int),(j:Int)⟩).length:=fun i j=>by
      unfold atP
      by_cases e:i = q∧j = t
      · rw [if_pos e,List.filter_cons_of_pos (by rw [hx]; simp [e.1,e.2])]; simp; omega
      · rw [if_neg e,List.filter_cons_of_neg (by rw [hx]; simp; omega)]; simp
    simp only [e]
    rw [sum2_add,sum2_one hq ht,ih,List.length_cons]
    omega
def cntK (k:Int) (l:List ActT):Nat:=(l.filter fun a=>decide (a.kind = k)).length
theorem cntK_app {k:Int} {l m:List ActT}:cntK k (l ++ m) = cntK k l + cntK k m:=by unfold cntK; rw [List.filter_append,List.length_append]
theorem shL_kind {q t:Nat} {x:ActT} (h:x∈shL ss q t):x.kind = 1∧nxt ss q (t:Int) = some x.to:=by
  unfold shL at h
  split at h
  · rename_i j hj; simp at h; subst h; exact ⟨rfl,hj⟩
  · simp at h
theorem acL_kind {q t:Nat} {x:ActT} (h:x∈acL ss q t):x = ⟨3,0⟩∧t = 0∧∃ r,ss[q]? = some r∧(⟨0,1⟩ : ItemT)∈r.1.2:=by
  unfold acL at h
  split at h
  · rename_i r hr
    split at h
    · rename_i h2; simp at h; exact ⟨h,h2.1,r,hr,h2.2⟩
    · simp at h
  · simp at h
theorem reL_kind {ls:List LookT} {q t:Nat} {x:ActT} (h:x∈reL ls q t):x.kind = 2∧∃ l∈ls,l.st = (q:Int)∧l.prod = x.to∧(t:Int)∈l.tm:=by
  unfold reL at h
  obtain ⟨l,hl,rfl⟩:=List.mem_map.1 h
  obtain ⟨h1,h2⟩:=List.mem_filter.1 hl
  simp only [Bool.and_eq_true,decide_eq_true_eq] at h2
  exact ⟨rfl,l,h1,h2.1,rfl,h2.2⟩
theorem cntK_all {k:Int} {l:List ActT} (h:∀ x∈l,x.kind = k):cntK k l = l.length:=by
  unfold cntK; rw [List.filter_eq_self.2 fun x hx=>by simpa using h x hx]
theorem cntK_no {k:Int} {l:List ActT} (h:∀ x∈l,x.kind≠k):cntK k l = 0:=by
  unfold cntK; rw [List.filter_eq_nil_iff.2 fun x hx=>by simpa using h x hx]; rfl
theorem actL_cnt (q t:Nat):cntK 1 (actL g nn ss q t) = (shL ss q t).length∧cntK 3 (actL g nn ss q t) = (acL ss q t).length∧cntK 2 (actL g nn ss q t) = (reL (LooksL g nn ss) q t).length:=by
  unfold actL
  have a:∀ x∈shL ss q t,x.kind = 1:=fun x hx=>(shL_kind hx).1
  have b:∀ x∈acL ss q t,x.kind = 3:=fun x hx=>by rw [(acL_kind hx).1]
  have c:∀ x∈reL (LooksL g nn ss) q t,x.kind = 2:=fun x hx=>(reL_kind hx).1
  simp only [cntK_app]
  refine ⟨?_,?_,?_⟩
  · rw [cntK_all a,cntK_no fun x hx=>by rw [b x hx]; decide,cntK_no fun x hx=>by rw [c x hx]; decide]; omega
  · rw [cntK_all b,cntK_no fun x hx=>by rw [a x hx]; decide,cntK_no fun x hx=>by rw [c x hx]; decide]; omega
  · rw [cntK_all c,cntK_no fun x hx=>by rw [a x hx]; decide,cntK_no fun x hx=>by rw [b x hx]; decide]; omega
theorem cntK_cells (k:Int):cntK k ((cellL g nn ss 1).flatMap (·.acts)) = sum2 ss.length g.T fun q t=>cntK k (actL g nn ss q t):=by
  have e1:∀ q t,cntK k ((cellAt g nn ss 1 q t).flatMap (·.acts)) = cntK k (actL g nn ss q t):=fun q t=>by
    unfold cellAt
    split
    · simp
    · rename_i h
      have:actL g nn ss q t = []:=List.eq_nil_of_length_eq_zero (by omega)
      rw [this]; rfl
  have e2:∀ q n,cntK k ((cellR g nn ss 1 q n).flatMap (·.acts)) = ((List.range n).map fun t=>cntK k (actL g nn ss q t)).sum:=fun q n=>by
    induction n with
    | zero=>rfl
    | succ n ih=>rw [cellR_succ,List.flatMap_append,cntK_app,ih,e1,List.range_succ,List.map_append,List.sum_append]; simp
  have e3:∀ n,cntK k ((cellN g nn ss 1 n).flatMap (·.acts)) = ((List.range n).map fun q=>((List.range g.T).map fun t=>cntK k (actL g nn ss q t)).sum).sum:=fun n=>by
    induction n with
    | zero=>rfl
    | succ n ih=>rw [cellN_succ,List.flatMap_append,cntK_app,ih,e2,List.range_succ,List.map_append,List.sum_append]; simp
  exact e3 ss.length
def putsT (g:GramT) (ss:List SQ) (n:Nat):PutL:=(List.range n).flatMap fun q=>match ss[q]? with
  | some r=>putsE g q r.2.2
  | none=>[]
theorem putsT_succ {n:Nat} {r:SQ} (hr:ss[n]? = some r):putsT g ss (n + 1) = putsT g ss n ++ putsE g n r.2.2:=by
  unfold putsT; rw [List.range_succ,List.flatMap_append]; simp [hr]
theorem atT (hA:AutI g ss) {q t:Nat} (hq:q < ss.length) (ht:t < g.T):atP (putsT g ss ss.length) ⟨(q:Int),(t:Int)⟩ = shL ss q t:=by
  unfold putsT
  rw [atP_flat,flat_one (q:=q) (fun i hi=>atP_none fun x hx e=>hi ?_) _ hq]
  · rw [List.getElem?_eq_getElem hq]; exact atE hA (List.getElem?_eq_getElem hq) ht
  · split at hx
    · unfold putsE at hx
      obtain ⟨e',_,rfl⟩:=List.mem_map.1 hx
      simp at e; omega
    · simp at hx
theorem shifts_all (hc:ClosedP g) (hA:AutI g ss):cntK 1 ((cellL g nn ss 1).flatMap (·.acts)) = (putsT g ss ss.length).length:=by
  rw [cntK_cells,← atP_sum (n:=ss.length) (T:=g.T)]
  · exact sum2_congr fun q t hq ht=>by rw [(actL_cnt q t).1,atT hA hq ht]
  · intro x hx
    unfold putsT at hx
    obtain ⟨q,hq,h⟩:=List.mem_flatMap.1 hx
    have hq:=List.mem_range.1 hq
    rw [List.getElem?_eq_getElem hq] at h
    unfold putsE at h
    obtain ⟨e,he,rfl⟩:=List.mem_map.1 h
    obtain ⟨h1,h2⟩:=List.mem_filter.1 he
    have h2:=of_decide_eq_true h2
    obtain ⟨k,hk⟩:=List.getElem?_of_mem h1
    obtain ⟨h3,_⟩:=aut_edge hc hA (List.getElem?_eq_getElem hq) hk
    exact ⟨q,e.sym.toNat,hq,by omega,by show (⟨(q:Int),e.sym⟩ : PlcT) = _; congr 1; omega⟩
theorem reduces_all:cntK 2 ((cellL g nn ss 1).flatMap (·.acts)) = (putsL (LooksL g nn ss) (LooksL g nn ss).length).length:=by
  rw [cntK_cells,← atP_sum (n:=ss.length) (T:=g.T)]
  · refine sum2_congr fun q t hq ht=>?_
    rw [(actL_cnt q t).2.2,atL]
    intro l hl
    obtain ⟨b,_,rfl⟩:=List.mem_map.1 hl
    exact look_rise
  · intro x hx
    unfold putsL at hx
    rw [List.take_length] at hx
    obtain ⟨l,hl,h⟩:=List.mem_flatMap.1 hx
    unfold putsK at h
    rw [List.take_length] at h
    obtain ⟨z,hz,rfl⟩:=List.mem_map.1 h
    obtain ⟨q,m,hq,_,_,rfl⟩:=looks_st hl
    obtain ⟨y,rfl,hy,_⟩:=look_mem.1 hz
    exact ⟨q,y,hq,hy,rfl⟩
theorem sym_ne2 (hc:ClosedP g) {p:ProdT} (hp:p∈g.prods) {s:Int} (hs:s∈p.right):s≠g.T:=by
  obtain ⟨_,hsy,hpr,p0,hp0,hl0,hr0,_⟩:=hc
  obtain ⟨n,hn⟩:=List.getElem?_of_mem hp
  cases n with
  | zero =>
    rw [hp0] at hn; cases hn
    rw [hr0,List.mem_singleton] at hs
    have:=hpr.2.2.2.2.1
    omega
  | succ n =>
    have hm:p∈g.prods.drop 1:=by
      refine List.mem_of_getElem? (i:=n) ?_
      rw [List.getElem?_drop,Nat.add_comm]; exact hn
    have:=(hpr.2.2.1 p hm).2 s hs
    unfold symOk at this
    omega
theorem acc_one (hc:ClosedP g) (hA:AutI g ss):∃ j:Nat,nxt ss 0 g.start = some (j:Int)∧j < ss.length∧∀ (q:Nat) (r:SQ),ss[q]? = some r→((⟨0,1⟩ : ItemT)∈r.1.2↔q = j):=by
  have hc':=hc
  obtain ⟨_,_,hpr,p0,hp0,hl0,hr0,_⟩:=hc'
  have hpos:=hA.pos
  have zero:∀ r,ss[0]? = some r→r.1.2 = [⟨0,0⟩]:=fun r hr=>by
    have hK:=(aut_at hA hr).1
    have:(bst g 0).1[0]? = some [⟨0,0⟩]:=rfl
    rw [this] at hK
    exact (Option.some.inj hK).symm
  obtain ⟨r0,hr0'⟩ : ∃ r,ss[0]? = some r:=⟨_,List.getElem?_eq_getElem hpos⟩
  have h0:ClM g r0.1.2 ⟨((0:Nat):Int),((0:Nat):Int)⟩:=.base (by rw [zero r0 hr0']; simp)
  have hs:p0.right[0]? = some g.start:=by rw [hr0]; rfl
  have hst:=hc.sym (List.mem_of_getElem? hp0) (List.mem_of_getElem? hs)
  obtain ⟨j,rj,e1,e2,e3⟩:=edge_of hc hA hr0' h0 (aft_get hp0 hs) (by omega)
  have hjl:=(List.getElem?_eq_some_iff.1 e2).1
  refine ⟨j,e1,hjl,fun q r hr=>⟨fun hm=>?_,fun e=>?_⟩⟩
  · by_cases hq:q = 0
    · subst hq
      rw [zero r hr] at hm
      simp at hm
    obtain ⟨i,s,k,e,hij,hs',he,hto⟩:=aut_from hc hA (Nat.pos_of_ne_zero hq) (List.getElem?_eq_some_iff.1 hr).1
    obtain ⟨_,_,j',r',q1,_,q3,q4,_⟩:=aut_edge hc hA hs' he
    have ej:j' = q:=by omega
    subst ej
    rw [hr] at q3; cases q3
    rw [q4] at hm
    obtain ⟨y,hy1,hy2,hy3⟩:=kern_mem.1 hm
    have ey:y = ⟨0,0⟩:=by
      have a1:=congrArg ItemT.prod hy3
      have a2:=congrArg ItemT.dot hy3
      cases y; simp at *; omega
    subst ey
    -- it is of state 0
    have hi:i = 0:=by
      cases hy1 with
      | base hb =>
        by_cases e:i = 0
        · exact e
        · obtain ⟨i',s2,k2,e2',_,hs2,he2,hto2⟩:=aut_from hc hA (Nat.pos_of_ne_zero e) (List.getElem?_eq_some_iff.1 hs').1
          obtain ⟨_,_,j2,r2,p1,_,p3,p4,_⟩:=aut_edge hc hA hs2 he2
          have:j2 = i:=by omega
          subst this
          rw [hs'] at p3; cases p3
          rw [p4] at hb
          obtain ⟨z,hz1,hz2,hz3⟩:=kern_mem.1 hb
          have hK:=(aut_at hA hs2).1
          obtain ⟨_,_,_,hP2,_,_⟩:=hc.sizes
          have hfit:=hz1.fit ((bst_inv (g:=g) (by omega) i').fit _ (List.mem_of_getElem? hK))
          have a2:=congrArg ItemT.dot hz3
          have:=hfit.2.1
          simp at a2; omega
      | @step y2 n p h1 h2 h3 h4 =>
        have h3:g.prods[0]? = some p:=h3
        rw [hp0] at h3; cases h3
        obtain ⟨p2,hp2,hsy,_⟩:=aft_rest h2
        exact absurd (by rw [← h4,hl0]) (sym_ne2 hc (List.mem_of_getElem? hp2) (List.mem_of_getElem? hsy))
    subst hi
    have hsy:e.sym = g.start:=by
      rw [← hy2]
      exact aft_get (n:=0) (m:=0) hp0 hs
    have h5:=nxt_edge hA hs' he
    rw [hsy,e1] at h5
    have:=Option.some.inj h5
    omega
  · subst e
    rw [e2] at hr; cases hr
    simpa using e3
theorem accepts_all (hc:ClosedP g) (hA:AutI g ss):cntK 3 ((cellL g nn ss 1).flatMap (·.acts)) = 1:=by
  obtain ⟨j,_,hj,hu⟩:=acc_one hc hA
  obtain ⟨hT,hN,_,_,hT1,_⟩:=hc.sizes
  rw [cntK_cells,← sum2_one hj (show 0 < g.T by omega)]
  refine sum2_congr fun q t hq _=>?_
  rw [(actL_cnt q t).2.1]
  have hr:ss[q]? = some ss[q]:=List.getElem?_eq_getElem hq
  unfold acL
  rw [hr]
  show (if t = 0∧(⟨0,1⟩ : ItemT)∈(ss[q]).1.2 then [(⟨3,0⟩ : ActT)] else []).length = _
  have hq2:=hu q _ hr
  by_cases e:q = j∧t = 0
  · rw [if_pos ⟨e.2,hq2.2 e.1⟩,if_pos e]; rfl
  · rw [if_neg fun h=>e ⟨hq2.1 h.2,h.1⟩,if_neg e]; rfl
end
end Go.V
set_option linter.unusedVariables false
namespace Go.Proofs.YtndaepmjkbmjmaaGreatDoor
open Go.V
abbrev n_table_Merged:FuncId:=15
def ann_table_Merged:Ann:={ rngs:=[],loops:=[],joins:=[],blocks:=[] }
set_option maxRecDepth 100000 in
def vc_table_Merged (a:Option Addr) (b c:Nat) (d:Option Addr) (e f:Nat) (g:Option Addr) (i j:Nat) (k:Int) (l:Option Addr) (m n:Nat) (w:World) (R:Value→WP):Prop :=  new w (oC [vS a b c,vS d e f,vS g i j,iI k,vS l m n] 27) fun k1 w1=>∃ o1 k2 k3 o2 k4 k5 o3 k6 k7 n1 o4 k8 k9,V.rowAt w1 (aM k1) 0 5 = some [vS o1 k2 k3,vS o2 k4 k5,vS o3 k6 k7,iI n1,vS o4 k8 k9]∧RunE Proofs.Tryz.prog Ev 42 [vA (Array.mk [vS o1 k2 k3,vS o2 k4 k5,vS o3 k6 k7,iI n1,vS o4 k8 k9]),iI 1] w1 fun v1 w2=>∃ o5 k10 k11 n2,v1 = vT (Array.mk [vS o5 k10 k11,iI n2])∧R (vT (Array.mk [vS o5 k10 k11,iI n2])) w2
set_option maxRecDepth 100000 in
theorem run_table_Merged (a:Option Addr) (b c:Nat) (d:Option Addr) (e f:Nat) (g:Option Addr) (i j:Nat) (k:Int) (l:Option Addr) (m n:Nat) (w:World) (R:Value→WP) (h:vc_table_Merged a b c d e f g i j k l m n w R):Run Tryz.prog 15 [(.agg #[(.slice a b c),(.slice d e f),(.slice g i j),(.int .i64 k),(.slice l m n)])] w R:=rv Tryz.func15 ann_table_Merged (by kernel_rfl) h

abbrev n_table_Clashes:FuncId:=21
def ann_table_Clashes:Ann:={ rngs:=[],loops:=[],joins:=[],blocks:=[] }
set_option maxRecDepth 100000 in
def vc_table_Clashes (a:Option Addr) (b c:Nat) (d:Option Addr) (e f:Nat) (g:Option Addr) (i j:Nat) (k:Int) (l:Option Addr) (m n:Nat) (w:World) (R:Value→WP):Prop :=  new w (oC [vS a b c,vS d e f,vS g i j,iI k,vS l m n] 27) fun k1 w1=>∃ o1 k2 k3 o2 k4 k5 o3 k6 k7 n1 o4 k8 k9,V.rowAt w1 (aM k1) 0 5 = some [vS o1 k2 k3,vS o2 k4 k5,vS o3 k6 k7,iI n1,vS o4 k8 k9]∧RunE Proofs.Tryz.prog Ev 42 [vA (Array.mk [vS o1 k2 k3,vS o2 k4 k5,vS o3 k6 k7,iI n1,vS o4 k8 k9]),iI 2] w1 fun v1 w2=>∃ o5 k10 k11 n2,v1 = vT (Array.mk [vS o5 k10 k11,iI n2])∧R (vT (Array.mk [vS o5 k10 k11,iI n2])) w2
set_option maxRecDepth 100000 in
theorem run_table_Clashes (a:Option Addr) (b c:Nat) (d:Option Addr) (e f:Nat) (g:Option Addr) (i j:Nat) (k:Int) (l:Option Addr) (m n:Nat) (w:World) (R:Value→WP) (h:vc_table_Clashes a b c d e f g i j k l m n w R):Run Tryz.prog 21 [(.agg #[(.slice a b c),(.slice d e f),(.slice g i j),(.int .i64 k),(.slice l m n)])] w R:=rv Tryz.func21 ann_table_Clashes (by kernel_rfl) h

abbrev n_table_Action:FuncId:=23
def ann_table_Action:Ann:={ rngs:=[],loops:=[],joins:=[],blocks:=[] }
set_option maxRecDepth 100000 in
def vc_table_Action (a:Option Addr) (b c:Nat) (d:Option Addr) (e f:Nat) (g:Option Addr) (i j:Nat) (k:Int) (l:Option Addr) (m n:Nat) (o p:Int) (w:World) (R:Value→WP):Prop :=  new w (oC [vS a b c,vS d e f,vS g i j,iI k,vS l m n] 27) fun k1 w1=>∃ o1 k2 k3 o2 k4 k5 o3 k6 k7 n1 o4 k8 k9,V.rowAt w1 (aM k1) 0 5 = some [vS o1 k2 k3,vS o2 k4 k5,vS o3 k6 k7,iI n1,vS o4 k8 k9]∧RunE Proofs.Tryz.prog Ev 48 [vA (Array.mk [vS o1 k2 k3,vS o2 k4 k5,vS o3 k6 k7,iI n1,vS o4 k8 k9])] w1 fun v1 w2=>∃ o5 n2 n3,v1 = vT (Array.mk [Value.map o5,iI n2,iI n3])∧br (n3 != 0) (R (vT (Array.mk [vS none 0 0,iI n3])) w2) (br (decide (o < 0)) (R (vT (Array.mk [vS none 0 0,iI 1])) w2) (br (decide (n2≤o)) (R (vT (Array.mk [vS none 0 0,iI 1])) w2) (br (decide (p < 0)) (R (vT (Array.mk [vS none 0 0,iI 1])) w2) (∃ o6 k10 k11,World.cell? w2 (aM k1) = some (vS o6 k10 k11)∧br (decide ((↑k10:Int)≤p)) (R (vT (Array.mk [vS none 0 0,iI 1])) w2) (RunS Proofs.Tryz.prog (Instr.lookup 91 (Value.map o5) (vG [iI o,iI p]) false) w2 fun v2 w3=>∃ o7 k12 k13,v2 = vS o7 k12 k13∧R (vT (Array.mk [vS o7 k12 k13,iI 0])) w3)))))
set_option maxRecDepth 100000 in
theorem run_table_Action (a:Option Addr) (b c:Nat) (d:Option Addr) (e f:Nat) (g:Option Addr) (i j:Nat) (k:Int) (l:Option Addr) (m n:Nat) (o p:Int) (w:World) (R:Value→WP) (h:vc_table_Action a b c d e f g i j k l m n o p w R):Run Tryz.prog 23 [(.agg #[(.slice a b c),(.slice d e f),(.slice g i j),(.int .i64 k),(.slice l m n)]),(.int .i64 o),(.int .i64 p)] w R:=rv Tryz.func23 ann_table_Action (by kernel_rfl) h

abbrev n_table_cells:FuncId:=42
def ann_table_cells:Ann:={ rngs:=[],loops:=[(6,[(9,(.one .slice)),(23,(.one (.int .i64)))]),(9,[(9,(.one .slice)),(29,(.one (.int .i64)))])],joins:=[],blocks:=[] }
set_option maxRecDepth 100000 in
def vc_table_cells (a:Option Addr) (b c:Nat) (d:Option Addr) (e f:Nat) (g:Option Addr) (i j:Nat) (k:Int) (l:Option Addr) (m n:Nat) (o:Int) (w:World) (R:Value→WP):Prop :=  new w (oC [vS a b c,vS d e f,vS g i j,iI k,vS l m n] 27) fun k1 w1=>∃ o1 k2 k3 o2 k4 k5 o3 k6 k7 n1 o4 k8 k9,V.rowAt w1 (aM k1) 0 5 = some [vS o1 k2 k3,vS o2 k4 k5,vS o3 k6 k7,iI n1,vS o4 k8 k9]∧RunE Proofs.Tryz.prog Ev 48 [vA (Array.mk [vS o1 k2 k3,vS o2 k4 k5,vS o3 k6 k7,iI n1,vS o4 k8 k9])] w1 fun v1 w2=>∃ o5 n2 n3,v1 = vT (Array.mk [Value.map o5,iI n2,iI n3])∧br (n3 != 0) (R (vT (Array.mk [vS none 0 0,iI n3])) w2) (∃ (x1:lP [(9,shS),(23,shI)]),∃ (x2:lN [(9,shS),(23,shI)]),x1 none 0 0 0 w2∧∀ (I1:Nat→Value) (o6:Option Addr) (k10 k11:Nat) (n4:Int) (w3:World),x1 o6 k10 k11 n4 w3→br (decide (n4 < n2)) (∃ o7 k12 k13,World.cell? w3 (aM k1) = some (vS o7 k12 k13)∧∃ (x3:lP [(9,shS),(29,shI)]),∃ (x4:lN [(9,shS),(29,shI)]),x3 o6 k10 k11 0 w3∧∀ (I2:Nat→Value) (o8:Option Addr) (k14 k15:Nat) (n5:Int) (w4:World),x3 o8 k14 k15 n5 w4→br (decide (n5 < (↑k12:Int))) (RunS Proofs.Tryz.prog (Instr.lookup 91 (Value.map o5) (vG [iI n4,iI n5]) false) w4 fun v2 w5=>∃ o9 k16 k17,v2 = vS o9 k16 k17∧br (decide (o≤(↑k16:Int))) (new w5 (oC [iI n4,iI n5,vS o9 k16 k17] 60) fun k18 w6=>RunS Proofs.Tryz.prog (apB 29 (Array.mk [vS o8 k14 k15,vS (some (aM k18)) 1 1])) w6 fun v3 w7=>∃ o10 k19 k20,v3 = vS o10 k19 k20∧inI (n5 + 1)∧x3 o10 k19 k20 (n5 + 1) w7∧x4 o10 k19 k20 (n5 + 1) w7 < x4 o8 k14 k15 n5 w4) (inI (n5 + 1)∧x3 o8 k14 k15 (n5 + 1) w5∧x4 o8 k14 k15 (n5 + 1) w5 < x4 o8 k14 k15 n5 w4)) (inI (n4 + 1)∧x1 o8 k14 k15 (n4 + 1) w4∧x2 o8 k14 k15 (n4 + 1) w4 < x2 o6 k10 k11 n4 w3)) (R (vT (Array.mk [vS o6 k10 k11,iI 0])) w3))
set_option maxRecDepth 100000 in
theorem run_table_cells (a:Option Addr) (b c:Nat) (d:Option Addr) (e f:Nat) (g:Option Addr) (i j:Nat) (k:Int) (l:Option Addr) (m n:Nat) (o:Int) (w:World) (R:Value→WP) (h:vc_table_cells a b c d e f g i j k l m n o w R):Run Tryz.prog 42 [(.agg #[(.slice a b c),(.slice d e f),(.slice g i j),(.int .i64 k),(.slice l m n)]),(.int .i64 o)] w R:=rv Tryz.func42 ann_table_cells (by kernel_rfl) h

abbrev n_table_gather:FuncId:=48
def ann_table_gather:Ann:={ rngs:=[],loops:=[(9,[(37,(.one (.int .i64)))]),(12,[(45,(.one (.int .i64)))]),(22,[(81,(.one (.int .i64)))]),(25,[(88,(.one (.int .i64)))])],joins:=[],blocks:=[] }
set_option maxRecDepth 100000 in
def vc_table_gather (a:Option Addr) (b c:Nat) (d:Option Addr) (e f:Nat) (g:Option Addr) (i j:Nat) (k:Int) (l:Option Addr) (m n:Nat) (w:World) (R:Value→WP):Prop :=  new w (oC [vS a b c,vS d e f,vS g i j,iI k,vS l m n] 27) fun k1 w1=>∃ o1 k2 k3 o2 k4 k5 o3 k6 k7 n1 o4 k8 k9,V.rowAt w1 (aM k1) 0 5 = some [vS o1 k2 k3,vS o2 k4 k5,vS o3 k6 k7,iI n1,vS o4 k8 k9]∧RunE Proofs.Tryz.prog Ev 26 [vA (Array.mk [vS o1 k2 k3,vS o2 k4 k5,vS o3 k6 k7,iI n1,vS o4 k8 k9])] w1 fun v1 w2=>∃ o5 k10 k11 n2 n3 n4,v1 = vT (Array.mk [vA (Array.mk [vS o5 k10 k11,iI n2,iI n3]),iI n4])∧new w2 (oC [vS none 0 0,iI 0,iI 0] 45) fun k12 w3=>stR w3 (aM k12) [vS o5 k10 k11,iI n2,iI n3] fun w4=>br (n4 != 0) (R (vT (Array.mk [Value.map none,iI 0,iI n4])) w4) (∃ o6 k13 k14 o7 k15 k16 o8 k17 k18 n5 o9 k19 k20,V.rowAt w4 (aM k1) 0 5 = some [vS o6 k13 k14,vS o7 k15 k16,vS o8 k17 k18,iI n5,vS o9 k19 k20]∧RunE Proofs.Tryz.prog Ev 27 [vA (Array.mk [vS o6 k13 k14,vS o7 k15 k16,vS o8 k17 k18,iI n5,vS o9 k19 k20])] w4 fun v2 w5=>∃ o10 k21 k22 n6,v2 = vT (Array.mk [vS o10 k21 k22,iI n6])∧br (n6 != 0) (R (vT (Array.mk [Value.map none,iI 0,iI n6])) w5) (new w5 (Obj.map (Array.mk []) 0) fun k23 w6=>∃ o11 k24 k25,World.cell? w6 (aM k12) = some (vS o11 k24 k25)∧∃ (x1:lP [(37,shI)]),∃ (x2:lN [(37,shI)]),x1 0 w6∧∀ (I1:Nat→Value) (n7:Int) (w7:World),x1 n7 w7→br (decide (n7 < (↑k24:Int))) (idx o11 k24 n7 2 fun a1=>∃ o12 k26 k27 o13 k28 k29,V.rowAt w7 a1 0 2 = some [vS o12 k26 k27,vS o13 k28 k29]∧new w7 (oC [vS none 0 0,vS none 0 0] 54) fun k30 w8=>stR w8 (aM k30) [vS o12 k26 k27,vS o13 k28 k29] fun w9=>∃ o14 k31 k32,World.cell? w9 (Addr.add (aM k30) 1) = some (vS o14 k31 k32)∧∃ (x3:lP [(45,shI)]),∃ (x4:lN [(45,shI)]),x3 0 w9∧∀ (I2:Nat→Value) (n8:Int) (w10:World),x3 n8 w10→br (decide (n8 < (↑k31:Int))) (idx o14 k31 n8 2 fun a2=>∃ n9 n10,V.rowAt w10 a2 0 2 = some [iI n9,iI n10]∧new w10 (oC [iI 0,iI 0] 56) fun k33 w11=>stR w11 (aM k33) [iI n9,iI n10] fun w12=>∃ n11,World.cell? w12 (aM k33) = some (iI n11)∧∃ o15 k34 k35,World.cell? w12 (aM k1) = some (vS o15 k34 k35)∧br (decide (n11 < (↑k34:Int))) (∃ n12,World.cell? w12 (aM k33) = some (iI n12)∧∃ n13,World.cell? w12 (Addr.add (aM k33) 1) = some (iI n13)∧new w12 (oC [iI 1,iI n13] 62) fun k36 w13=>RunE Proofs.Tryz.prog Ev 85 [Value.map (some k23),vA (Array.mk [iI n7,iI n12]),vS (some (aM k36)) 1 1] w13 fun v3 w14=>v3 = vT (Array.mk [])∧inI (n8 + 1)∧x3 (n8 + 1) w14∧x4 (n8 + 1) w14 < x4 n8 w10) (inI (n8 + 1)∧x3 (n8 + 1) w12∧x4 (n8 + 1) w12 < x4 n8 w10)) (∃ o16 k37 k38,World.cell? w10 (aM k30) = some (vS o16 k37 k38)∧RunE Proofs.Tryz.prog Ev 86 [vS o16 k37 k38,vA (Array.mk [iI 0,iI 1])] w10 fun v4 w15=>∃ b1,v4 = vB b1∧br b1 (new w15 (oC [iI 3,iI 0] 62) fun k39 w16=>RunE Proofs.Tryz.prog Ev 85 [Value.map (some k23),vA (Array.mk [iI n7,iI 0]),vS (some (aM k39)) 1 1] w16 fun v5 w17=>v5 = vT (Array.mk [])∧inI (n7 + 1)∧x1 (n7 + 1) w17∧x2 (n7 + 1) w17 < x2 n7 w7) (inI (n7 + 1)∧x1 (n7 + 1) w15∧x2 (n7 + 1) w15 < x2 n7 w7))) (RunE Proofs.Tryz.prog Ev 87 [vS o10 k21 k22,Value.func (Fn.func 88) (Array.mk []) (Array.mk [])] w7 fun v6 w18=>v6 = vT (Array.mk [])∧∃ (x5:lP [(81,shI)]),∃ (x6:lN [(81,shI)]),x5 0 w18∧∀ (I3:Nat→Value) (n14:Int) (w19:World),x5 n14 w19→br (decide (n14 < (↑k21:Int))) (idx o10 k21 n14 3 fun a3=>∃ n15 n16 o17 k40 k41,V.rowAt w19 a3 0 3 = some [iI n15,iI n16,vS o17 k40 k41]∧new w19 (oC [iI 0,iI 0,vS none 0 0] 58) fun k42 w20=>stR w20 (aM k42) [iI n15,iI n16,vS o17 k40 k41] fun w21=>∃ o18 k43 k44,World.cell? w21 (Addr.add (aM k42) 2) = some (vS o18 k43 k44)∧∃ (x7:lP [(88,shI)]),∃ (x8:lN [(88,shI)]),x7 0 w21∧∀ (I4:Nat→Value) (n17:Int) (w22:World),x7 n17 w22→br (decide (n17 < (↑k43:Int))) (idx o18 k43 n17 1 fun a4=>∃ n18,World.cell? w22 a4 = some (iI n18)∧∃ n19,World.cell? w22 (aM k42) = some (iI n19)∧∃ n20,World.cell? w22 (Addr.add (aM k42) 1) = some (iI n20)∧new w22 (oC [iI 2,iI n20] 62) fun k45 w23=>RunE Proofs.Tryz.prog Ev 85 [Value.map (some k23),vA (Array.mk [iI n19,iI n18]),vS (some (aM k45)) 1 1] w23 fun v7 w24=>v7 = vT (Array.mk [])∧inI (n17 + 1)∧x7 (n17 + 1) w24∧x8 (n17 + 1) w24 < x8 n17 w22) (inI (n14 + 1)∧x5 (n14 + 1) w22∧x6 (n14 + 1) w22 < x6 n14 w19)) (∀ w25,drawn w19 w25→∃ (I5:World→Prop),I5 w25∧∃ o19 k46 k47,(∀ w26,I5 w26→World.cell? w26 (aM k12) = some (vS o19 k46 k47))∧R (vT (Array.mk [Value.map (some k23),iI (↑k46:Int),iI 0])) w25))))
set_option maxRecDepth 100000 in
theorem run_table_gather (a:Option Addr) (b c:Nat) (d:Option Addr) (e f:Nat) (g:Option Addr) (i j:Nat) (k:Int) (l:Option Addr) (m n:Nat) (w:World) (R:Value→WP) (h:vc_table_gather a b c d e f g i j k l m n w R):Run Tryz.prog 48 [(.agg #[(.slice a b c),(.slice d e f),(.slice g i j),(.int .i64 k),(.slice l m n)])] w R:=rv Tryz.func48 ann_table_gather (by kernel_rfl) h

abbrev n_table_sheet_put:FuncId:=85
def ann_table_sheet_put:Ann:={ rngs:=[],loops:=[],joins:=[],blocks:=[] }
set_option maxRecDepth 100000 in
def vc_table_sheet_put (a:Option Nat) (b c:Int) (d:Option Addr) (e f:Nat) (w:World) (R:Value→WP):Prop :=  new w (oC [iI b,iI c] 95) fun k1 w1=>∃ n1 n2,V.rowAt w1 (aM k1) 0 2 = some [iI n1,iI n2]∧RunS Proofs.Tryz.prog (Instr.mapEntry 91 (Value.map a) (vG [iI n1,iI n2])) w1 fun v1 w2=>∃ o1 k2 k3 n3,v1 = vT (Array.mk [vS o1 k2 k3,iI n3])∧RunS Proofs.Tryz.prog (apB 38 (Array.mk [vS o1 k2 k3,vS d e f])) w2 fun v2 w3=>∃ o2 k4 k5,v2 = vS o2 k4 k5∧RunS Proofs.Tryz.prog (Instr.entryStore 91 (Value.map a) (iI n3) (vS o2 k4 k5)) w3 fun (x1:Unit) (w4:World)=>R (vT (Array.mk [])) w4
set_option maxRecDepth 100000 in
theorem run_table_sheet_put (a:Option Nat) (b c:Int) (d:Option Addr) (e f:Nat) (w:World) (R:Value→WP) (h:vc_table_sheet_put a b c d e f w R):Run Tryz.prog 85 [(.map a),(.agg #[(.int .i64 b),(.int .i64 c)]),(.slice d e f)] w R:=rv Tryz.func85 ann_table_sheet_put (by kernel_rfl) h

abbrev n_table_gather_S1:FuncId:=88
def ann_table_gather_S1:Ann:={ rngs:=[],loops:=[],joins:=[],blocks:=[] }
set_option maxRecDepth 100000 in
def vc_table_gather_S1 (a b:Int) (c:Option Addr) (d e:Nat) (f g:Int) (i:Option Addr) (j k:Nat) (w:World) (R:Value→WP):Prop :=  new w (oC [iI a,iI b,vS c d e] 58) fun k1 w1=>new w1 (oC [iI f,iI g,vS i j k] 58) fun k2 w2=>∃ n1,World.cell? w2 (Addr.add (aM k1) 1) = some (iI n1)∧∃ n2,World.cell? w2 (Addr.add (aM k2) 1) = some (iI n2)∧inI (n1 - n2)∧R (iI (n1 - n2)) w2
set_option maxRecDepth 100000 in
theorem run_table_gather_S1 (a b:Int) (c:Option Addr) (d e:Nat) (f g:Int) (i:Option Addr) (j k:Nat) (w:World) (R:Value→WP) (h:vc_table_gather_S1 a b c d e f g i j k w R):Run Tryz.prog 88 [(.agg #[(.int .i64 a),(.int .i64 b),(.slice c d e)]),(.agg #[(.int .i64 f),(.int .i64 g),(.slice i j k)])] w R:=rv Tryz.func88 ann_table_gather_S1 (by kernel_rfl) h

end Go.Proofs.YtndaepmjkbmjmaaGreatDoor
set_option linter.unusedVariables false
set_option maxRecDepth 4000
namespace Go.V
instance:MKey2 PlcT:={ val:=fun k=>.agg ⟨[.int .i64 k.st,.int .i64 k.tm]⟩,inj:=fun a b h=>by cases a; cases b; simp at h; obtain ⟨h1,h2⟩:=h; subst h1; subst h2; rfl,a:=PlcT.st,b:=PlcT.tm,val2:=fun _=>rfl,ext:=fun k l h1 h2=>by cases k; cases l; cases h1; cases h2; rfl }
def encA (x:ActT):List Value:=[.int .i64 x.kind,.int .i64 x.to]
def acV (xs:List ActT):List Value:=xs.flatMap encA
theorem acV_len (xs:List ActT):(acV xs).length = xs.length * 2:=fm_len (f:=encA) (n:=2) (fun _=>rfl) xs
theorem acV_app (xs ys:List ActT):acV (xs ++ ys) = acV xs ++ acV ys:=List.flatMap_append
instance:Rep ActT:={ n:=2,rd:=fun _ x vs=>vs = encA x,mono:=fun _ h=>h,len:=fun h=>by rw [h]; rfl }
def GatI (ps:List (PlcT × Lq ActT)) (pt:PutL):Prop:=(ps.map Prod.fst).Nodup∧∀ p,getK p ps = atP pt p
theorem GatI.nil:GatI [] []:=⟨by simp,fun p=>rfl⟩
theorem GatI.put {ps:List (PlcT × Lq ActT)} {pt:PutL} (h:GatI ps pt) {p:PlcT} {a:ActT} {q:Lq ActT} (hq:q.2 = getK p ps ++ [a]):GatI (putK p q ps) (pt ++ [(p,a)]):=by
  refine ⟨putK_nd _ h.1,fun k=>?_⟩
  rw [getK_put,atP_app]
  by_cases e:k = p
  · subst e; rw [if_pos rfl,hq,h.2]; simp [atP]
  · rw [if_neg e,h.2]
    have:atP [(p,a)] k = []:=atP_none fun x hx e2=>by simp at hx; subst hx; exact e e2.symm
    rw [this,List.append_nil]
end Go.V
namespace Go.Proofs.YtndaepmjkbmjmaaGreatDoor
open Go.V
variable {w:World} {L:List Asn} {g:GramT} {x:GA}
theorem two_place : Two Tryz.prog ty_table_place ty_int { name := "state", type := ty_int, offset := 0, embedded := false, tag := "", pkgPath := "presage/table", byteOffset := 0 } { name := "term", type := ty_int, offset := 1, embedded := false, tag := "", pkgPath := "presage/table", byteOffset := 8 } where
  ht:=by kernel_rfl
  hf:=by kernel_rfl
  hi:=und_int
  ht0:=rfl
  ht1:=rfl
  n0:=by decide
  n1:=by decide
  o0:=rfl
  o1:=rfl
  sih:=sih_table_place
theorem key_place:KeyP Tryz.prog ty_table_place PlcT:=KeyP.two two_place
theorem y_put {b ka:Nat} {ps:List (PlcT × Lq ActT)} {pt:PutL} {q t:Int} {a:ActT} (h:St w (cel ka (encA a) :: mapA b (mV ps) :: sta (mO 2 acV ps) :: L)) (hG:GatI ps pt) (hb:pt.length≤100000000) :
    Run Tryz.prog n_table_sheet_put [.map (some b),.agg #[.int .i64 q,.int .i64 t],.slice (some (aM ka)) 1 1] w fun v w'=>v = .tuple #[]∧∃ ps',GatI ps' (pt ++ [(⟨q,t⟩,a)])∧St w' (mapA b (mV ps') :: sta (mO 2 acV ps') :: L):=by
  refine run_table_sheet_put _ _ _ _ _ _ w _ (newC_i h fun k1 w1 h=>⟨_,_,(rdCel 0 h.l).at (sub.refl _) rfl,?_⟩)
  refine (map_take (κ:=PlcT) tyOk (rfl:kdOfT Ty _ = .map _ _) key_place rfl rfl (h.pick 3 [2,0,1]) ⟨q,t⟩).mono ?_
  rintro _ w2 ⟨n,rfl,h⟩
  obtain ⟨e,M,e1,e2,he,back⟩:=mS_take rfl (h.pick 4 [3,0,1,2]) ⟨q,t⟩
  have hel:e.2.length≤pt.length:=by
    rw [e2,hG.2]
    unfold atP
    rw [List.length_map]
    exact List.length_filter_le _ _
  rw [e1] at he ⊢
  refine ⟨_,_,_,_,rfl,?_⟩
  refine (app_one (us:=acV e.2) (vs:=encA a) tyOk (rfl:kdOfT Ty _ = .slice _) (rfl:kdOfT Ty _ = .slice _) rfl rfl rfl (he.pick 5 [4,0,1,2,3]) rfl (by simp [oneC,encA]) (by show (e.2.length + 1) * 16≤_; omega) (by omega)).mono ?_
  rintro _ w3 ⟨o',c',rfl,h⟩
  refine ⟨_,_,_,rfl,(map_back (h.pick 5 [3,0,2]) _).mono ?_⟩
  rintro _ w4 h
  rw [aput_aput] at h
  have h:=mS_put back (e.2 ++ [a]) (by simp) (by rw [acV_app]; rfl) h
  exact ⟨rfl,_,hG.put (by show e.2 ++ [a] = _; rw [e2]),h⟩
end Go.Proofs.YtndaepmjkbmjmaaGreatDoor
set_option linter.unusedVariables false
set_option maxRecDepth 4000
namespace Go.V
section
variable {α : Type} {f:α→List Value} {sz n c i:Nat} {w:World} {L:List Asn} {o:Option Addr} {xs:List α}
theorem fmR (hf:∀ x,(f x).length = sz) (h0:0 < sz) (h:St w (own sz o n c (xs.flatMap f) :: L)) {x:α} (hx:xs[i]? = some x):∃ ad,o = some ad∧rowH (hp w) (ad.add (mulS i sz)) (f x):=by
  rcases rdOv 0 h.l with e | ⟨ad,e,hc⟩
  · have h1:=congrArg List.length e
    rw [fm_len hf,List.length_nil] at h1
    have h2:=(List.getElem?_eq_some_iff.1 hx).1
    have:0 < xs.length * sz:=Nat.mul_pos (by omega) h0
    omega
  · exact ⟨ad,e,rowH_unflat hf xs ad hc i x hx⟩
theorem fm_split (hf:∀ x,(f x).length = sz) {y:α} (hi:i < xs.length):(xs.flatMap f).take (i * sz) ++ f y ++ (xs.flatMap f).drop (i * sz + (f y).length) = (xs.set i y).flatMap f:=by
  have e:xs = xs.take i ++ xs[i] :: xs.drop (i + 1):=by rw [← List.drop_eq_getElem_cons hi,List.take_append_drop]
  have l1:((xs.take i).flatMap f).length = i * sz:=by rw [fm_len hf,List.length_take]; congr 1; omega
  have e1:xs.flatMap f = (xs.take i).flatMap f ++ (f xs[i] ++ (xs.drop (i + 1)).flatMap f):=by
    have:=congrArg (fun l=>l.flatMap f) e
    simp only [List.flatMap_append,List.flatMap_cons] at this
    exact this
  have e2:(xs.set i y).flatMap f = (xs.take i).flatMap f ++ (f y ++ (xs.drop (i + 1)).flatMap f):=by
    rw [List.set_eq_take_append_cons_drop,if_pos hi,List.flatMap_append,List.flatMap_cons]
  rw [e1,e2,← l1,List.take_left,hf,← hf xs[i],List.append_assoc]
  congr 2
  rw [List.drop_append,List.drop_of_length_le (by omega),Nat.add_sub_cancel_left,List.nil_append,List.drop_left]
theorem fmW (hf:∀ x,(f x).length = sz) (h0:0 < sz) (h1:∀ x,∀ v∈f x,oneC v = true) {ad:Addr} {y:α} {k:World→Prop} (h:St w (own sz o n c (xs.flatMap f) :: L)) (ha:o = some ad) (hi:i < xs.length) (hk:∀ w',St w' (own sz o n c ((xs.set i y).flatMap f) :: L)→k w'):stR w (ad.add (mulS i sz)) (f y) k:=by
  rw [mulS_eq]
  refine own_stR h ha ?_ (h1 y) (by rw [hf]; exact h0) fun w' h=>hk w' ?_
  · rw [fm_len hf,hf]
    have:(i + 1) * sz≤xs.length * sz:=Nat.mul_le_mul_right _ hi
    rw [Nat.succ_mul] at this
    exact this
  · rw [fm_split hf hi] at h; exact h
end
end Go.V
set_option linter.unusedVariables false
namespace Go.Proofs.YtndaepmjkbmjmaaGreatDoor
open Go.V
abbrev n_slices_SortStableFunc_api_Look_api_Look_:FuncId:=87
def ann_slices_SortStableFunc_api_Look_api_Look_:Ann:={ rngs:=[],loops:=[],joins:=[],blocks:=[] }
set_option maxRecDepth 100000 in
def vc_slices_SortStableFunc_api_Look_api_Look_ (a:Option Addr) (b c:Nat) (d:FuncId) (e:List Value) (w:World) (R:Value→WP):Prop :=  RunE Proofs.Tryz.prog Ev 137 [vS a b c,iI (↑b:Int),Value.func (Fn.func d) (Array.mk []) (Array.mk e)] w fun v1 w1=>v1 = vT (Array.mk [])∧R (vT (Array.mk [])) w1
set_option maxRecDepth 100000 in
theorem run_slices_SortStableFunc_api_Look_api_Look_ (a:Option Addr) (b c:Nat) (d:FuncId) (e:List Value) (w:World) (R:Value→WP) (h:vc_slices_SortStableFunc_api_Look_api_Look_ a b c d e w R):Run Tryz.prog 87 [(.slice a b c),(.func (.func d) #[] ⟨e⟩)] w R:=rv Tryz.func87 ann_slices_SortStableFunc_api_Look_api_Look_ (by kernel_rfl) h

abbrev n_slices_stableCmpFunc_api_Look_:FuncId:=137
def ann_slices_stableCmpFunc_api_Look_:Ann:={ rngs:=[],loops:=[(2,[(7,(.one (.int .i64))),(8,(.one (.int .i64)))]),(7,[(6,(.one (.int .i64)))]),(9,[(7,(.one (.int .i64))),(8,(.one (.int .i64)))])],joins:=[],blocks:=[] }
set_option maxRecDepth 100000 in
def vc_slices_stableCmpFunc_api_Look_ (a:Option Addr) (b c:Nat) (d:Int) (e:FuncId) (f:List Value) (w:World) (R:Value→WP):Prop :=  ∃ (x1:lP [(7,shI),(8,shI)]),∃ (x2:lN [(7,shI),(8,shI)]),x1 0 20 w∧∀ (I1:Nat→Value) (n1 n2:Int) (w1:World),x1 n1 n2 w1→br (decide (n2≤d)) (RunE Proofs.Tryz.prog Ev 181 [vS a b c,iI n1,iI n2,Value.func (Fn.func e) (Array.mk []) (Array.mk f)] w1 fun v1 w2=>v1 = vT (Array.mk [])∧inI (n2 + 20)∧x1 n2 (n2 + 20) w2∧x2 n2 (n2 + 20) w2 < x2 n1 n2 w1) (RunE Proofs.Tryz.prog Ev 181 [vS a b c,iI n1,iI d,Value.func (Fn.func e) (Array.mk []) (Array.mk f)] w1 fun v2 w3=>v2 = vT (Array.mk [])∧∃ (x3:lP [(6,shI)]),∃ (x4:lN [(6,shI)]),x3 20 w3∧∀ (I2:Nat→Value) (n3:Int) (w4:World),x3 n3 w4→br (decide (n3 < d)) (inI (2 * n3)∧∃ (x5:lP [(7,shI),(8,shI)]),∃ (x6:lN [(7,shI),(8,shI)]),x5 0 (2 * n3) w4∧∀ (I3:Nat→Value) (n4 n5:Int) (w5:World),x5 n4 n5 w5→br (decide (n5≤d)) (inI (n4 + n3)∧RunE Proofs.Tryz.prog Ev 182 [vS a b c,iI n4,iI (n4 + n3),iI n5,Value.func (Fn.func e) (Array.mk []) (Array.mk f)] w5 fun v3 w6=>v3 = vT (Array.mk [])∧inI (2 * n3)∧inI (n5 + 2 * n3)∧x5 n5 (n5 + 2 * n3) w6∧x6 n5 (n5 + 2 * n3) w6 < x6 n4 n5 w5) (inI (n4 + n3)∧br (decide (n4 + n3 < d)) (RunE Proofs.Tryz.prog Ev 182 [vS a b c,iI n4,iI (n4 + n3),iI d,Value.func (Fn.func e) (Array.mk []) (Array.mk f)] w5 fun v4 w7=>v4 = vT (Array.mk [])∧inI (n3 * 2)∧x3 (n3 * 2) w7∧x4 (n3 * 2) w7 < x4 n3 w4) (inI (n3 * 2)∧x3 (n3 * 2) w5∧x4 (n3 * 2) w5 < x4 n3 w4))) (R (vT (Array.mk [])) w4))
set_option maxRecDepth 100000 in
theorem run_slices_stableCmpFunc_api_Look_ (a:Option Addr) (b c:Nat) (d:Int) (e:FuncId) (f:List Value) (w:World) (R:Value→WP) (h:vc_slices_stableCmpFunc_api_Look_ a b c d e f w R):Run Tryz.prog 137 [(.slice a b c),(.int .i64 d),(.func (.func e) #[] ⟨f⟩)] w R:=rv Tryz.func137 ann_slices_stableCmpFunc_api_Look_ (by kernel_rfl) h

abbrev n_slices_insertionSortCmpFunc_api_Look_:FuncId:=181
def ann_slices_insertionSortCmpFunc_api_Look_:Ann:={ rngs:=[],loops:=[(1,[(8,(.one (.int .i64)))]),(4,[(9,(.one (.int .i64)))])],joins:=[],blocks:=[] }
set_option maxRecDepth 100000 in
def vc_slices_insertionSortCmpFunc_api_Look_ (a:Option Addr) (b c:Nat) (d e:Int) (f:FuncId) (g:List Value) (w:World) (R:Value→WP):Prop :=  inI (d + 1)∧∃ (x1:lP [(8,shI)]),∃ (x2:lN [(8,shI)]),x1 (d + 1) w∧∀ (I1:Nat→Value) (n1:Int) (w1:World),x1 n1 w1→br (decide (n1 < e)) (∃ (x3:lP [(9,shI)]),∃ (x4:lN [(9,shI)]),x3 n1 w1∧∀ (I2:Nat→Value) (n2:Int) (w2:World),x3 n2 w2→∀ w3,drawn w2 w3→∃ (I3:World→Prop),I3 w3∧br (decide (d < n2)) (idx a b n2 3 fun a1=>∃ n3 n4 o1 k1 k2,(∀ w4,I3 w4→V.rowAt w4 a1 0 3 = some [iI n3,iI n4,vS o1 k1 k2])∧inI (n2 - 1)∧idx a b (n2 - 1) 3 fun a2=>∃ n5 n6 o2 k3 k4,(∀ w5,I3 w5→V.rowAt w5 a2 0 3 = some [iI n5,iI n6,vS o2 k3 k4])∧ifT (Proofs.YtndaepmjkbmjmaaGreatDoor.Fn f) (RunE Proofs.Tryz.prog Ev f (vA (Array.mk [iI n3,iI n4,vS o1 k1 k2]) :: vA (Array.mk [iI n5,iI n6,vS o2 k3 k4]) :: g) w3 fun v1 w6=>∃ n7,v1 = iI n7∧I3 w6∧br (decide (n7 < 0)) (∀ w7,drawn w6 w7→∃ (I4:World→Prop),I4 w7∧inI (n2 - 1)∧inI (n2 - 1)∧idx a b (n2 - 1) 3 fun a3=>∃ n8 n9 o3 k5 k6,(∀ w8,I4 w8→V.rowAt w8 a3 0 3 = some [iI n8,iI n9,vS o3 k5 k6])∧idx a b n2 3 fun a4=>∃ n10 n11 o4 k7 k8,(∀ w9,I4 w9→V.rowAt w9 a4 0 3 = some [iI n10,iI n11,vS o4 k7 k8])∧idx a b n2 3 fun a5=>stR w7 a5 [iI n8,iI n9,vS o3 k5 k6] fun w10=>idx a b (n2 - 1) 3 fun a6=>stR w10 a6 [iI n10,iI n11,vS o4 k7 k8] fun w11=>inI (n2 - 1)∧x3 (n2 - 1) w11∧x4 (n2 - 1) w11 < x4 n2 w2) (inI (n1 + 1)∧x1 (n1 + 1) w6∧x2 (n1 + 1) w6 < x2 n1 w1))) (inI (n1 + 1)∧x1 (n1 + 1) w3∧x2 (n1 + 1) w3 < x2 n1 w1)) (R (vT (Array.mk [])) w1)
set_option maxRecDepth 100000 in
theorem run_slices_insertionSortCmpFunc_api_Look_ (a:Option Addr) (b c:Nat) (d e:Int) (f:FuncId) (g:List Value) (w:World) (R:Value→WP) (h:vc_slices_insertionSortCmpFunc_api_Look_ a b c d e f g w R):Run Tryz.prog 181 [(.slice a b c),(.int .i64 d),(.int .i64 e),(.func (.func f) #[] ⟨g⟩)] w R:=rv Tryz.func181 ann_slices_insertionSortCmpFunc_api_Look_ (by kernel_rfl) h

abbrev n_slices_symMergeCmpFunc_api_Look_:FuncId:=182
def ann_slices_symMergeCmpFunc_api_Look_:Ann:={ rngs:=[],loops:=[(3,[(10,(.one (.int .i64))),(11,(.one (.int .i64)))]),(9,[(13,(.one (.int .i64)))]),(15,[(14,(.one (.int .i64))),(15,(.one (.int .i64)))]),(21,[(17,(.one (.int .i64)))]),(33,[(20,(.one (.int .i64))),(21,(.one (.int .i64)))])],joins:=[(32,[(20,(.one (.int .i64))),(21,(.one (.int .i64)))]),(41,[])],blocks:=[] }
set_option maxRecDepth 100000 in
def vc_slices_symMergeCmpFunc_api_Look_ (a:Option Addr) (b c:Nat) (d e f:Int) (g:FuncId) (i:List Value) (w:World) (R:Value→WP):Prop :=  inI (e - d)∧br (e - d == 1) (∃ (x1:lP [(10,shI),(11,shI)]),∃ (x2:lN [(10,shI),(11,shI)]),x1 e f w∧∀ (I1:Nat→Value) (n1 n2:Int) (w1:World),x1 n1 n2 w1→br (decide (n1 < n2)) (inI (n1 + n2)∧ns 1∧inI (shrI IntKind.u64 (IntKind.wrap IntKind.u64 (n1 + n2)) 1)∧∀ w2,drawn w1 w2→∃ (I2:World→Prop),I2 w2∧idx a b (shrI IntKind.u64 (IntKind.wrap IntKind.u64 (n1 + n2)) 1) 3 fun a1=>∃ n3 n4 o1 k1 k2,(∀ w3,I2 w3→V.rowAt w3 a1 0 3 = some [iI n3,iI n4,vS o1 k1 k2])∧idx a b d 3 fun a2=>∃ n5 n6 o2 k3 k4,(∀ w4,I2 w4→V.rowAt w4 a2 0 3 = some [iI n5,iI n6,vS o2 k3 k4])∧ifT (Proofs.YtndaepmjkbmjmaaGreatDoor.Fn g) (RunE Proofs.Tryz.prog Ev g (vA (Array.mk [iI n3,iI n4,vS o1 k1 k2]) :: vA (Array.mk [iI n5,iI n6,vS o2 k3 k4]) :: i) w2 fun v1 w5=>∃ n7,v1 = iI n7∧I2 w5∧br (decide (n7 < 0)) (inI (shrI IntKind.u64 (IntKind.wrap IntKind.u64 (n1 + n2)) 1 + 1)∧x1 (shrI IntKind.u64 (IntKind.wrap IntKind.u64 (n1 + n2)) 1 + 1) n2 w5∧x2 (shrI IntKind.u64 (IntKind.wrap IntKind.u64 (n1 + n2)) 1 + 1) n2 w5 < x2 n1 n2 w1) (x1 n1 (shrI IntKind.u64 (IntKind.wrap IntKind.u64 (n1 + n2)) 1) w5∧x2 n1 (shrI IntKind.u64 (IntKind.wrap IntKind.u64 (n1 + n2)) 1) w5 < x2 n1 n2 w1))) (∃ (x3:lP [(13,shI)]),∃ (x4:lN [(13,shI)]),x3 d w1∧∀ (I3:Nat→Value) (n8:Int) (w6:World),x3 n8 w6→inI (n1 - 1)∧br (decide (n8 < n1 - 1)) (∀ w7,drawn w6 w7→∃ (I4:World→Prop),I4 w7∧inI (n8 + 1)∧inI (n8 + 1)∧idx a b (n8 + 1) 3 fun a3=>∃ n9 n10 o3 k5 k6,(∀ w8,I4 w8→V.rowAt w8 a3 0 3 = some [iI n9,iI n10,vS o3 k5 k6])∧idx a b n8 3 fun a4=>∃ n11 n12 o4 k7 k8,(∀ w9,I4 w9→V.rowAt w9 a4 0 3 = some [iI n11,iI n12,vS o4 k7 k8])∧idx a b n8 3 fun a5=>stR w7 a5 [iI n9,iI n10,vS o3 k5 k6] fun w10=>idx a b (n8 + 1) 3 fun a6=>stR w10 a6 [iI n11,iI n12,vS o4 k7 k8] fun w11=>inI (n8 + 1)∧x3 (n8 + 1) w11∧x4 (n8 + 1) w11 < x4 n8 w6) (R (vT (Array.mk [])) w6))) (inI (f - e)∧br (f - e == 1) (∃ (x5:lP [(14,shI),(15,shI)]),∃ (x6:lN [(14,shI),(15,shI)]),x5 d e w∧∀ (I5:Nat→Value) (n13 n14:Int) (w12:World),x5 n13 n14 w12→br (decide (n13 < n14)) (inI (n13 + n14)∧ns 1∧inI (shrI IntKind.u64 (IntKind.wrap IntKind.u64 (n13 + n14)) 1)∧∀ w13,drawn w12 w13→∃ (I6:World→Prop),I6 w13∧idx a b e 3 fun a7=>∃ n15 n16 o5 k9 k10,(∀ w14,I6 w14→V.rowAt w14 a7 0 3 = some [iI n15,iI n16,vS o5 k9 k10])∧idx a b (shrI IntKind.u64 (IntKind.wrap IntKind.u64 (n13 + n14)) 1) 3 fun a8=>∃ n17 n18 o6 k11 k12,(∀ w15,I6 w15→V.rowAt w15 a8 0 3 = some [iI n17,iI n18,vS o6 k11 k12])∧ifT (Proofs.YtndaepmjkbmjmaaGreatDoor.Fn g) (RunE Proofs.Tryz.prog Ev g (vA (Array.mk [iI n15,iI n16,vS o5 k9 k10]) :: vA (Array.mk [iI n17,iI n18,vS o6 k11 k12]) :: i) w13 fun v2 w16=>∃ n19,v2 = iI n19∧I6 w16∧br (!decide (n19 < 0)) (inI (shrI IntKind.u64 (IntKind.wrap IntKind.u64 (n13 + n14)) 1 + 1)∧x5 (shrI IntKind.u64 (IntKind.wrap IntKind.u64 (n13 + n14)) 1 + 1) n14 w16∧x6 (shrI IntKind.u64 (IntKind.wrap IntKind.u64 (n13 + n14)) 1 + 1) n14 w16 < x6 n13 n14 w12) (x5 n13 (shrI IntKind.u64 (IntKind.wrap IntKind.u64 (n13 + n14)) 1) w16∧x6 n13 (shrI IntKind.u64 (IntKind.wrap IntKind.u64 (n13 + n14)) 1) w16 < x6 n13 n14 w12))) (∃ (x7:lP [(17,shI)]),∃ (x8:lN [(17,shI)]),x7 e w12∧∀ (I7:Nat→Value) (n20:Int) (w17:World),x7 n20 w17→br (decide (n13 < n20)) (∀ w18,drawn w17 w18→∃ (I8:World→Prop),I8 w18∧inI (n20 - 1)∧inI (n20 - 1)∧idx a b (n20 - 1) 3 fun a9=>∃ n21 n22 o7 k13 k14,(∀ w19,I8 w19→V.rowAt w19 a9 0 3 = some [iI n21,iI n22,vS o7 k13 k14])∧idx a b n20 3 fun a10=>∃ n23 n24 o8 k15 k16,(∀ w20,I8 w20→V.rowAt w20 a10 0 3 = some [iI n23,iI n24,vS o8 k15 k16])∧idx a b n20 3 fun a11=>stR w18 a11 [iI n21,iI n22,vS o7 k13 k14] fun w21=>idx a b (n20 - 1) 3 fun a12=>stR w21 a12 [iI n23,iI n24,vS o8 k15 k16] fun w22=>inI (n20 - 1)∧x7 (n20 - 1) w22∧x8 (n20 - 1) w22 < x8 n20 w17) (R (vT (Array.mk [])) w17))) (inI (d + f)∧ns 1∧inI (shrI IntKind.u64 (IntKind.wrap IntKind.u64 (d + f)) 1)∧inI (shrI IntKind.u64 (IntKind.wrap IntKind.u64 (d + f)) 1 + e)∧∃ (x9:lP [(20,shI),(21,shI)]),br (decide (shrI IntKind.u64 (IntKind.wrap IntKind.u64 (d + f)) 1 < e)) (inI (shrI IntKind.u64 (IntKind.wrap IntKind.u64 (d + f)) 1 + e - f)∧x9 (shrI IntKind.u64 (IntKind.wrap IntKind.u64 (d + f)) 1 + e - f) (shrI IntKind.u64 (IntKind.wrap IntKind.u64 (d + f)) 1) w) (x9 d e w)∧∀ (I9:Nat→Value) (n25 n26:Int) (w23:World),x9 n25 n26 w23→inI (shrI IntKind.u64 (IntKind.wrap IntKind.u64 (d + f)) 1 + e - 1)∧∃ (x10:lP [(20,shI),(21,shI)]),∃ (x11:lN [(20,shI),(21,shI)]),x10 n25 n26 w23∧∀ (I10:Nat→Value) (n27 n28:Int) (w24:World),x10 n27 n28 w24→br (decide (n27 < n28)) (inI (n27 + n28)∧ns 1∧inI (shrI IntKind.u64 (IntKind.wrap IntKind.u64 (n27 + n28)) 1)∧∀ w25,drawn w24 w25→∃ (I11:World→Prop),I11 w25∧inI (shrI IntKind.u64 (IntKind.wrap IntKind.u64 (d + f)) 1 + e - 1 - shrI IntKind.u64 (IntKind.wrap IntKind.u64 (n27 + n28)) 1)∧idx a b (shrI IntKind.u64 (IntKind.wrap IntKind.u64 (d + f)) 1 + e - 1 - shrI IntKind.u64 (IntKind.wrap IntKind.u64 (n27 + n28)) 1) 3 fun a13=>∃ n29 n30 o9 k17 k18,(∀ w26,I11 w26→V.rowAt w26 a13 0 3 = some [iI n29,iI n30,vS o9 k17 k18])∧idx a b (shrI IntKind.u64 (IntKind.wrap IntKind.u64 (n27 + n28)) 1) 3 fun a14=>∃ n31 n32 o10 k19 k20,(∀ w27,I11 w27→V.rowAt w27 a14 0 3 = some [iI n31,iI n32,vS o10 k19 k20])∧ifT (Proofs.YtndaepmjkbmjmaaGreatDoor.Fn g) (RunE Proofs.Tryz.prog Ev g (vA (Array.mk [iI n29,iI n30,vS o9 k17 k18]) :: vA (Array.mk [iI n31,iI n32,vS o10 k19 k20]) :: i) w25 fun v3 w28=>∃ n33,v3 = iI n33∧I11 w28∧br (!decide (n33 < 0)) (inI (shrI IntKind.u64 (IntKind.wrap IntKind.u64 (n27 + n28)) 1 + 1)∧x10 (shrI IntKind.u64 (IntKind.wrap IntKind.u64 (n27 + n28)) 1 + 1) n28 w28∧x11 (shrI IntKind.u64 (IntKind.wrap IntKind.u64 (n27 + n28)) 1 + 1) n28 w28 < x11 n27 n28 w24) (x10 n27 (shrI IntKind.u64 (IntKind.wrap IntKind.u64 (n27 + n28)) 1) w28∧x11 n27 (shrI IntKind.u64 (IntKind.wrap IntKind.u64 (n27 + n28)) 1) w28 < x11 n27 n28 w24))) (inI (shrI IntKind.u64 (IntKind.wrap IntKind.u64 (d + f)) 1 + e - n27)∧∃ (x12:lP []),br (decide (n27 < e)) (br (decide (e < shrI IntKind.u64 (IntKind.wrap IntKind.u64 (d + f)) 1 + e - n27)) (RunE Proofs.Tryz.prog Ev 232 [vS a b c,iI n27,iI e,iI (shrI IntKind.u64 (IntKind.wrap IntKind.u64 (d + f)) 1 + e - n27),Value.func (Fn.func g) (Array.mk []) (Array.mk i)] w24 fun v4 w29=>v4 = vT (Array.mk [])∧x12 w29) (x12 w24)) (x12 w24)∧∀ (I12:Nat→Value) (w30:World),x12 w30→br (decide (d < n27)) (br (decide (n27 < shrI IntKind.u64 (IntKind.wrap IntKind.u64 (d + f)) 1)) (RunE Proofs.Tryz.prog Ev 182 [vS a b c,iI d,iI n27,iI (shrI IntKind.u64 (IntKind.wrap IntKind.u64 (d + f)) 1),Value.func (Fn.func g) (Array.mk []) (Array.mk i)] w30 fun v5 w31=>v5 = vT (Array.mk [])∧br (decide (shrI IntKind.u64 (IntKind.wrap IntKind.u64 (d + f)) 1 < shrI IntKind.u64 (IntKind.wrap IntKind.u64 (d + f)) 1 + e - n27)) (br (decide (shrI IntKind.u64 (IntKind.wrap IntKind.u64 (d + f)) 1 + e - n27 < f)) (RunE Proofs.Tryz.prog Ev 182 [vS a b c,iI (shrI IntKind.u64 (IntKind.wrap IntKind.u64 (d + f)) 1),iI (shrI IntKind.u64 (IntKind.wrap IntKind.u64 (d + f)) 1 + e - n27),iI f,Value.func (Fn.func g) (Array.mk []) (Array.mk i)] w31 fun v6 w32=>v6 = vT (Array.mk [])∧R (vT (Array.mk [])) w32) (R (vT (Array.mk [])) w31)) (R (vT (Array.mk [])) w31)) (br (decide (shrI IntKind.u64 (IntKind.wrap IntKind.u64 (d + f)) 1 < shrI IntKind.u64 (IntKind.wrap IntKind.u64 (d + f)) 1 + e - n27)) (br (decide (shrI IntKind.u64 (IntKind.wrap IntKind.u64 (d + f)) 1 + e - n27 < f)) (RunE Proofs.Tryz.prog Ev 182 [vS a b c,iI (shrI IntKind.u64 (IntKind.wrap IntKind.u64 (d + f)) 1),iI (shrI IntKind.u64 (IntKind.wrap IntKind.u64 (d + f)) 1 + e - n27),iI f,Value.func (Fn.func g) (Array.mk []) (Array.mk i)] w30 fun v7 w33=>v7 = vT (Array.mk [])∧R (vT (Array.mk [])) w33) (R (vT (Array.mk [])) w30)) (R (vT (Array.mk [])) w30))) (br (decide (shrI IntKind.u64 (IntKind.wrap IntKind.u64 (d + f)) 1 < shrI IntKind.u64 (IntKind.wrap IntKind.u64 (d + f)) 1 + e - n27)) (br (decide (shrI IntKind.u64 (IntKind.wrap IntKind.u64 (d + f)) 1 + e - n27 < f)) (RunE Proofs.Tryz.prog Ev 182 [vS a b c,iI (shrI IntKind.u64 (IntKind.wrap IntKind.u64 (d + f)) 1),iI (shrI IntKind.u64 (IntKind.wrap IntKind.u64 (d + f)) 1 + e - n27),iI f,Value.func (Fn.func g) (Array.mk []) (Array.mk i)] w30 fun v8 w34=>v8 = vT (Array.mk [])∧R (vT (Array.mk [])) w34) (R (vT (Array.mk [])) w30)) (R (vT (Array.mk [])) w30)))))
set_option maxRecDepth 100000 in
theorem run_slices_symMergeCmpFunc_api_Look_ (a:Option Addr) (b c:Nat) (d e f:Int) (g:FuncId) (i:List Value) (w:World) (R:Value→WP) (h:vc_slices_symMergeCmpFunc_api_Look_ a b c d e f g i w R):Run Tryz.prog 182 [(.slice a b c),(.int .i64 d),(.int .i64 e),(.int .i64 f),(.func (.func g) #[] ⟨i⟩)] w R:=rv Tryz.func182 ann_slices_symMergeCmpFunc_api_Look_ (by kernel_rfl) h

abbrev n_slices_rotateCmpFunc_api_Look_:FuncId:=232
def ann_slices_rotateCmpFunc_api_Look_:Ann:={ rngs:=[],loops:=[(2,[(10,(.one (.int .i64))),(11,(.one (.int .i64)))])],joins:=[],blocks:=[] }
set_option maxRecDepth 100000 in
def vc_slices_rotateCmpFunc_api_Look_ (a:Option Addr) (b c:Nat) (d e f:Int) (g:FuncId) (i:List Value) (w:World) (R:Value→WP):Prop :=  inI (e - d)∧inI (f - e)∧∃ (x1:lP [(10,shI),(11,shI)]),∃ (x2:lN [(10,shI),(11,shI)]),x1 (e - d) (f - e) w∧∀ (I1:Nat→Value) (n1 n2:Int) (w1:World),x1 n1 n2 w1→br (n1 != n2) (br (decide (n2 < n1)) (inI (e - n1)∧RunE Proofs.Tryz.prog Ev 256 [vS a b c,iI (e - n1),iI e,iI n2,Value.func (Fn.func g) (Array.mk []) (Array.mk i)] w1 fun v1 w2=>v1 = vT (Array.mk [])∧inI (n1 - n2)∧x1 (n1 - n2) n2 w2∧x2 (n1 - n2) n2 w2 < x2 n1 n2 w1) (inI (e - n1)∧inI (e + n2)∧inI (e + n2 - n1)∧RunE Proofs.Tryz.prog Ev 256 [vS a b c,iI (e - n1),iI (e + n2 - n1),iI n1,Value.func (Fn.func g) (Array.mk []) (Array.mk i)] w1 fun v2 w3=>v2 = vT (Array.mk [])∧inI (n2 - n1)∧x1 n1 (n2 - n1) w3∧x2 n1 (n2 - n1) w3 < x2 n1 n2 w1)) (inI (e - n1)∧RunE Proofs.Tryz.prog Ev 256 [vS a b c,iI (e - n1),iI e,iI n1,Value.func (Fn.func g) (Array.mk []) (Array.mk i)] w1 fun v3 w4=>v3 = vT (Array.mk [])∧R (vT (Array.mk [])) w4)
set_option maxRecDepth 100000 in
theorem run_slices_rotateCmpFunc_api_Look_ (a:Option Addr) (b c:Nat) (d e f:Int) (g:FuncId) (i:List Value) (w:World) (R:Value→WP) (h:vc_slices_rotateCmpFunc_api_Look_ a b c d e f g i w R):Run Tryz.prog 232 [(.slice a b c),(.int .i64 d),(.int .i64 e),(.int .i64 f),(.func (.func g) #[] ⟨i⟩)] w R:=rv Tryz.func232 ann_slices_rotateCmpFunc_api_Look_ (by kernel_rfl) h

abbrev n_slices_swapRangeCmpFunc_api_Look_:FuncId:=256
def ann_slices_swapRangeCmpFunc_api_Look_:Ann:={ rngs:=[],loops:=[(1,[(10,(.one (.int .i64)))])],joins:=[],blocks:=[] }
set_option maxRecDepth 100000 in
def vc_slices_swapRangeCmpFunc_api_Look_ (a:Option Addr) (b c:Nat) (d e f:Int) (g:FuncId) (i:List Value) (w:World) (R:Value→WP):Prop :=  ∃ (x1:lP [(10,shI)]),∃ (x2:lN [(10,shI)]),x1 0 w∧∀ (I1:Nat→Value) (n1:Int) (w1:World),x1 n1 w1→br (decide (n1 < f)) (∀ w2,drawn w1 w2→∃ (I2:World→Prop),I2 w2∧inI (d + n1)∧inI (e + n1)∧inI (e + n1)∧idx a b (e + n1) 3 fun a1=>∃ n2 n3 o1 k1 k2,(∀ w3,I2 w3→V.rowAt w3 a1 0 3 = some [iI n2,iI n3,vS o1 k1 k2])∧inI (d + n1)∧idx a b (d + n1) 3 fun a2=>∃ n4 n5 o2 k3 k4,(∀ w4,I2 w4→V.rowAt w4 a2 0 3 = some [iI n4,iI n5,vS o2 k3 k4])∧idx a b (d + n1) 3 fun a3=>stR w2 a3 [iI n2,iI n3,vS o1 k1 k2] fun w5=>idx a b (e + n1) 3 fun a4=>stR w5 a4 [iI n4,iI n5,vS o2 k3 k4] fun w6=>inI (n1 + 1)∧x1 (n1 + 1) w6∧x2 (n1 + 1) w6 < x2 n1 w1) (R (vT (Array.mk [])) w1)
set_option maxRecDepth 100000 in
theorem run_slices_swapRangeCmpFunc_api_Look_ (a:Option Addr) (b c:Nat) (d e f:Int) (g:FuncId) (i:List Value) (w:World) (R:Value→WP) (h:vc_slices_swapRangeCmpFunc_api_Look_ a b c d e f g i w R):Run Tryz.prog 256 [(.slice a b c),(.int .i64 d),(.int .i64 e),(.int .i64 f),(.func (.func g) #[] ⟨i⟩)] w R:=rv Tryz.func256 ann_slices_swapRangeCmpFunc_api_Look_ (by kernel_rfl) h

end Go.Proofs.YtndaepmjkbmjmaaGreatDoor
set_option linter.unusedVariables false
set_option maxRecDepth 4000
namespace Go.V
abbrev kyQ (b:BkQ):Int:=b.1.2
section
variable {w:World} {L:List Asn} {o:Option Addr} {n c i:Nat} {ds:List BkQ} {x:BkQ}
abbrev rwQ (x:BkQ):List Value:=[.int .i64 x.1.1,.int .i64 x.1.2,.slice x.2.1.1 x.2.2.length x.2.1.2]
theorem bkR (h:St w (own 3 o n c (bkV ds) :: L)) (hx:ds[i]? = some x):∃ ad,o = some ad∧rowH (hp w) (ad.add (mulS i 3)) (rwQ x):=fmR (f:=bkE) (fun _=>rfl) (by decide) h hx
theorem bkW {ad:Addr} {k:World→Prop} (h:St w (own 3 o n c (bkV ds) :: L)) (ha:o = some ad) (hi:i < ds.length) (hk:∀ w',St w' (own 3 o n c (bkV (ds.set i x)) :: L)→k w'):stR w (ad.add (mulS i 3)) (rwQ x) k :=
  fmW (f:=bkE) (fun _=>rfl) (by decide) (fun x v hv=>by simp [bkE,slQ] at hv; rcases hv with rfl | rfl | rfl <;> rfl) h ha hi hk
theorem bk_n (h:St w (own 3 o n c (bkV ds) :: L)):n = ds.length:=by have:=own_len h; rw [bkV_len] at this; omega
end
end Go.V
namespace Go.Proofs.YtndaepmjkbmjmaaGreatDoor
open Go.V
section
variable {w:World} {L:List Asn} {o:Option Addr} {n c:Nat} {d:FuncId} {e:List Value}
theorem s_swapR {A X M Y C:List BkQ} {xs:List BkQ} {k:Nat} {a b:Int} (h:St w (own 3 o n c (bkV xs) :: L)) (hxs:xs = A ++ (X ++ (M ++ (Y ++ C)))) (ha:a = A.length) (hb:b = ((A.length + X.length + M.length:Nat):Int)) (hX:X.length = k) (hY:Y.length = k) (hn:xs.length≤1000000) :
    Run Tryz.prog n_slices_swapRangeCmpFunc_api_Look_ [.slice o n c,.int .i64 a,.int .i64 b,.int .i64 (k:Int),.func (.func d) #[] ⟨e⟩] w fun v w'=>v = .tuple #[]∧St w' (own 3 o n c (bkV (A ++ (Y ++ (M ++ (X ++ C))))) :: L):=by
  have hnl:=bk_n h
  have hl:xs.length = A.length + X.length + M.length + Y.length + C.length:=by rw [hxs]; simp; omega
  subst ha hb
  refine run_slices_swapRangeCmpFunc_api_Look_ _ _ _ _ _ _ _ _ w _ ⟨fun z w'=>∃ i:Nat,z = i∧i≤k∧St w' (own 3 o n c (bkV (A ++ (Y.take i ++ (X.drop i ++ (M ++ (X.take i ++ (Y.drop i ++ C))))))) :: L),fun z _=>k - z.toNat,⟨0,rfl,Nat.zero_le _,by simp only [List.take_zero,List.drop_zero,List.nil_append]; rw [← hxs]; exact h⟩,?_⟩
  clear h
  rintro _ _ w1 ⟨i,rfl,hi,h⟩
  refine br_intro (fun h1=>?_) fun h1=>?_
  rotate_left
  · have h1:i = k:=by have:=of_decide_eq_false h1; omega
    subst h1
    rw [List.take_of_length_le (by omega),List.drop_of_length_le (by omega),List.take_of_length_le (by omega),List.drop_of_length_le (by omega),List.nil_append,List.nil_append] at h
    exact ⟨rfl,h⟩
  have h1:i < k:=by have:=of_decide_eq_true h1; omega
  intro w2 hd
  have h:=h.eq (drawn_hp hd)
  obtain ⟨x,hx⟩ : ∃ x,X[i]? = some x:=⟨_,List.getElem?_eq_getElem (by omega)⟩
  obtain ⟨y,hy⟩ : ∃ y,Y[i]? = some y:=⟨_,List.getElem?_eq_getElem (by omega)⟩
  obtain ⟨D,hD⟩ : ∃ D,D = A ++ (Y.take i ++ (X.drop i ++ (M ++ (X.take i ++ (Y.drop i ++ C))))):=⟨_,rfl⟩
  have eX:X.drop i = x :: X.drop (i + 1):=by rw [List.drop_eq_getElem_cons (by omega)]; congr 1; rw [List.getElem?_eq_getElem (by omega)] at hx; exact Option.some.inj hx
  have eY:Y.drop i = y :: Y.drop (i + 1):=by rw [List.drop_eq_getElem_cons (by omega)]; congr 1; rw [List.getElem?_eq_getElem (by omega)] at hy; exact Option.some.inj hy
  have e1:D = (A ++ Y.take i) ++ x :: ((X.drop (i + 1) ++ (M ++ X.take i)) ++ y :: (Y.drop (i + 1) ++ C)):=by rw [hD,eX,eY]; simp
  have l1:(A ++ Y.take i).length = A.length + i:=by simp; omega
  have l2:(X.drop (i + 1) ++ (M ++ X.take i)).length = X.length - (i + 1) + (M.length + i):=by simp; omega
  have e2:(D.set (A.length + i) y).set (A.length + X.length + M.length + i) x = A ++ (Y.take (i + 1) ++ (X.drop (i + 1) ++ (M ++ (X.take (i + 1) ++ (Y.drop (i + 1) ++ C))))):=by
    rw [e1,set_swap (by omega) (by omega),List.take_add_one,List.take_add_one,hx,hy]; simp
  rw [← hD] at h
  have gx:D[A.length + i]? = some x:=by rw [e1]; exact get_mid (by omega)
  have gy:D[A.length + X.length + M.length + i]? = some y:=by
    rw [e1,show (A ++ Y.take i) ++ x :: ((X.drop (i + 1) ++ (M ++ X.take i)) ++ y :: (Y.drop (i + 1) ++ C)) = ((A ++ Y.take i) ++ x :: (X.drop (i + 1) ++ (M ++ X.take i))) ++ y :: (Y.drop (i + 1) ++ C) by simp]
    exact get_mid (by simp only [List.length_append,List.length_cons] at *; omega)
  have hDl:D.length = n:=(bk_n h).symm
  obtain ⟨ad,ho,rx⟩:=bkR h gx
  obtain ⟨ad',ho',ry⟩:=bkR h gy
  rw [ho] at ho'; cases ho'
  have z1:(A.length:Int) + i = ((A.length + i:Nat):Int):=by simp
  have z2:((A.length + X.length + M.length:Nat):Int) + i = ((A.length + X.length + M.length + i:Nat):Int):=by simp
  have hnn:n≤1000000:=by omega
  have b1:A.length + i < n:=by omega
  have b2:A.length + X.length + M.length + i < n:=by omega
  rw [z1,z2]
  refine ⟨fun u=>hp u = hp w2,rfl,⟨by omega,by omega⟩,⟨by omega,by omega⟩,⟨by omega,by omega⟩,idx_n ho b2 ⟨_,_,_,_,_,fun u e=>ry.at (by rw [e]; exact sub.refl _) rfl,⟨by omega,by omega⟩,idx_n ho b1 ⟨_,_,_,_,_,fun u e=>rx.at (by rw [e]; exact sub.refl _) rfl,idx_n ho b1 (bkW (x:=y) h ho (by omega) fun w5 h=>idx_n ho b2 (bkW (x:=x) h ho (by rw [List.length_set]; omega) fun w6 h=>⟨⟨by omega,by omega⟩,⟨i + 1,by simp,h1,?_⟩,msr h1⟩))⟩⟩⟩
  rw [e2] at h
  exact h
theorem s_rotate {A X Y C:List BkQ} {xs:List BkQ} {a m b:Int} (h:St w (own 3 o n c (bkV xs) :: L)) (hxs:xs = A ++ (X ++ (Y ++ C))) (ha:a = A.length) (hm:m = ((A.length + X.length:Nat):Int)) (hb:b = ((A.length + X.length + Y.length:Nat):Int)) (hX:X≠[]) (hY:Y≠[]) (hn:xs.length≤1000000) :
    Run Tryz.prog n_slices_rotateCmpFunc_api_Look_ [.slice o n c,.int .i64 a,.int .i64 m,.int .i64 b,.func (.func d) #[] ⟨e⟩] w fun v w'=>v = .tuple #[]∧St w' (own 3 o n c (bkV (A ++ (Y ++ (X ++ C)))) :: L):=by
  have hl:xs.length = A.length + X.length + Y.length + C.length:=by rw [hxs]; simp; omega
  have hX1:=List.length_pos_iff.2 hX
  have hY1:=List.length_pos_iff.2 hY
  subst ha hm hb
  obtain ⟨T,hT⟩ : ∃ T,T = A ++ (Y ++ (X ++ C)):=⟨_,rfl⟩
  have hTl:T.length = xs.length:=by rw [hT,hl]; simp; omega
  rw [← hT]
  obtain ⟨E,hE⟩ : ∃ E,E = A.length + X.length:=⟨_,rfl⟩
  refine run_slices_rotateCmpFunc_api_Look_ _ _ _ _ _ _ _ _ w _ ⟨⟨by omega,by omega⟩,⟨by omega,by omega⟩,fun y z w'=>∃ A X Y C:List BkQ,y = (X.length:Int)∧z = (Y.length:Int)∧X≠[]∧Y≠[]∧A.length + X.length = E∧A ++ (Y ++ (X ++ C)) = T∧St w' (own 3 o n c (bkV (A ++ (X ++ (Y ++ C)))) :: L),fun y z _=>y.toNat + z.toNat,⟨A,X,Y,C,by omega,by omega,hX,hY,hE.symm,hT.symm,by rw [← hxs]; exact h⟩,?_⟩
  rw [← hE]
  clear h hxs hX hY hX1 hY1
  rintro _ _ _ w1 ⟨A1,X1,Y1,C1,rfl,rfl,hX,hY,hm,hT1,h⟩
  have hX1:=List.length_pos_iff.2 hX
  have hY1:=List.length_pos_iff.2 hY
  have hl1:A1.length + (Y1.length + (X1.length + C1.length)) = T.length:=by rw [← hT1]; simp
  refine br_intro (fun h1=>?_) fun h1=>?_
  rotate_left
  · have h1:(X1.length:Int) = Y1.length:=by simpa using h1
    have h1:X1.length = Y1.length:=by omega
    refine ⟨⟨by omega,by omega⟩,(s_swapR (A:=A1) (X:=X1) (M:=[]) (Y:=Y1) (C:=C1) (k:=X1.length) h (by simp) (by omega) (by simp; omega) rfl h1.symm (by simp; omega)).mono ?_⟩
    rintro _ w4 ⟨rfl,h⟩
    rw [List.nil_append,hT1] at h
    exact ⟨rfl,rfl,h⟩
  have h1:(X1.length:Int)≠Y1.length:=by simpa using h1
  have h1:X1.length≠Y1.length:=by omega
  refine br_intro (fun h2=>?_) fun h2=>?_
  · have h2:Y1.length < X1.length:=by have:=of_decide_eq_true h2; omega
    refine ⟨⟨by omega,by omega⟩,(s_swapR (A:=A1) (X:=X1.take Y1.length) (M:=X1.drop Y1.length) (Y:=Y1) (C:=C1) (k:=Y1.length) h (by rw [← List.append_assoc (X1.take _),List.take_append_drop]) (by omega) (by simp; omega) (by simp; omega) rfl (by simp; omega)).mono ?_⟩
    rintro _ w2 ⟨rfl,h⟩
    refine ⟨rfl,⟨by omega,by omega⟩,⟨A1 ++ Y1,X1.drop Y1.length,X1.take Y1.length,C1,by simp; omega,by simp; omega,fun hh=>?_,fun hh=>?_,by simp; omega,?_,by simpa using h⟩,?_⟩
    · have:=congrArg List.length hh; simp only [List.length_take,List.length_drop,List.length_nil] at this; omega
    · have:=congrArg List.length hh; simp only [List.length_take,List.length_drop,List.length_nil] at this; omega
    · rw [← hT1,List.append_assoc,← List.append_assoc (X1.take _),List.take_append_drop]
    · show ((X1.length:Int) - Y1.length).toNat + (Y1.length:Int).toNat < (X1.length:Int).toNat + (Y1.length:Int).toNat
      omega
  · have h2:X1.length < Y1.length:=by have:=of_decide_eq_false h2; omega
    refine ⟨⟨by omega,by omega⟩,⟨by omega,by omega⟩,⟨by omega,by omega⟩,(s_swapR (A:=A1) (X:=X1) (M:=Y1.take (Y1.length - X1.length)) (Y:=Y1.drop (Y1.length - X1.length)) (C:=C1) (k:=X1.length) h (by rw [← List.append_assoc (Y1.take _),List.take_append_drop]) (by omega) (by simp; omega) rfl (by simp; omega) (by simp; omega)).mono ?_⟩
    rintro _ w3 ⟨rfl,h⟩
    refine ⟨rfl,⟨by omega,by omega⟩,⟨A1,Y1.drop (Y1.length - X1.length),Y1.take (Y1.length - X1.length),X1 ++ C1,by simp; omega,by simp; omega,fun hh=>?_,fun hh=>?_,by simp; omega,?_,by simpa using h⟩,?_⟩
    · have:=congrArg List.length hh; simp only [List.length_take,List.length_drop,List.length_nil] at this; omega
    · have:=congrArg List.length hh; simp only [List.length_take,List.length_drop,List.length_nil] at this; omega
    · rw [← hT1,← List.append_assoc (Y1.take _),List.take_append_drop]
    · show (X1.length:Int).toNat + ((Y1.length:Int) - X1.length).toNat < (X1.length:Int).toNat + (Y1.length:Int).toNat
      omega
def sml (x:BkQ):Prop:=0≤x.1.2∧x.1.2≤1000000
def CmpQ (d:FuncId) (e:List Value):Prop:=Fn d = true∧∀ (x y:BkQ) (u:World),sml x→sml y→Run Tryz.prog d (.agg ⟨rwQ x⟩ :: .agg ⟨rwQ y⟩ :: e) u fun v u'=>∃ z:Int,v = .int .i64 z∧(z < 0↔kyQ x < kyQ y)∧Gr u u'
set_option maxHeartbeats 1000000 in
theorem s_insert {A X C:List BkQ} {xs:List BkQ} {a b:Int} (hc:CmpQ d e) (h:St w (own 3 o n c (bkV xs) :: L)) (hxs:xs = A ++ (X ++ C)) (ha:a = A.length) (hb:b = ((A.length + X.length:Nat):Int)) (hs:∀ x∈X,sml x) (hn:xs.length≤1000000) :
    Run Tryz.prog n_slices_insertionSortCmpFunc_api_Look_ [.slice o n c,.int .i64 a,.int .i64 b,.func (.func d) #[] ⟨e⟩] w fun v w'=>v = .tuple #[]∧∃ S,S.Perm X∧SrK kyQ S∧St w' (own 3 o n c (bkV (A ++ (S ++ C))) :: L):=by
  have hl:xs.length = A.length + X.length + C.length:=by rw [hxs]; simp; omega
  have hnl:=bk_n h
  have hnn:n≤1000000:=by omega
  subst ha hb
  refine run_slices_insertionSortCmpFunc_api_Look_ _ _ _ _ _ _ _ w _ ⟨⟨by omega,by omega⟩,fun z w'=>∃ S R:List BkQ,(S ++ R).Perm X∧SrK kyQ S∧((S≠[]∧z = ((A.length + S.length:Nat):Int))∨(X = []∧z = (A.length:Int) + 1))∧St w' (own 3 o n c (bkV (A ++ (S ++ (R ++ C)))) :: L),fun z _=>A.length + X.length - z.toNat,?_,?_⟩
  · cases hX:X with
    | nil=>rw [hX] at hxs; exact ⟨[],[],.refl _,.nil,.inr ⟨rfl,rfl⟩,by rw [hxs] at h; exact h⟩
    | cons x X'=>rw [hX] at hxs; exact ⟨[x],X',.refl _,List.pairwise_singleton _ _,.inl ⟨by simp,by simp⟩,by rw [hxs] at h; exact h⟩
  clear h
  rintro _ z w1 ⟨S,R,hpm,hS,hz,h⟩
  have hpl:S.length + R.length = X.length:=by have:=hpm.length_eq; simpa using this
  refine br_intro (fun h1=>?_) fun h1=>?_
  rotate_left
  · have h1:=of_decide_eq_false h1
    have hR:R = []:=by
      rcases hz with ⟨_,rfl⟩ | ⟨hX,_⟩
      · exact List.eq_nil_of_length_eq_zero (by omega)
      · rw [hX,List.length_nil] at hpl; exact List.eq_nil_of_length_eq_zero (by omega)
    subst hR
    exact ⟨rfl,S,by simpa using hpm,hS,h⟩
  have h1:=of_decide_eq_true h1
  rcases hz with ⟨hS0,rfl⟩ | ⟨hX,rfl⟩
  rotate_left
  · rw [hX] at h1; simp at h1; omega
  obtain ⟨y,R',rfl⟩ : ∃ y R',R = y :: R':=by
    cases R with
    | nil=>simp at hpl; omega
    | cons y R'=>exact ⟨y,R',rfl⟩
  have hsy:sml y:=hs y (hpm.mem_iff.1 (by simp))
  have hsS:∀ x∈S,sml x:=fun x hx=>hs x (hpm.mem_iff.1 (by simp [hx]))
  refine ⟨fun z w'=>∃ S1 S2:List BkQ,S = S1 ++ S2∧z = ((A.length + S1.length:Nat):Int)∧(∀ u∈S2,kyQ y≤kyQ u)∧St w' (own 3 o n c (bkV (A ++ (S1 ++ y :: (S2 ++ (R' ++ C))))) :: L),fun z _=>z.toNat - A.length,⟨S,[],by simp,by simp,by simp,by simpa using h⟩,?_⟩
  clear h
  rintro _ _ w2 ⟨S1,S2,rfl,rfl,hS2,h⟩
  have hDl:=bk_n h
  have hpl2:S1.length + S2.length + (R'.length + 1) = X.length:=by simpa using hpl
  -- it has its place
  have fin:∀ {w'},(∀ u,S1.getLast? = some u→kyQ u≤kyQ y)→St w' (own 3 o n c (bkV (A ++ (S1 ++ y :: (S2 ++ (R' ++ C))))) :: L)→inI (((A.length + (S1 ++ S2).length:Nat):Int) + 1)∧(∃ S R:List BkQ,(S ++ R).Perm X∧SrK kyQ S∧((S≠[]∧((A.length + (S1 ++ S2).length:Nat):Int) + 1 = ((A.length + S.length:Nat):Int))∨(X = []∧((A.length + (S1 ++ S2).length:Nat):Int) + 1 = (A.length:Int) + 1))∧St w' (own 3 o n c (bkV (A ++ (S ++ (R ++ C)))) :: L))∧A.length + X.length - (((A.length + (S1 ++ S2).length:Nat):Int) + 1).toNat < A.length + X.length - ((A.length + (S1 ++ S2).length:Nat):Int).toNat:=fun {w'} hlast h=>by
    refine ⟨⟨by simp; omega,by simp; omega⟩,⟨S1 ++ y :: S2,R',?_,srk_put hS hlast (fun u hu=>hS2 u (List.mem_of_head? hu)),.inl ⟨by simp,by simp; omega⟩,by simpa using h⟩,by simp; omega⟩
    refine List.Perm.trans ?_ hpm
    simp only [List.append_assoc,List.cons_append]
    refine List.Perm.append_left _ ?_
    exact (List.perm_middle (l₁:=S2) (l₂:=R') (a:=y)).symm
  intro w3 hd
  have h:=h.eq (drawn_hp hd)
  refine ⟨fun u=>Gr w3 u,Gr.refl _,br_intro (fun h2=>?_) fun h2=>?_⟩
  rotate_left
  · have h2:S1 = []:=List.eq_nil_of_length_eq_zero (by have:=of_decide_eq_false h2; omega)
    exact fin (fun u hu=>by rw [h2] at hu; cases hu) h
  have h2:0 < S1.length:=by have:=of_decide_eq_true h2; omega
  obtain ⟨S1',z,rfl⟩ : ∃ S1' z,S1 = S1' ++ [z]:=⟨S1.dropLast,S1.getLast (by intro hh; rw [hh] at h2; simp at h2),(List.dropLast_concat_getLast _).symm⟩
  obtain ⟨D,hD⟩ : ∃ D,D = A ++ ((S1' ++ [z]) ++ y :: (S2 ++ (R' ++ C))):=⟨_,rfl⟩
  rw [← hD] at h
  have e1:D = (A ++ S1') ++ z :: ([] ++ y :: (S2 ++ (R' ++ C))):=by rw [hD]; simp
  have gz:D[A.length + S1'.length]? = some z:=by rw [e1]; exact get_mid (by simp)
  have gy:D[A.length + S1'.length + 1]? = some y:=by
    rw [e1,show (A ++ S1') ++ z :: ([] ++ y :: (S2 ++ (R' ++ C))) = ((A ++ S1') ++ [z]) ++ y :: (S2 ++ (R' ++ C)) by simp]
    exact get_mid (by simp; omega)
  have hDn:=bk_n h
  have b1:A.length + S1'.length < n:=by rw [hDn]; exact (List.getElem?_eq_some_iff.1 gz).1
  have b2:A.length + S1'.length + 1 < n:=by rw [hDn]; exact (List.getElem?_eq_some_iff.1 gy).1
  obtain ⟨ad,ho,rz⟩:=bkR h gz
  obtain ⟨ad',ho',ry⟩:=bkR h gy
  rw [ho] at ho'; cases ho'
  have z1:((A.length + (S1' ++ [z]).length:Nat):Int) = ((A.length + S1'.length + 1:Nat):Int):=by simp only [List.length_append,List.length_singleton]; omega
  have z2:((A.length + S1'.length + 1:Nat):Int) - 1 = ((A.length + S1'.length:Nat):Int):=by simp
  rw [z1,z2]
  refine idx_n ho b2 ⟨_,_,_,_,_,fun u g=>ry.at g rfl,⟨by omega,by omega⟩,idx_n ho b1 ⟨_,_,_,_,_,fun u g=>rz.at g rfl,ifT_iff.2 ⟨hc.1,(hc.2 y z w3 hsy (hsS z (by simp))).mono ?_⟩⟩⟩
  rintro _ w6 ⟨t,rfl,ht,g6⟩
  have h:=h.gr g6
  refine ⟨_,rfl,g6,br_intro (fun h3=>?_) fun h3=>?_⟩
  rotate_left
  · have h3:=of_decide_eq_false h3
    rw [hD] at h
    refine fin (fun u hu=>?_) h
    rw [List.getLast?_concat] at hu
    cases hu
    have:¬ kyQ y < kyQ z:=fun hh=>h3 (ht.2 hh)
    omega
  have h3:=ht.1 (of_decide_eq_true h3)
  intro w7 hd7
  have h:=h.eq (drawn_hp hd7)
  have s7:sub (hp w3) (hp w7):=g6.trans (Gr.drawn hd7)
  refine ⟨fun u=>hp u = hp w7,rfl,⟨by omega,by omega⟩,⟨by omega,by omega⟩,idx_n ho b1 ⟨_,_,_,_,_,fun u e=>(rz.mono s7).at (by rw [e]; exact sub.refl _) rfl,idx_n ho b2 ⟨_,_,_,_,_,fun u e=>(ry.mono s7).at (by rw [e]; exact sub.refl _) rfl,idx_n ho b2 (bkW (x:=z) h ho (by omega) fun w10 h=>idx_n ho b1 (bkW (x:=y) h ho (by rw [List.length_set]; omega) fun w11 h=>⟨⟨by omega,by omega⟩,⟨S1',z :: S2,by simp,rfl,?_,?_⟩,?_⟩))⟩⟩⟩
  · intro u hu
    rcases List.mem_cons.1 hu with rfl | hu
    · exact Int.le_of_lt h3
    · exact hS2 u hu
  · have e2:(D.set (A.length + S1'.length + 1) z).set (A.length + S1'.length) y = A ++ (S1' ++ y :: (z :: S2 ++ (R' ++ C))):=by
      rw [List.set_comm _ _ (by omega),e1,set_swap (by simp) (by simp)]; simp
    rw [e2] at h
    exact h
  · show ((A.length + S1'.length:Nat):Int).toNat - A.length < ((A.length + S1'.length + 1:Nat):Int).toNat - A.length
    omega
end
end Go.Proofs.YtndaepmjkbmjmaaGreatDoor
set_option linter.unusedVariables false
set_option maxRecDepth 4000
namespace Go.V
section
variable {α : Type} {k:α→Int}
inductive Rns (k:α→Int) (bs:Nat):List α→Prop
  | last (l:List α):l.length≤bs→SrK k l→Rns k bs l
  | more (l m:List α):l.length = bs→SrK k l→Rns k bs m→Rns k bs (l ++ m)
inductive Ful (k:α→Int) (bs:Nat):List α→Prop
  | nil:Ful k bs []
  | snoc (d l:List α):Ful k bs d→l.length = bs→SrK k l→Ful k bs (d ++ l)
theorem Ful.rns {bs:Nat} {d:List α} (h:Ful k bs d):∀ e,Rns k bs e→Rns k bs (d ++ e):=by
  induction h with
  | nil=>exact fun e he=>he
  | snoc d l _ hl hs ih=>exact fun e he=>by rw [List.append_assoc]; exact ih _ (.more l e hl hs he)
theorem Rns.srt {bs:Nat} {l:List α} (h:Rns k bs l) (hl:l.length≤bs):SrK k l:=by
  cases h with
  | last _ _ hs=>exact hs
  | more a m ha hs hm =>
    have:m = []:=List.eq_nil_of_length_eq_zero (by rw [List.length_append] at hl; omega)
    subst this
    simpa using hs
theorem Rns.cut {bs:Nat} {l:List α} (h:Rns k bs l) (hl:bs < l.length):∃ a m,l = a ++ m∧a.length = bs∧SrK k a∧Rns k bs m∧m≠[]:=by
  cases h with
  | last _ h1 _=>omega
  | more a m ha hs hm=>exact ⟨a,m,rfl,ha,hs,hm,fun e=>by subst e; simp at hl; omega⟩
def LoQ (X Y:List BkQ) (H s0 s:Nat):Prop:=s = s0∨∃ x y,X[s - 1]? = some x∧Y[H - s]? = some y∧kyQ x≤kyQ y
def HiQ (X Y:List BkQ) (H r0 r:Nat):Prop:=r = r0∨∃ x y,X[r]? = some x∧Y[H - r - 1]? = some y∧kyQ y < kyQ x
theorem half_eq {n:Nat} (h:n≤4000000):shrI .u64 (IntKind.u64.wrap (n:Int)) 1 = ((n / 2:Nat):Int):=by
  have e:IntKind.u64.wrap (n:Int) = (n:Int):=by
    simp only [IntKind.wrap,IntKind.signed,IntKind.bits]
    exact Int.emod_eq_of_lt (by omega) (by omega)
  rw [e]
  exact shrI_nat (s:=1) (by decide)
end
end Go.V
namespace Go.Proofs.YtndaepmjkbmjmaaGreatDoor
open Go.V
section
variable {w:World} {L:List Asn} {o:Option Addr} {n c:Nat} {d:FuncId} {e:List Value}
theorem half2 {i j:Nat} (h:i + j≤4000000):shrI .u64 (IntKind.u64.wrap ((i:Int) + (j:Int))) 1 = (((i + j) / 2:Nat):Int):=by
  rw [← half_eq h]; simp
set_option maxHeartbeats 4000000 in
theorem s_symMerge (hc:CmpQ d e) (N:Nat):∀ {w:World} {L:List Asn} {A X Y C:List BkQ} {xs:List BkQ} {a m b:Int} (h:St w (own 3 o n c (bkV xs) :: L)) (hxs:xs = A ++ (X ++ (Y ++ C))) (ha:a = A.length) (hm:m = ((A.length + X.length:Nat):Int)) (hb:b = ((A.length + X.length + Y.length:Nat):Int)) (hX:X≠[]) (hY:Y≠[]) (hN:X.length + Y.length≤N)
    (hsX:SrK kyQ X) (hsY:SrK kyQ Y) (hs:∀ x∈X ++ Y,sml x) (hn:xs.length≤1000000),
    Run Tryz.prog n_slices_symMergeCmpFunc_api_Look_ [.slice o n c,.int .i64 a,.int .i64 m,.int .i64 b,.func (.func d) #[] ⟨e⟩] w fun v w'=>v = .tuple #[]∧∃ S,S.Perm (X ++ Y)∧SrK kyQ S∧St w' (own 3 o n c (bkV (A ++ (S ++ C))) :: L):=by
  induction N with
  | zero=>intro w L A X Y C xs a m b h hxs ha hm hb hX hY hN; exact absurd (List.eq_nil_of_length_eq_zero (by omega)) hX
  | succ N ih =>
  intro w L A X Y C xs a m b h hxs ha hm hb hX hY hN hsX hsY hs hn
  have hl:xs.length = A.length + X.length + Y.length + C.length:=by rw [hxs]; simp; omega
  have hX1:=List.length_pos_iff.2 hX
  have hY1:=List.length_pos_iff.2 hY
  have hDl:=bk_n h
  have hnn:n≤1000000:=by omega
  have smX:∀ x∈X,sml x:=fun x hx=>hs x (by simp [hx])
  have smY:∀ x∈Y,sml x:=fun x hx=>hs x (by simp [hx])
  have hns:ns 1:=by unfold ns; decide
  subst ha hm hb
  -- what stands at a place
  have atX:∀ i,i < X.length→∃ x,X[i]? = some x∧xs[A.length + i]? = some x:=fun i hi=>by
    refine ⟨_,List.getElem?_eq_getElem hi,?_⟩
    rw [hxs,List.getElem?_append_right (by omega),Nat.add_sub_cancel_left,List.getElem?_append_left hi,List.getElem?_eq_getElem hi]
  have atY:∀ i,i < Y.length→∃ y,Y[i]? = some y∧xs[A.length + X.length + i]? = some y:=fun i hi=>by
    refine ⟨_,List.getElem?_eq_getElem hi,?_⟩
    rw [hxs,List.getElem?_append_right (by omega),show A.length + X.length + i - A.length = X.length + i by omega,List.getElem?_append_right (by omega),Nat.add_sub_cancel_left,List.getElem?_append_left hi,List.getElem?_eq_getElem hi]
  have eA:(((A.length + X.length:Nat):Int) - A.length == 1) = decide (X.length = 1):=by
    rw [Bool.eq_iff_iff,beq_iff_eq,decide_eq_true_eq]; omega
  have eB:(((A.length + X.length + Y.length:Nat):Int) - ((A.length + X.length:Nat):Int) == 1) = decide (Y.length = 1):=by
    rw [Bool.eq_iff_iff,beq_iff_eq,decide_eq_true_eq]; omega
  refine run_slices_symMergeCmpFunc_api_Look_ _ _ _ _ _ _ _ _ w _ ⟨⟨by omega,by omega⟩,?_⟩
  rw [eA]
  refine br_intro (fun h1=>?_) fun h1=>?_
  · -- one on the left
    have h1:=of_decide_eq_true h1
    obtain ⟨x,hX0⟩ : ∃ x,X = [x]:=List.length_eq_one_iff.1 h1
    subst hX0
    obtain ⟨_,hx0,gx⟩:=atX 0 (by simp)
    cases hx0
    have hsx:sml x:=smX x (by simp)
    refine ⟨fun i j w'=>∃ i' j' : Nat,i = ((A.length + 1 + i' : Nat):Int)∧j = ((A.length + 1 + j' : Nat):Int)∧i'≤j'∧j'≤Y.length∧(∀ y,0 < i'→Y[i' - 1]? = some y→kyQ y < kyQ x)∧(∀ y,Y[j']? = some y→kyQ x≤kyQ y)∧St w' (own 3 o n c (bkV xs) :: L),fun i j _=>j.toNat - i.toNat,⟨0,Y.length,by simp,by simp,Nat.zero_le _,Nat.le_refl _,fun y hy=>absurd hy (by omega),fun y hy=>(by rw [List.getElem?_eq_none (Nat.le_refl _)] at hy; cases hy),h⟩,?_⟩
    clear h
    rintro _ _ _ w1 ⟨i',j',rfl,rfl,hij,hj,hlo,hhi,h⟩
    refine br_intro (fun h2=>?_) fun h2=>?_
    · have h2:i' < j':=by have:=of_decide_eq_true h2; omega
      rw [half2 (by omega)]
      obtain ⟨q,hq⟩ : ∃ q,q = (i' + j') / 2:=⟨_,rfl⟩
      have hq2:(A.length + 1 + i' + (A.length + 1 + j')) / 2 = A.length + 1 + q:=by omega
      rw [hq2]
      have hqj:q < j':=by omega
      have hqi:i'≤q:=by omega
      obtain ⟨y,hy,gy⟩:=atY q (by omega)
      have gy:xs[A.length + 1 + q]? = some y:=gy
      refine ⟨⟨by omega,by omega⟩,hns,⟨by omega,by omega⟩,fun w2 hd=>?_⟩
      have h:=h.eq (drawn_hp hd)
      obtain ⟨ad,ho,ry⟩:=bkR h gy
      obtain ⟨ad',ho',rx⟩:=bkR h gx
      rw [ho] at ho'; cases ho'
      refine ⟨fun u=>Gr w2 u,Gr.refl _,idx_n ho (by omega) ⟨_,_,_,_,_,fun u g=>ry.at g rfl,idx_n ho (by omega) ⟨_,_,_,_,_,fun u g=>rx.at g rfl,ifT_iff.2 ⟨hc.1,(hc.2 y x w2 (smY y (List.mem_of_getElem? hy)) hsx).mono ?_⟩⟩⟩⟩
      rintro _ w5 ⟨t,rfl,ht,g5⟩
      have h:=h.gr g5
      refine ⟨_,rfl,g5,br_intro (fun h3=>?_) fun h3=>?_⟩
      · have h3:=ht.1 (of_decide_eq_true h3)
        refine ⟨⟨by omega,by omega⟩,⟨q + 1,j',by omega,rfl,by omega,hj,fun y' _ hy'=>?_,hhi,h⟩,?_⟩
        · rw [Nat.add_sub_cancel,hy] at hy'; cases hy'; exact h3
        · show ((A.length + 1 + j' : Nat):Int).toNat - (((A.length + 1 + q:Nat):Int) + 1).toNat < ((A.length + 1 + j' : Nat):Int).toNat - ((A.length + 1 + i' : Nat):Int).toNat
          omega
      · have h3:¬ kyQ y < kyQ x:=fun hh=>(of_decide_eq_false h3) (ht.2 hh)
        refine ⟨⟨i',q,rfl,rfl,hqi,by omega,hlo,fun y' hy'=>?_,h⟩,?_⟩
        · rw [hy] at hy'; cases hy'; omega
        · show ((A.length + 1 + q:Nat):Int).toNat - ((A.length + 1 + i' : Nat):Int).toNat < ((A.length + 1 + j' : Nat):Int).toNat - ((A.length + 1 + i' : Nat):Int).toNat
          omega
    have h2:i' = j':=by have:=of_decide_eq_false h2; omega
    subst h2
    refine ⟨fun z w'=>∃ k:Nat,z = ((A.length + k:Nat):Int)∧k≤i'∧St w' (own 3 o n c (bkV (A ++ (Y.take k ++ x :: (Y.drop k ++ C)))) :: L),fun z _=>A.length + i' - z.toNat,⟨0,by simp,Nat.zero_le _,by rw [hxs] at h; simpa using h⟩,?_⟩
    clear h
    rintro _ _ w6 ⟨k,rfl,hk,h⟩
    refine ⟨⟨by omega,by omega⟩,br_intro (fun h3=>?_) fun h3=>?_⟩
    rotate_left
    · have h3:k = i':=by have:=of_decide_eq_false h3; omega
      subst h3
      have hYs:SrK kyQ (Y.take k ++ Y.drop k):=by rw [List.take_append_drop]; exact hsY
      refine ⟨rfl,Y.take k ++ x :: Y.drop k,?_,srk_put hYs (fun y hy=>?_) (fun y hy=>?_),by simpa using h⟩
      · refine List.perm_middle.trans ?_
        rw [List.take_append_drop]; exact .refl _
      · have hk0:0 < k:=Nat.pos_of_ne_zero fun e=>by subst e; simp at hy
        rw [List.getLast?_eq_getElem?,List.length_take,show min k Y.length - 1 = k - 1 by omega,List.getElem?_take,if_pos (by omega)] at hy
        exact Int.le_of_lt (hlo y hk0 hy)
      · rw [List.head?_eq_getElem?,List.getElem?_drop,Nat.add_zero] at hy
        exact hhi y hy
    have h3:k < i':=by have:=of_decide_eq_true h3; omega
    intro w7 hd
    have h:=h.eq (drawn_hp hd)
    obtain ⟨y,hy⟩ : ∃ y,Y[k]? = some y:=⟨_,List.getElem?_eq_getElem (by omega)⟩
    have eY:Y.drop k = y :: Y.drop (k + 1):=by rw [List.drop_eq_getElem_cons (by omega)]; congr 1; rw [List.getElem?_eq_getElem (by omega)] at hy; exact Option.some.inj hy
    obtain ⟨D,hD⟩ : ∃ D,D = A ++ (Y.take k ++ x :: (Y.drop k ++ C)):=⟨_,rfl⟩
    rw [← hD] at h
    have lk:(A ++ Y.take k).length = A.length + k:=by simp; omega
    have e1:D = (A ++ Y.take k) ++ x :: ([] ++ y :: (Y.drop (k + 1) ++ C)):=by rw [hD,eY]; simp
    have g1:D[A.length + k]? = some x:=by rw [e1]; exact get_mid lk.symm
    have g2:D[A.length + k + 1]? = some y:=by
      rw [e1,show (A ++ Y.take k) ++ x :: ([] ++ y :: (Y.drop (k + 1) ++ C)) = ((A ++ Y.take k) ++ [x]) ++ y :: (Y.drop (k + 1) ++ C) by simp]
      exact get_mid (by rw [List.length_append,lk]; rfl)
    have hDn:=bk_n h
    have b1:A.length + k < n:=by rw [hDn]; exact (List.getElem?_eq_some_iff.1 g1).1
    have b2:A.length + k + 1 < n:=by rw [hDn]; exact (List.getElem?_eq_some_iff.1 g2).1
    obtain ⟨ad,ho,r1⟩:=bkR h g1
    obtain ⟨ad',ho',r2⟩:=bkR h g2
    rw [ho] at ho'; cases ho'
    have z1:((A.length + k:Nat):Int) + 1 = ((A.length + k + 1:Nat):Int):=by simp
    rw [z1]
    refine ⟨fun u=>hp u = hp w7,rfl,⟨by omega,by omega⟩,⟨by omega,by omega⟩,idx_n ho b2 ⟨_,_,_,_,_,fun u e=>r2.at (by rw [e]; exact sub.refl _) rfl,idx_n ho b1 ⟨_,_,_,_,_,fun u e=>r1.at (by rw [e]; exact sub.refl _) rfl,idx_n ho b1 (bkW (x:=y) h ho (by omega) fun w10 h=>idx_n ho b2 (bkW (x:=x) h ho (by rw [List.length_set]; omega) fun w11 h=>⟨⟨by omega,by omega⟩,⟨k + 1,rfl,by omega,?_⟩,?_⟩))⟩⟩⟩
    · have e2:(D.set (A.length + k) y).set (A.length + k + 1) x = A ++ (Y.take (k + 1) ++ x :: (Y.drop (k + 1) ++ C)):=by
        rw [e1,set_swap lk.symm (by rw [lk]; rfl),List.take_add_one,hy]; simp
      rw [e2] at h
      exact h
    · show A.length + i' - ((A.length + k + 1:Nat):Int).toNat < A.length + i' - ((A.length + k:Nat):Int).toNat
      omega
  have h1:X.length≠1:=of_decide_eq_false h1
  refine ⟨⟨by omega,by omega⟩,?_⟩
  rw [eB]
  refine br_intro (fun h4=>?_) fun h4=>?_
  · -- one on the right
    have h4:=of_decide_eq_true h4
    obtain ⟨y,hY0⟩ : ∃ y,Y = [y]:=List.length_eq_one_iff.1 h4
    subst hY0
    obtain ⟨_,hy0,gy⟩:=atY 0 (by simp)
    cases hy0
    have hsy:sml y:=smY y (by simp)
    refine ⟨fun i j w'=>∃ i' j' : Nat,i = ((A.length + i' : Nat):Int)∧j = ((A.length + j' : Nat):Int)∧i'≤j'∧j'≤X.length∧(∀ x,0 < i'→X[i' - 1]? = some x→kyQ x≤kyQ y)∧(∀ x,X[j']? = some x→kyQ y < kyQ x)∧St w' (own 3 o n c (bkV xs) :: L),fun i j _=>j.toNat - i.toNat,⟨0,X.length,by simp,rfl,Nat.zero_le _,Nat.le_refl _,fun x hx=>absurd hx (by omega),fun x hx=>(by rw [List.getElem?_eq_none (Nat.le_refl _)] at hx; cases hx),h⟩,?_⟩
    clear h
    rintro _ _ _ w1 ⟨i',j',rfl,rfl,hij,hj,hlo,hhi,h⟩
    refine br_intro (fun h2=>?_) fun h2=>?_
    · have h2:i' < j':=by have:=of_decide_eq_true h2; omega
      rw [half2 (by omega)]
      obtain ⟨q,hq⟩ : ∃ q,q = (i' + j') / 2:=⟨_,rfl⟩
      have hq2:(A.length + i' + (A.length + j')) / 2 = A.length + q:=by omega
      rw [hq2]
      have hqj:q < j':=by omega
      have hqi:i'≤q:=by omega
      obtain ⟨x,hx,gx⟩:=atX q (by omega)
      refine ⟨⟨by omega,by omega⟩,hns,⟨by omega,by omega⟩,fun w2 hd=>?_⟩
      have h:=h.eq (drawn_hp hd)
      obtain ⟨ad,ho,ry⟩:=bkR h gy
      obtain ⟨ad',ho',rx⟩:=bkR h gx
      rw [ho] at ho'; cases ho'
      refine ⟨fun u=>Gr w2 u,Gr.refl _,idx_n ho (by omega) ⟨_,_,_,_,_,fun u g=>ry.at g rfl,idx_n ho (by omega) ⟨_,_,_,_,_,fun u g=>rx.at g rfl,ifT_iff.2 ⟨hc.1,(hc.2 y x w2 hsy (smX x (List.mem_of_getElem? hx))).mono ?_⟩⟩⟩⟩
      rintro _ w5 ⟨t,rfl,ht,g5⟩
      have h:=h.gr g5
      refine ⟨_,rfl,g5,br_intro (fun h3=>?_) fun h3=>?_⟩
      · have h3:¬ kyQ y < kyQ x:=fun hh=>by
          have:=ht.2 hh
          simp at h3; omega
        refine ⟨⟨by omega,by omega⟩,⟨q + 1,j',by omega,rfl,by omega,hj,fun x' _ hx'=>?_,hhi,h⟩,?_⟩
        · rw [Nat.add_sub_cancel,hx] at hx'; cases hx'; omega
        · show ((A.length + j' : Nat):Int).toNat - (((A.length + q:Nat):Int) + 1).toNat < ((A.length + j' : Nat):Int).toNat - ((A.length + i' : Nat):Int).toNat
          omega
      · have h3:kyQ y < kyQ x:=ht.1 (by simpa using h3)
        refine ⟨⟨i',q,rfl,rfl,hqi,by omega,hlo,fun x' hx'=>?_,h⟩,?_⟩
        · rw [hx] at hx'; cases hx'; exact h3
        · show ((A.length + q:Nat):Int).toNat - ((A.length + i' : Nat):Int).toNat < ((A.length + j' : Nat):Int).toNat - ((A.length + i' : Nat):Int).toNat
          omega
    have h2:i' = j':=by have:=of_decide_eq_false h2; omega
    subst h2
    refine ⟨fun z w'=>∃ k:Nat,z = ((A.length + k:Nat):Int)∧i'≤k∧k≤X.length∧St w' (own 3 o n c (bkV (A ++ (X.take k ++ y :: (X.drop k ++ C)))) :: L),fun z _=>z.toNat,⟨X.length,rfl,hj,Nat.le_refl _,by rw [hxs] at h; simpa using h⟩,?_⟩
    clear h
    rintro _ _ w17 ⟨k,rfl,hik,hk,h⟩
    refine br_intro (fun h3=>?_) fun h3=>?_
    rotate_left
    · have h3:k = i':=by have:=of_decide_eq_false h3; omega
      subst h3
      have hXs:SrK kyQ (X.take k ++ X.drop k):=by rw [List.take_append_drop]; exact hsX
      refine ⟨rfl,X.take k ++ y :: X.drop k,?_,srk_put hXs (fun x hx=>?_) (fun x hx=>?_),by simpa using h⟩
      · refine List.perm_middle.trans ?_
        rw [List.take_append_drop]
        exact (List.perm_append_singleton y X).symm
      · have hk0:0 < k:=Nat.pos_of_ne_zero fun e=>by subst e; simp at hx
        rw [List.getLast?_eq_getElem?,List.length_take,show min k X.length - 1 = k - 1 by omega,List.getElem?_take,if_pos (by omega)] at hx
        exact hlo x hk0 hx
      · rw [List.head?_eq_getElem?,List.getElem?_drop,Nat.add_zero] at hx
        exact Int.le_of_lt (hhi x hx)
    have h3:i' < k:=by have:=of_decide_eq_true h3; omega
    obtain ⟨k,rfl⟩ : ∃ k',k = k' + 1:=⟨k - 1,by omega⟩
    intro w18 hd
    have h:=h.eq (drawn_hp hd)
    obtain ⟨x,hx⟩ : ∃ x,X[k]? = some x:=⟨_,List.getElem?_eq_getElem (by omega)⟩
    obtain ⟨D,hD⟩ : ∃ D,D = A ++ (X.take (k + 1) ++ y :: (X.drop (k + 1) ++ C)):=⟨_,rfl⟩
    rw [← hD] at h
    have lk:(A ++ X.take k).length = A.length + k:=by simp; omega
    have e1:D = (A ++ X.take k) ++ x :: ([] ++ y :: (X.drop (k + 1) ++ C)):=by rw [hD,List.take_add_one,hx]; simp
    have g1:D[A.length + k]? = some x:=by rw [e1]; exact get_mid lk.symm
    have g2:D[A.length + (k + 1)]? = some y:=by
      rw [e1,show (A ++ X.take k) ++ x :: ([] ++ y :: (X.drop (k + 1) ++ C)) = ((A ++ X.take k) ++ [x]) ++ y :: (X.drop (k + 1) ++ C) by simp]
      exact get_mid (by rw [List.length_append,lk]; rfl)
    have hDn:=bk_n h
    have b1:A.length + k < n:=by rw [hDn]; exact (List.getElem?_eq_some_iff.1 g1).1
    have b2:A.length + (k + 1) < n:=by rw [hDn]; exact (List.getElem?_eq_some_iff.1 g2).1
    obtain ⟨ad,ho,r1⟩:=bkR h g1
    obtain ⟨ad',ho',r2⟩:=bkR h g2
    rw [ho] at ho'; cases ho'
    have z1:((A.length + (k + 1):Nat):Int) - 1 = ((A.length + k:Nat):Int):=by simp; omega
    rw [z1]
    refine ⟨fun u=>hp u = hp w18,rfl,⟨by omega,by omega⟩,⟨by omega,by omega⟩,idx_n ho b1 ⟨_,_,_,_,_,fun u e=>r1.at (by rw [e]; exact sub.refl _) rfl,idx_n ho b2 ⟨_,_,_,_,_,fun u e=>r2.at (by rw [e]; exact sub.refl _) rfl,idx_n ho b2 (bkW (x:=x) h ho (by omega) fun w21 h=>idx_n ho b1 (bkW (x:=y) h ho (by rw [List.length_set]; omega) fun w22 h=>⟨⟨by omega,by omega⟩,⟨k,rfl,by omega,by omega,?_⟩,?_⟩))⟩⟩⟩
    · have eX:X.drop k = x :: X.drop (k + 1):=by rw [List.drop_eq_getElem_cons (by omega)]; congr 1; rw [List.getElem?_eq_getElem (by omega)] at hx; exact Option.some.inj hx
      have e2:(D.set (A.length + (k + 1)) x).set (A.length + k) y = A ++ (X.take k ++ y :: (X.drop k ++ C)):=by
        rw [List.set_comm _ _ (by omega),e1,set_swap lk.symm (by rw [lk]; rfl),eX]; simp
      rw [e2] at h
      exact h
    · show ((A.length + k:Nat):Int).toNat < ((A.length + (k + 1):Nat):Int).toNat
      omega
  have h4:Y.length≠1:=of_decide_eq_false h4
  -- the halves
  obtain ⟨H,hH⟩ : ∃ H,H = (X.length + Y.length) / 2:=⟨_,rfl⟩
  have hM:(A.length + (A.length + X.length + Y.length)) / 2 = A.length + H:=by omega
  have hM1:0 < H:=by omega
  have hM2:H < X.length + Y.length:=by omega
  have hM3:2 * H≤X.length + Y.length:=by omega
  have hM4:X.length + Y.length≤2 * H + 1:=by omega
  rw [half2 (by omega),hM]
  clear hH hM
  refine ⟨⟨by omega,by omega⟩,hns,⟨by omega,by omega⟩,⟨by omega,by omega⟩,fun s r w'=>∃ s' r' : Nat,s = ((A.length + s' : Nat):Int)∧r = ((A.length + r' : Nat):Int)∧s'≤r'∧r'≤X.length∧r'≤H∧H - s'≤Y.length∧(s' = 0∨H - s' = Y.length)∧(r' = X.length∨r' = H)∧hp w' = hp w,?_,?_⟩
  · refine br_intro (fun h5=>?_) fun h5=>?_
    · have h5:H < X.length:=by have:=of_decide_eq_true h5; omega
      exact ⟨⟨by omega,by omega⟩,H - Y.length,H,by omega,by omega,by omega,by omega,by omega,by omega,by omega,by omega,rfl⟩
    · have h5:X.length≤H:=by have:=of_decide_eq_false h5; omega
      exact ⟨0,X.length,by simp,rfl,Nat.zero_le _,Nat.le_refl _,h5,by omega,.inl rfl,.inl rfl,rfl⟩
  rintro _ _ _ w23 ⟨s0,r0,rfl,rfl,hsr,hrX,hrM,hsM,hsc,hrc,e23⟩
  have h:=h.eq e23
  obtain ⟨P,hP⟩ : ∃ P,P = A.length + H + (A.length + X.length):=⟨_,rfl⟩
  refine ⟨⟨by omega,by omega⟩,fun s r w'=>∃ s' r' : Nat,s = ((A.length + s' : Nat):Int)∧r = ((A.length + r' : Nat):Int)∧s0≤s'∧s'≤r'∧r'≤r0∧LoQ X Y H s0 s'∧HiQ X Y H r0 r'∧St w' (own 3 o n c (bkV xs) :: L),fun s r _=>r.toNat - s.toNat,⟨s0,r0,rfl,rfl,Nat.le_refl _,hsr,Nat.le_refl _,.inl rfl,.inl rfl,h⟩,?_⟩
  clear h
  rintro _ _ _ w24 ⟨s,r,rfl,rfl,hs0,hsr',hr0,hlo,hhi,h⟩
  refine br_intro (fun h5=>?_) fun h5=>?_
  · have h5:s < r:=by have:=of_decide_eq_true h5; omega
    rw [half2 (by omega)]
    obtain ⟨q,hq⟩ : ∃ q,q = (s + r) / 2:=⟨_,rfl⟩
    have hq2:(A.length + s + (A.length + r)) / 2 = A.length + q:=by omega
    rw [hq2]
    have hqr:q < r:=by omega
    have hqs:s≤q:=by omega
    have z1:((A.length + H:Nat):Int) + ((A.length + X.length:Nat):Int) - 1 - ((A.length + q:Nat):Int) = ((A.length + X.length + (H - q - 1):Nat):Int):=by omega
    rw [z1]
    obtain ⟨x,hx,gx⟩:=atX q (by omega)
    obtain ⟨y,hy,gy⟩:=atY (H - q - 1) (by omega)
    refine ⟨⟨by omega,by omega⟩,hns,⟨by omega,by omega⟩,fun w25 hd=>?_⟩
    have h:=h.eq (drawn_hp hd)
    obtain ⟨ad,ho,ry⟩:=bkR h gy
    obtain ⟨ad',ho',rx⟩:=bkR h gx
    rw [ho] at ho'; cases ho'
    refine ⟨fun u=>Gr w25 u,Gr.refl _,⟨by omega,by omega⟩,idx_n ho (by omega) ⟨_,_,_,_,_,fun u g=>ry.at g rfl,idx_n ho (by omega) ⟨_,_,_,_,_,fun u g=>rx.at g rfl,ifT_iff.2 ⟨hc.1,(hc.2 y x w25 (smY y (List.mem_of_getElem? hy)) (smX x (List.mem_of_getElem? hx))).mono ?_⟩⟩⟩⟩
    rintro _ w28 ⟨t,rfl,ht,g5⟩
    have h:=h.gr g5
    refine ⟨_,rfl,g5,br_intro (fun h3=>?_) fun h3=>?_⟩
    · have h3:¬ kyQ y < kyQ x:=fun hh=>by
        have:=ht.2 hh
        simp at h3; omega
      refine ⟨⟨by omega,by omega⟩,⟨q + 1,r,by omega,rfl,by omega,by omega,hr0,.inr ⟨x,y,by rw [Nat.add_sub_cancel]; exact hx,by rw [show H - (q + 1) = H - q - 1 by omega]; exact hy,by omega⟩,hhi,h⟩,?_⟩
      show ((A.length + r:Nat):Int).toNat - (((A.length + q:Nat):Int) + 1).toNat < ((A.length + r:Nat):Int).toNat - ((A.length + s:Nat):Int).toNat
      omega
    · have h3:kyQ y < kyQ x:=ht.1 (by simpa using h3)
      refine ⟨⟨s,q,rfl,rfl,hs0,hqs,by omega,hlo,.inr ⟨x,y,hx,hy,h3⟩,h⟩,?_⟩
      show ((A.length + q:Nat):Int).toNat - ((A.length + s:Nat):Int).toNat < ((A.length + r:Nat):Int).toNat - ((A.length + s:Nat):Int).toNat
      omega
  have h5:s = r:=by have:=of_decide_eq_false h5; omega
  subst h5
  obtain ⟨t,ht⟩ : ∃ t,t = H - s:=⟨_,rfl⟩
  have htY:t≤Y.length:=by omega
  have z2:((A.length + H:Nat):Int) + ((A.length + X.length:Nat):Int) - ((A.length + s:Nat):Int) = ((A.length + X.length + t:Nat):Int):=by omega
  rw [z2]
  have hXs:SrK kyQ (X.take s ++ X.drop s):=by rw [List.take_append_drop]; exact hsX
  have hYs:SrK kyQ (Y.take t ++ Y.drop t):=by rw [List.take_append_drop]; exact hsY
  have lX1:(X.take s).length = s:=by simp; omega
  have lX2:(X.drop s).length = X.length - s:=by simp
  have lY1:(Y.take t).length = t:=by simp; omega
  have lY2:(Y.drop t).length = Y.length - t:=by simp
  have c1:∀ x y,(X.take s).getLast? = some x→(Y.drop t).head? = some y→kyQ x≤kyQ y:=fun x y hx hy=>by
    have hs1:0 < s:=Nat.pos_of_ne_zero fun e=>by subst e; simp at hx
    rw [List.getLast?_eq_getElem?,lX1,List.getElem?_take,if_pos (by omega)] at hx
    rw [List.head?_eq_getElem?,List.getElem?_drop,Nat.add_zero] at hy
    rcases hlo with e | ⟨x',y',e1,e2,e3⟩
    · have:t = Y.length:=by omega
      rw [this,List.getElem?_eq_none (Nat.le_refl _)] at hy; cases hy
    · rw [hx] at e1; cases e1
      rw [← ht,hy] at e2; cases e2
      exact e3
  have c2:∀ x y,(Y.take t).getLast? = some x→(X.drop s).head? = some y→kyQ x≤kyQ y:=fun x y hx hy=>by
    have ht1:0 < t:=Nat.pos_of_ne_zero fun e=>by subst e; simp at hx
    rw [List.getLast?_eq_getElem?,lY1,List.getElem?_take,if_pos (by omega)] at hx
    rw [List.head?_eq_getElem?,List.getElem?_drop,Nat.add_zero] at hy
    rcases hhi with e | ⟨x',y',e1,e2,e3⟩
    · have:s = X.length:=by omega
      rw [this,List.getElem?_eq_none (Nat.le_refl _)] at hy; cases hy
    · rw [hy] at e1; cases e1
      rw [← ht,hx] at e2; cases e2
      exact Int.le_of_lt e3
  have rest:∀ w29,St w29 (own 3 o n c (bkV (A ++ (X.take s ++ (Y.take t ++ (X.drop s ++ (Y.drop t ++ C)))))) :: L)→br (decide ((A.length:Int) < ((A.length + s:Nat):Int))) (br (decide (((A.length + s:Nat):Int) < ((A.length + H:Nat):Int))) (Run Tryz.prog n_slices_symMergeCmpFunc_api_Look_ [.slice o n c,.int .i64 (A.length:Int),.int .i64 ((A.length + s:Nat):Int),.int .i64 ((A.length + H:Nat):Int),.func (.func d) #[] ⟨e⟩] w29 fun v4 w30=>v4 = .tuple #[]∧br (decide (((A.length + H:Nat):Int) < ((A.length + X.length + t:Nat):Int))) (br (decide (((A.length + X.length + t:Nat):Int) < ((A.length + X.length + Y.length:Nat):Int))) (Run Tryz.prog n_slices_symMergeCmpFunc_api_Look_ [.slice o n c,.int .i64 ((A.length + H:Nat):Int),.int .i64 ((A.length + X.length + t:Nat):Int),.int .i64 ((A.length + X.length + Y.length:Nat):Int),.func (.func d) #[] ⟨e⟩] w30 fun v5 w31=>v5 = .tuple #[]∧((.tuple #[] : Value) = .tuple #[]∧∃ S,S.Perm (X ++ Y)∧SrK kyQ S∧St w31 (own 3 o n c (bkV (A ++ (S ++ C))) :: L))) ((.tuple #[] : Value) = .tuple #[]∧∃ S,S.Perm (X ++ Y)∧SrK kyQ S∧St w30 (own 3 o n c (bkV (A ++ (S ++ C))) :: L))) ((.tuple #[] : Value) = .tuple #[]∧∃ S,S.Perm (X ++ Y)∧SrK kyQ S∧St w30 (own 3 o n c (bkV (A ++ (S ++ C))) :: L)))
      (br (decide (((A.length + H:Nat):Int) < ((A.length + X.length + t:Nat):Int))) (br (decide (((A.length + X.length + t:Nat):Int) < ((A.length + X.length + Y.length:Nat):Int))) (Run Tryz.prog n_slices_symMergeCmpFunc_api_Look_ [.slice o n c,.int .i64 ((A.length + H:Nat):Int),.int .i64 ((A.length + X.length + t:Nat):Int),.int .i64 ((A.length + X.length + Y.length:Nat):Int),.func (.func d) #[] ⟨e⟩] w29 fun v5 w31=>v5 = .tuple #[]∧((.tuple #[] : Value) = .tuple #[]∧∃ S,S.Perm (X ++ Y)∧SrK kyQ S∧St w31 (own 3 o n c (bkV (A ++ (S ++ C))) :: L))) ((.tuple #[] : Value) = .tuple #[]∧∃ S,S.Perm (X ++ Y)∧SrK kyQ S∧St w29 (own 3 o n c (bkV (A ++ (S ++ C))) :: L))) ((.tuple #[] : Value) = .tuple #[]∧∃ S,S.Perm (X ++ Y)∧SrK kyQ S∧St w29 (own 3 o n c (bkV (A ++ (S ++ C))) :: L))))
      (br (decide (((A.length + H:Nat):Int) < ((A.length + X.length + t:Nat):Int))) (br (decide (((A.length + X.length + t:Nat):Int) < ((A.length + X.length + Y.length:Nat):Int))) (Run Tryz.prog n_slices_symMergeCmpFunc_api_Look_ [.slice o n c,.int .i64 ((A.length + H:Nat):Int),.int .i64 ((A.length + X.length + t:Nat):Int),.int .i64 ((A.length + X.length + Y.length:Nat):Int),.func (.func d) #[] ⟨e⟩] w29 fun v5 w31=>v5 = .tuple #[]∧((.tuple #[] : Value) = .tuple #[]∧∃ S,S.Perm (X ++ Y)∧SrK kyQ S∧St w31 (own 3 o n c (bkV (A ++ (S ++ C))) :: L))) ((.tuple #[] : Value) = .tuple #[]∧∃ S,S.Perm (X ++ Y)∧SrK kyQ S∧St w29 (own 3 o n c (bkV (A ++ (S ++ C))) :: L))) ((.tuple #[] : Value) = .tuple #[]∧∃ S,S.Perm (X ++ Y)∧SrK kyQ S∧St w29 (own 3 o n c (bkV (A ++ (S ++ C))) :: L))):=by
    intro w29 h
    -- the second half
    have second:∀ {w30:World} {S1:List BkQ},S1.Perm (X.take s ++ Y.take t)→SrK kyQ S1→St w30 (own 3 o n c (bkV (A ++ (S1 ++ (X.drop s ++ (Y.drop t ++ C))))) :: L)→br (decide (((A.length + H:Nat):Int) < ((A.length + X.length + t:Nat):Int))) (br (decide (((A.length + X.length + t:Nat):Int) < ((A.length + X.length + Y.length:Nat):Int))) (Run Tryz.prog n_slices_symMergeCmpFunc_api_Look_ [.slice o n c,.int .i64 ((A.length + H:Nat):Int),.int .i64 ((A.length + X.length + t:Nat):Int),.int .i64 ((A.length + X.length + Y.length:Nat):Int),.func (.func d) #[] ⟨e⟩] w30 fun v5 w31=>v5 = .tuple #[]∧((.tuple #[] : Value) = .tuple #[]∧∃ S,S.Perm (X ++ Y)∧SrK kyQ S∧St w31 (own 3 o n c (bkV (A ++ (S ++ C))) :: L))) ((.tuple #[] : Value) = .tuple #[]∧∃ S,S.Perm (X ++ Y)∧SrK kyQ S∧St w30 (own 3 o n c (bkV (A ++ (S ++ C))) :: L))) ((.tuple #[] : Value) = .tuple #[]∧∃ S,S.Perm (X ++ Y)∧SrK kyQ S∧St w30 (own 3 o n c (bkV (A ++ (S ++ C))) :: L)):=by
      intro w30 S1 p1 s1 h
      have l1:S1.length = s + t:=by rw [p1.length_eq,List.length_append,lX1,lY1]
      have fin:∀ {w31:World} {S2:List BkQ},S2.Perm (X.drop s ++ Y.drop t)→SrK kyQ S2→St w31 (own 3 o n c (bkV (A ++ (S1 ++ (S2 ++ C)))) :: L)→∃ S,S.Perm (X ++ Y)∧SrK kyQ S∧St w31 (own 3 o n c (bkV (A ++ (S ++ C))) :: L):=fun {w31 S2} p2 s2 h=>by
        obtain ⟨q1,q2⟩:=srk_halves hXs hYs c1 c2 p1 s1 p2 s2
        rw [List.take_append_drop,List.take_append_drop] at q2
        exact ⟨S1 ++ S2,q2,q1,by rw [List.append_assoc]; exact h⟩
      refine br_intro (fun h6=>?_) fun h6=>?_
      rotate_left
      · have:X.drop s = []:=List.eq_nil_of_length_eq_zero (by have:=of_decide_eq_false h6; omega)
        exact ⟨rfl,fin (S2:=X.drop s ++ Y.drop t) (.refl _) (by rw [this,List.nil_append]; exact (srk_app.1 hYs).2.1) (by simpa using h)⟩
      have h6:s < X.length:=by have:=of_decide_eq_true h6; omega
      refine br_intro (fun h7=>?_) fun h7=>?_
      rotate_left
      · have:Y.drop t = []:=List.eq_nil_of_length_eq_zero (by have:=of_decide_eq_false h7; omega)
        exact ⟨rfl,fin (S2:=X.drop s ++ Y.drop t) (.refl _) (by rw [this,List.append_nil]; exact (srk_app.1 hXs).2.1) (by simpa using h)⟩
      have h7:t < Y.length:=by have:=of_decide_eq_true h7; omega
      refine (ih (A:=A ++ S1) (X:=X.drop s) (Y:=Y.drop t) (C:=C) h (by simp) (by simp; omega) (by simp; omega) (by simp; omega) (fun hh=>by rw [hh] at lX2; simp at lX2; omega) (fun hh=>by rw [hh] at lY2; simp at lY2; omega) (by rw [lX2,lY2]; omega) (srk_app.1 hXs).2.1 (srk_app.1 hYs).2.1 (fun z hz=>?_) (by simp [l1]; omega)).mono ?_
      · rcases List.mem_append.1 hz with hz | hz
        · exact smX z (List.mem_of_mem_drop hz)
        · exact smY z (List.mem_of_mem_drop hz)
      rintro _ w31 ⟨rfl,S2,p2,s2,h⟩
      exact ⟨rfl,rfl,fin p2 s2 (by simpa using h)⟩
    refine br_intro (fun h6=>?_) fun h6=>?_
    rotate_left
    · have:X.take s = []:=List.eq_nil_of_length_eq_zero (by rw [lX1]; have:=of_decide_eq_false h6; omega)
      exact second (S1:=X.take s ++ Y.take t) (.refl _) (by rw [this,List.nil_append]; exact (srk_app.1 hYs).1) (by simpa using h)
    have h6:0 < s:=by have:=of_decide_eq_true h6; omega
    refine br_intro (fun h7=>?_) fun h7=>?_
    rotate_left
    · have:Y.take t = []:=List.eq_nil_of_length_eq_zero (by rw [lY1]; have:=of_decide_eq_false h7; omega)
      exact second (S1:=X.take s ++ Y.take t) (.refl _) (by rw [this,List.append_nil]; exact (srk_app.1 hXs).1) (by simpa using h)
    have h7:0 < t:=by have:=of_decide_eq_true h7; omega
    refine (ih (A:=A) (X:=X.take s) (Y:=Y.take t) (C:=X.drop s ++ (Y.drop t ++ C)) h rfl rfl (by simp; omega) (by simp; omega) (fun hh=>by rw [hh] at lX1; simp at lX1; omega) (fun hh=>by rw [hh] at lY1; simp at lY1; omega) (by rw [lX1,lY1]; omega) (srk_app.1 hXs).1 (srk_app.1 hYs).1 (fun z hz=>?_) (by simp; omega)).mono ?_
    · rcases List.mem_append.1 hz with hz | hz
      · exact smX z (List.mem_of_mem_take hz)
      · exact smY z (List.mem_of_mem_take hz)
    rintro _ w30 ⟨rfl,S1,p1,s1,h⟩
    exact ⟨rfl,second p1 s1 h⟩
  refine ⟨⟨by omega,by omega⟩,fun w'=>St w' (own 3 o n c (bkV (A ++ (X.take s ++ (Y.take t ++ (X.drop s ++ (Y.drop t ++ C)))))) :: L),?_,fun _ w29 h=>rest w29 h⟩
  have exs:xs = A ++ (X.take s ++ (X.drop s ++ (Y.take t ++ (Y.drop t ++ C)))):=by
    rw [hxs,← List.append_assoc (X.take s),List.take_append_drop,← List.append_assoc (Y.take t),List.take_append_drop]
  refine br_intro (fun h6=>?_) fun h6=>?_
  rotate_left
  · have:X.drop s = []:=List.eq_nil_of_length_eq_zero (by have:=of_decide_eq_false h6; omega)
    rw [exs,this] at h
    rw [this]
    simpa using h
  have h6:s < X.length:=by have:=of_decide_eq_true h6; omega
  refine br_intro (fun h7=>?_) fun h7=>?_
  rotate_left
  · have:Y.take t = []:=List.eq_nil_of_length_eq_zero (by rw [lY1]; have:=of_decide_eq_false h7; omega)
    rw [exs,this] at h
    rw [this]
    simpa using h
  have h7:0 < t:=by have:=of_decide_eq_true h7; omega
  refine (s_rotate (A:=A ++ X.take s) (X:=X.drop s) (Y:=Y.take t) (C:=Y.drop t ++ C) h (by rw [exs]; simp) (by simp; omega) (by simp; omega) (by simp; omega) (fun hh=>by rw [hh] at lX2; simp at lX2; omega) (fun hh=>by rw [hh] at lY1; simp at lY1; omega) hn).mono ?_
  rintro _ w29 ⟨rfl,h⟩
  exact ⟨rfl,by simpa using h⟩
end
end Go.Proofs.YtndaepmjkbmjmaaGreatDoor
set_option linter.unusedVariables false
set_option maxRecDepth 4000
namespace Go.Proofs.YtndaepmjkbmjmaaGreatDoor
open Go.V
section
variable {w:World} {L:List Asn} {o:Option Addr} {n c:Nat} {d:FuncId} {e:List Value}
set_option maxHeartbeats 4000000 in
theorem s_stable {xs:List BkQ} (hc:CmpQ d e) (h:St w (own 3 o n c (bkV xs) :: L)) (hs:∀ x∈xs,sml x) (hn:n≤100000) :
    Run Tryz.prog n_slices_stableCmpFunc_api_Look_ [.slice o n c,.int .i64 (n:Int),.func (.func d) #[] ⟨e⟩] w fun v w'=>v = .tuple #[]∧∃ ys,ys.Perm xs∧SrK kyQ ys∧St w' (own 3 o n c (bkV ys) :: L):=by
  have hnl:=bk_n h
  refine run_slices_stableCmpFunc_api_Look_ _ _ _ _ _ _ w _ ⟨fun a b w'=>∃ D E:List BkQ,a = (D.length:Int)∧b = (D.length:Int) + 20∧(D ++ E).Perm xs∧Ful kyQ 20 D∧St w' (own 3 o n c (bkV (D ++ E)) :: L),fun a _ _=>n - a.toNat,⟨[],xs,rfl,rfl,.refl _,.nil,h⟩,?_⟩
  clear h
  rintro _ _ _ w1 ⟨D,E,rfl,rfl,hp,hF,h⟩
  have hpl:D.length + E.length = xs.length:=by have:=hp.length_eq; simpa using this
  have smE:∀ x∈E,sml x:=fun x hx=>hs x (hp.mem_iff.1 (by simp [hx]))
  refine br_intro (fun h1=>?_) fun h1=>?_
  · have h1:D.length + 20≤n:=by have:=of_decide_eq_true h1; omega
    have l1:(E.take 20).length = 20:=by rw [List.length_take]; omega
    refine (s_insert (A:=D) (X:=E.take 20) (C:=E.drop 20) hc h (by rw [List.take_append_drop]) rfl (by rw [l1]; simp) (fun x hx=>smE x (List.mem_of_mem_take hx)) (by simp; omega)).mono ?_
    rintro _ w2 ⟨rfl,S,pS,sS,h⟩
    have lS:S.length = 20:=by rw [pS.length_eq,l1]
    refine ⟨rfl,⟨by omega,by omega⟩,⟨D ++ S,E.drop 20,by simp [lS],by simp [lS],?_,.snoc D S hF lS sS,by simpa using h⟩,?_⟩
    · refine List.Perm.trans ?_ hp
      rw [List.append_assoc]
      refine List.Perm.append_left _ ?_
      exact (pS.append_right _).trans (by rw [List.take_append_drop])
    · show n - ((D.length:Int) + 20).toNat < n - (D.length:Int).toNat
      omega
  have h1:n < D.length + 20:=by have:=of_decide_eq_false h1; omega
  refine (s_insert (A:=D) (X:=E) (C:=[]) hc h (by simp) rfl (by omega) smE (by simp; omega)).mono ?_
  rintro _ w3 ⟨rfl,S,pS,sS,h⟩
  have lS:S.length = E.length:=pS.length_eq
  have hR0:Rns kyQ 20 (D ++ S):=hF.rns S (.last S (by omega) sS)
  have hp0:(D ++ S).Perm xs:=(List.Perm.append_left _ pS).trans hp
  refine ⟨rfl,fun z w'=>∃ (bs:Nat) (ys:List BkQ),z = bs∧20≤bs∧bs≤200000∧ys.Perm xs∧Rns kyQ bs ys∧St w' (own 3 o n c (bkV ys) :: L),fun z _=>n - z.toNat,⟨20,D ++ S,rfl,Nat.le_refl _,by omega,hp0,hR0,by simpa using h⟩,?_⟩
  clear h hp hF hp0 hR0 pS sS lS hpl smE h1
  rintro _ _ w4 ⟨bs,ys,rfl,hb20,hbM,hp,hR,h⟩
  have hyl:ys.length = n:=by rw [hp.length_eq]; exact hnl.symm
  refine br_intro (fun h1=>?_) fun h1=>?_
  rotate_left
  · have h1:n≤bs:=by have:=of_decide_eq_false h1; omega
    exact ⟨rfl,ys,hp,hR.srt (by omega),h⟩
  have h1:bs < n:=by have:=of_decide_eq_true h1; omega
  have z0:2 * (bs:Int) = ((2 * bs:Nat):Int):=by simp
  rw [z0]
  refine ⟨⟨by omega,by omega⟩,fun a b w'=>∃ D E:List BkQ,a = (D.length:Int)∧b = ((D.length + 2 * bs:Nat):Int)∧(D ++ E).Perm xs∧Ful kyQ (2 * bs) D∧Rns kyQ bs E∧St w' (own 3 o n c (bkV (D ++ E)) :: L),fun a _ _=>n - a.toNat,⟨[],ys,rfl,by simp,hp,.nil,hR,h⟩,?_⟩
  clear h hp hR hyl
  rintro _ _ _ w5 ⟨D,E,rfl,rfl,hp,hF,hR,h⟩
  have hpl:D.length + E.length = xs.length:=by have:=hp.length_eq; simpa using this
  have smE:∀ x∈E,sml x:=fun x hx=>hs x (hp.mem_iff.1 (by simp [hx]))
  refine br_intro (fun h2=>?_) fun h2=>?_
  · have h2:D.length + 2 * bs≤n:=by have:=of_decide_eq_true h2; omega
    obtain ⟨X,m,rfl,hX,sX,hm,_⟩:=hR.cut (by omega)
    have hml:bs≤m.length:=by simp at hpl; omega
    obtain ⟨Y,E',rfl,hY,sY,hE'⟩ : ∃ Y E',m = Y ++ E'∧Y.length = bs∧SrK kyQ Y∧Rns kyQ bs E':=by
      by_cases e:m.length = bs
      · exact ⟨m,[],by simp,e,hm.srt (by omega),.last [] (Nat.zero_le _) .nil⟩
      · obtain ⟨Y,E',q1,q2,q3,q4,_⟩:=hm.cut (by omega)
        exact ⟨Y,E',q1,q2,q3,q4⟩
    refine ⟨⟨by omega,by omega⟩,(s_symMerge hc (X.length + Y.length) (A:=D) (X:=X) (Y:=Y) (C:=E') h (by simp) rfl (by rw [hX]; simp) (by rw [hX,hY]; omega) (fun hh=>by rw [hh] at hX; simp at hX; omega) (fun hh=>by rw [hh] at hY; simp at hY; omega) (Nat.le_refl _) sX sY (fun x hx=>smE x ?_) (by simp at hpl ⊢; omega)).mono ?_⟩
    · rcases List.mem_append.1 hx with hx | hx <;> simp [hx]
    rintro _ w6 ⟨rfl,S,pS,sS,h⟩
    have lS:S.length = 2 * bs:=by rw [pS.length_eq,List.length_append]; omega
    refine ⟨rfl,⟨by omega,by omega⟩,⟨by omega,by omega⟩,⟨D ++ S,E',by simp [lS],by simp [lS],?_,.snoc D S hF lS sS,hE',by simpa using h⟩,?_⟩
    · refine List.Perm.trans ?_ hp
      rw [List.append_assoc]
      refine List.Perm.append_left _ ?_
      rw [← List.append_assoc]
      exact pS.append_right _
    · show n - ((D.length + 2 * bs:Nat):Int).toNat < n - (D.length:Int).toNat
      omega
  have h2:n < D.length + 2 * bs:=by have:=of_decide_eq_false h2; omega
  have z1:(D.length:Int) + (bs:Int) = ((D.length + bs:Nat):Int):=by simp
  rw [z1]
  have next:∀ {w' : World} {S:List BkQ},S.Perm E→SrK kyQ S→St w' (own 3 o n c (bkV (D ++ S)) :: L)→inI ((bs:Int) * 2)∧(∃ (bs' : Nat) (ys:List BkQ),(bs:Int) * 2 = bs'∧20≤bs'∧bs'≤200000∧ys.Perm xs∧Rns kyQ bs' ys∧St w' (own 3 o n c (bkV ys) :: L))∧n - ((bs:Int) * 2).toNat < n - (bs:Int).toNat:=fun {w' S} pS sS h=>by
    have lS:=pS.length_eq
    refine ⟨⟨by omega,by omega⟩,⟨2 * bs,D ++ S,by omega,by omega,by omega,(List.Perm.append_left _ pS).trans hp,hF.rns S (.last S (by omega) sS),h⟩,by omega⟩
  refine ⟨⟨by omega,by omega⟩,br_intro (fun h3=>?_) fun h3=>?_⟩
  · have h3:D.length + bs < n:=by have:=of_decide_eq_true h3; omega
    obtain ⟨X,Y,rfl,hX,sX,hY,hY0⟩:=hR.cut (by omega)
    have hYl:Y.length < bs:=by simp at hpl; omega
    refine (s_symMerge hc (X.length + Y.length) (A:=D) (X:=X) (Y:=Y) (C:=[]) h (by simp) rfl (by rw [hX]) (by simp at hpl; omega) (fun hh=>by rw [hh] at hX; simp at hX; omega) hY0 (Nat.le_refl _) sX (hY.srt (by omega)) smE (by simp at hpl ⊢; omega)).mono ?_
    rintro _ w7 ⟨rfl,S,pS,sS,h⟩
    exact ⟨rfl,next pS sS (by simpa using h)⟩
  · exact next (.refl E) (hR.srt (by have:=of_decide_eq_false h3; omega)) h
theorem cmp_prod:CmpQ n_table_gather_S1 []:=by
  refine ⟨rfl,fun x y u hx hy=>?_⟩
  obtain ⟨x1,x2⟩:=hx
  obtain ⟨y1,y2⟩:=hy
  refine run_table_gather_S1 _ _ _ _ _ _ _ _ _ _ u _ (newC_i (St.all u) fun k1 w1 h=>newC_i h fun k2 w2 h=>?_)
  refine ⟨_,(rdCel 1 h.l).cell (sub.refl _) (j:=1) rfl,_,(rdCel 0 h.l).cell (sub.refl _) (j:=1) rfl,⟨by omega,by omega⟩,_,rfl,?_,rdH 2 h.l⟩
  show x.1.2 - y.1.2 < 0↔x.1.2 < y.1.2
  omega
theorem s_sortLk {xs:List BkQ} (h:St w (own 3 o xs.length c (bkV xs) :: sta (bkO xs) :: L)) (hs:∀ x∈xs,sml x) (hn:xs.length≤100000) :
    Run Tryz.prog n_slices_SortStableFunc_api_Look_api_Look_ [.slice o xs.length c,.func (.func n_table_gather_S1) #[] #[]] w fun v w'=>v = .tuple #[]∧∃ ys:List BkQ,ys.Perm xs∧SrK kyQ ys∧St w' (own 3 o xs.length c (bkV ys) :: sta (bkO ys) :: L):=by
  refine run_slices_SortStableFunc_api_Look_api_Look_ _ _ _ _ _ w _ ((s_stable cmp_prod h hs hn).mono ?_)
  rintro _ w' ⟨rfl,ys,p,s,h⟩
  refine ⟨rfl,rfl,ys,p,s,?_⟩
  have h1:=St.flat.1 (h.pick 2 [1,0])
  have h2:=h1.perm ((p.map fun b=>owQ 1 iv b.2).symm.append_right _)
  exact (St.flat.2 h2).pick 2 [1,0]
end
end Go.Proofs.YtndaepmjkbmjmaaGreatDoor
set_option linter.unusedVariables false
set_option maxRecDepth 4000
namespace Go.V
open Go.Proofs.YtndaepmjkbmjmaaGreatDoor
section
variable {g:GramT} {nn:List Bool} {ss:List SQ}
theorem putsE_len {q:Nat} {es:List EdgeT}:(putsE g q es).length≤es.length:=by
  unfold putsE; rw [List.length_map]; exact List.length_filter_le _ _
theorem putsA_len {q:Nat} {K:List ItemT}:(putsA q K).length≤1:=by unfold putsA; split <;> simp
theorem putsS_len (h:∀ q∈ss,q.2.2.length≤130):∀ n,(putsS g ss n).length≤n * 131
  | 0=>by simp [putsS]
  | n + 1=>by
    rw [putsS_succ,List.length_append]
    have h1:=putsS_len h n
    have h2:(putsQ g ss n).length≤131:=by
      unfold putsQ
      split
      · rename_i r hr
        have:=h r (List.mem_of_getElem? hr)
        have:=putsE_len (g:=g) (q:=n) (es:=r.2.2)
        have:=putsA_len (q:=n) (K:=r.1.2)
        rw [List.length_append]; omega
      · simp
    omega
theorem putsK_len {l:LookT} {n:Nat}:(putsK l n).length≤n:=by unfold putsK; simp; omega
theorem putsL_len {ls:List LookT} (h:∀ l∈ls,l.tm.length≤65):∀ n,(putsL ls n).length≤n * 65
  | 0=>by simp [putsL]
  | n + 1=>by
    have h1:=putsL_len h n
    cases hl:ls[n]? with
    | none =>
      have e:ls.take (n + 1) = ls.take n:=by rw [List.take_add_one,hl]; simp
      unfold putsL at h1 ⊢
      rw [e]; omega
    | some l =>
      rw [putsL_succ hl,List.length_append]
      have h2:=putsK_len (l:=l) (n:=l.tm.length)
      have h3:=h l (List.mem_of_getElem? hl)
      omega
def GatA (g:GramT) (nn:List Bool) (ss:List SQ) (ps:List (PlcT × Lq ActT)):Prop:=(ps.map Prod.fst).Nodup∧∀ q t:Nat,q < ss.length→t < g.T→getK ⟨(q:Int),(t:Int)⟩ ps = actL g nn ss q t
end
end Go.V
namespace Go.V
theorem bkT {w:World} {L:List Asn} {ds:List BkQ} {i:Nat} {b:BkQ} (h:St w (sta (bkO ds) :: L)) (hb:ds[i]? = some b):rdS (hp w) b.2.2 b.2.1.1 b.2.2.length:=by
  have hA:(bkO ds)[i]? = some (owQ 1 iv b.2):=by unfold bkO; rw [List.getElem?_map,hb]; rfl
  have h2:=St.out h hA
  exact rdI_of rfl (rdOv 0 h2.l)
end Go.V
namespace Go.Proofs.YtndaepmjkbmjmaaGreatDoor
open Go.V
variable {w:World} {L:List Asn} {g:GramT} {x:GA}
theorem y_contIt {xs:List ItemT} {a:Option Addr} {l c:Nat} {d e:Int} (hr:rdS (hp w) xs a l) (hb:l≤4611686018427387904):Run Tryz.prog n_slices_Contains_api_Item_api_Item_ [.slice a l c,.agg #[.int .i64 d,.int .i64 e]] w fun v w'=>v = .bool (decide ((⟨d,e⟩ : ItemT)∈xs))∧Gr w w':=by
  have hl:=hr.1
  refine run_slices_Contains_api_Item_api_Item_ _ _ _ _ _ w _ (newC_i (St.all w) fun k1 w1 h=>?_)
  have g1:Gr w w1:=h.gone1
  refine ⟨_,_,(rdCel 0 h.l).at (sub.refl _) rfl,?_⟩
  clear h
  have hr:=hr.mono g1
  have key:Run Tryz.prog n_slices_Index_api_Item_api_Item_ [.slice a l c,.agg #[.int .i64 d,.int .i64 e]] w1 fun v w'=>∃ z:Int,v = .int .i64 z∧(0≤z↔(⟨d,e⟩ : ItemT)∈xs)∧Gr w1 w':=by
    refine run_slices_Index_api_Item_api_Item_ _ _ _ _ _ w1 _ (newC_i (St.all w1) fun k2 w2 h=>?_)
    have g2:Gr w1 w2:=h.gone1
    have rk:rowH (hp w2) (aM k2) [.int .i64 d,.int .i64 e]:=rdCel 0 h.l
    clear h
    have hr:=hr.mono g2
    refine ⟨fun z w'=>∃ j:Nat,z = j∧j≤l∧(⟨d,e⟩ : ItemT)∉xs.take j∧hp w' = hp w2,fun z _=>l - z.toNat,⟨0,rfl,Nat.zero_le _,by simp,rfl⟩,?_⟩
    rintro _ _ w3 ⟨j,rfl,hj,hno,e3⟩
    refine br_intro (fun h1=>?_) fun h1=>?_
    rotate_left
    · have h1:j = l:=by have:=of_decide_eq_false h1; omega
      rw [List.take_of_length_le (by omega)] at hno
      exact ⟨-1,rfl,⟨fun h=>by omega,fun h=>absurd h hno⟩,g2.trans (Gr.of_eq e3)⟩
    have h1:j < l:=by have:=of_decide_eq_true h1; omega
    obtain ⟨y,ad,hy,rfl,ry⟩:=rdIt_getR hr h1
    intro w4 hd
    have e4:hp w4 = hp w2:=(drawn_hp hd).trans e3
    have sb:∀ u:World,hp u = hp w2→sub (hp w2) (hp u):=fun u e=>by rw [e]; exact sub.refl _
    refine ⟨fun u=>hp u = hp w2,e4,_,_,fun u e=>rk.at (sb u e) rfl,idx_n rfl h1 ⟨_,_,fun u e=>ry.at (sb u e) rfl,_,fun u _=>eqItem u _ _ ⟨d,e⟩ y,_,rfl,br_intro (fun h2=>?_) fun h2=>?_⟩⟩
    · have h2:=of_decide_eq_true h2
      exact ⟨j,rfl,⟨fun _=>by rw [h2]; exact List.mem_of_getElem? hy,fun _=>Int.natCast_nonneg _⟩,g2.trans (Gr.of_eq e4)⟩
    · have h2:=of_decide_eq_false h2
      refine ⟨⟨by omega,by omega⟩,⟨j + 1,by simp,h1,fun hm=>?_,e4⟩,msr h1⟩
      rw [List.take_add_one,hy,List.mem_append] at hm
      rcases hm with hm | hm
      · exact hno hm
      · simp at hm; exact h2 hm
  refine key.mono ?_
  rintro _ w' ⟨z,rfl,hz,g⟩
  refine ⟨z,rfl,?_,g1.trans g⟩
  rw [show decide (0≤z) = decide ((⟨d,e⟩ : ItemT)∈xs) from decide_eq_decide.2 hz]
set_option maxHeartbeats 8000000 in
theorem y_gather (hg:gR (hp w) g x) (hb:okG g) (ht:tabA (hp w)):Run Tryz.prog n_table_gather [.agg ⟨x.cells⟩] w fun v w'=>∃ (ss:List SQ) (ask int f:Int) (nn:List Bool) (b:Option Nat) (z:Int),v = .tuple #[.map b,.int .i64 z,.int .i64 f]∧Res g ss ask int f∧(f = 0→NnP g nn)∧Gr w w'∧(f = 0→∃ (k:Nat) (ps:List (PlcT × Lq ActT)),b = some k∧z = (ss.length:Int)∧GatA g nn ss ps∧St w' (mapA k (mV ps) :: sta (mO 2 acV ps) :: all w)):=by
  refine run_table_gather _ _ _ _ _ _ _ _ _ _ _ _ _ w _ (gbox hg fun k1 w1 gw hg1 B=>?_)
  refine ⟨_,_,_,_,_,_,_,_,_,_,_,_,_,B.row (sub.refl _),(y_BuildR hg1 hb).mono ?_⟩
  rintro _ w2 ⟨o,c,ss,ask,int,f,rfl,hR,h3⟩
  have g12:Gr w1 w2:=rdH 3 h3.l
  have hs:stRd (hp w2) ss o:=stRd_of h3.l
  clear h3
  refine ⟨_,_,_,_,_,_,rfl,newC_i (St.all w2) fun k12 w3 h=>stR_i h rfl (by simp [oneC]) fun w4 h=>?_⟩
  have g24:Gr w2 w4:=h.gone1
  have r12:rowH (hp w4) (aM k12) [.slice o ss.length c,.int .i64 ask,.int .i64 int]:=rdCel 0 h.l
  clear h
  have g14:=g12.trans g24
  refine br_intro (fun h1=>?_) fun h1=>?_
  · have h1:f≠0:=by simpa using h1
    exact ⟨ss,ask,int,f,[],none,0,rfl,hR,fun h=>absurd h h1,gw.trans g14,fun h=>absurd h h1⟩
  have h1:f = 0:=by simpa using h1
  subst h1
  obtain ⟨hc,hA⟩:=hR.aut rfl
  have hkl:=hA.klen hc
  have h256:=hA.dn.2.1
  obtain ⟨sT,sN,sP,_,_,_⟩:=hc.sizes
  have tl:=hg.t.1
  refine ⟨_,_,_,_,_,_,_,_,_,_,_,_,_,B.row g14,(t_Sets (hg1.mono g14) hb (rdV.mono (gw.trans g14) ht)).mono ?_⟩
  rintro _ w5 ⟨ss2,ask2,int2,f2,nn,oS,cS,ds,rfl,hR2,hn,hds,h⟩
  obtain ⟨_,hes,_,_,ef,_⟩:=hR.one hR2
  subst ef
  rw [LooksL_es hes.symm] at hds
  have hnn:=hn rfl
  refine ⟨_,_,_,_,rfl,br_intro (fun h1=>by simp at h1) fun _=>?_⟩
  obtain ⟨hbl,_⟩:=bks_len hc hA
  have hdl:ds.length≤24832:=by
    have:=congrArg List.length hds
    rw [List.length_map,LooksL_len] at this
    omega
  have hlk:∀ l∈LooksL g nn ss,l.tm.length≤65:=fun l hl=>by
    obtain ⟨b,_,rfl⟩:=List.mem_map.1 hl
    exact Nat.le_trans look_len sT
  have hs:=hs.mono g24
  have hel:∀ q∈ss,q.2.2.length≤130:=fun q hq=>(hkl q hq).2
  have pS:∀ n,n≤ss.length→(putsS g ss n).length≤33536:=fun n hn=>by have:=putsS_len (g:=g) hel n; omega
  have smD:∀ b∈ds,sml b:=fun b hb=>by
    have hm:toLk b∈LooksL g nn ss:=by rw [← hds]; exact List.mem_map_of_mem hb
    obtain ⟨q,m,_,hm2,_,e⟩:=looks_st hm
    have e:b.1.2 = (m:Int):=congrArg LookT.prod e
    unfold sml; omega
  refine new_i h fun k23 w6 h=>?_
  have h:St w6 (mapA k23 (mV ([] : List (PlcT × Lq ActT))) :: own 3 oS ds.length cS (bkV ds) :: sta (bkO ds) :: all w4):=mapA_new h
  have h:St w6 (mapA k23 (mV ([] : List (PlcT × Lq ActT))) :: sta (mO 2 acV ([] : List (PlcT × Lq ActT))) :: own 3 oS ds.length cS (bkV ds) :: sta (bkO ds) :: all w4):=((St.flat (M:=[])).2 h).pick 2 [1,0]
  refine ⟨_,_,_,r12.cell0 (rdH 4 h.l),fun z w'=>∃ (q:Nat) (ps:List (PlcT × Lq ActT)),z = q∧q≤ss.length∧GatI ps (putsS g ss q)∧St w' (mapA k23 (mV ps) :: sta (mO 2 acV ps) :: own 3 oS ds.length cS (bkV ds) :: sta (bkO ds) :: all w4),fun z _=>ss.length - z.toNat,⟨0,[],rfl,Nat.zero_le _,GatI.nil,h⟩,?_⟩
  clear h
  rintro _ _ w7 ⟨q,ps,rfl,hq,hG,h⟩
  refine br_intro (fun h1=>?_) fun h1=>?_
  · have h1:q < ss.length:=by have:=of_decide_eq_true h1; omega
    obtain ⟨r,hr⟩ : ∃ r,ss[q]? = some r:=⟨_,List.getElem?_eq_getElem h1⟩
    obtain ⟨ad,ho,rs,rk,re⟩:=hs q r hr
    have hrm:=List.mem_of_getElem? hr
    have hrl:=hel r hrm
    have hkl1:=(hkl r hrm).1
    have hpq:=pS q hq
    have eS:putsS g ss (q + 1) = putsS g ss q ++ (putsE g q r.2.2 ++ putsA q r.1.2):=by
      rw [putsS_succ]; unfold putsQ; rw [hr]
    refine idx_n ho h1 ⟨_,_,_,_,_,_,rs.at (rdH 4 h.l) rfl,newC_i h fun k30 w8 h=>stR_i h rfl (by simp [oneC]) fun w9 h=>⟨_,_,_,(rdCel 0 h.l).cell (sub.refl _) (j:=1) rfl,?_⟩⟩
    refine ⟨fun z w'=>∃ (k:Nat) (ps:List (PlcT × Lq ActT)),z = k∧k≤r.2.2.length∧GatI ps (putsS g ss q ++ putsE g q (r.2.2.take k))∧St w' (mapA k23 (mV ps) :: sta (mO 2 acV ps) :: cel k30 (stV r) :: own 3 oS ds.length cS (bkV ds) :: sta (bkO ds) :: all w4),fun z _=>r.2.2.length - z.toNat,⟨0,ps,rfl,Nat.zero_le _,by simpa [putsE] using hG,h.pick 3 [1,2,0]⟩,?_⟩
    clear h hG
    rintro _ _ w10 ⟨k,ps,rfl,hk,hG,h⟩
    have hpe:=putsE_len (g:=g) (q:=q) (es:=r.2.2.take k)
    rw [List.length_take] at hpe
    refine br_intro (fun h2=>?_) fun h2=>?_
    · have h2:k < r.2.2.length:=by have:=of_decide_eq_true h2; omega
      obtain ⟨e,ead,he,hea,re'⟩:=rdEd_get re h2
      have etk:r.2.2.take (k + 1) = r.2.2.take k ++ [e]:=by rw [List.take_add_one,he]; rfl
      refine idx_n hea h2 ⟨_,_,re'.at (rdH 5 h.l) rfl,newC_i h fun k33 w11 h=>stR_i h rfl (by simp [oneC]) fun w12 h=>⟨_,(rdCel 0 h.l).cell0 (sub.refl _),_,_,_,B.c0 (sub.trans g14 (rdH 6 h.l)),br_intro (fun h3=>?_) fun h3=>?_⟩⟩
      · have h3:e.sym < (g.T:Int):=by have:=of_decide_eq_true h3; rw [← tl] at this; exact this
        refine ⟨_,(rdCel 0 h.l).cell0 (sub.refl _),_,(rdCel 0 h.l).cell (sub.refl _) (j:=1) rfl,newC_i h fun k36 w13 h=>(y_put (q:=q) (t:=e.sym) (a:=⟨1,e.to⟩) (h.pick 2 [0]) hG (by rw [List.length_append]; omega)).mono ?_⟩
        rintro _ w14 ⟨rfl,ps',hG',h⟩
        refine ⟨rfl,⟨by omega,by omega⟩,⟨k + 1,ps',by simp,h2,?_,h⟩,msr h2⟩
        rw [etk,putsE_snoc,if_pos h3,← List.append_assoc]
        exact hG'
      · have h3:¬ e.sym < (g.T:Int):=by have:=of_decide_eq_false h3; rw [← tl] at this; exact this
        refine ⟨⟨by omega,by omega⟩,⟨k + 1,ps,by simp,h2,?_,h.tail⟩,msr h2⟩
        rw [etk,putsE_snoc,if_neg h3]
        exact hG
    have h2:k = r.2.2.length:=by have:=of_decide_eq_false h2; omega
    rw [h2,List.take_length] at hG
    refine ⟨_,_,_,(rdCel 2 h.l).cell0 (sub.refl _),(y_contIt (rk.mono (rdH 5 h.l)) (by omega)).mono ?_⟩
    rintro _ w15 ⟨rfl,g15⟩
    have h:=h.gr g15
    refine ⟨_,rfl,br_intro (fun h3=>newC_i h fun k39 w16 h=>(y_put (q:=q) (t:=0) (a:=⟨3,0⟩) h hG (by rw [List.length_append]; have:=putsE_len (g:=g) (q:=q) (es:=r.2.2); omega)).mono ?_) fun h3=>?_⟩
    · rintro _ w17 ⟨rfl,ps',hG',h⟩
      refine ⟨rfl,⟨by omega,by omega⟩,⟨q + 1,ps',by simp,h1,?_,h.pick 3 [0,1]⟩,msr h1⟩
      have ea:putsA q r.1.2 = [(⟨(q:Int),0⟩,⟨3,0⟩)]:=by unfold putsA; rw [if_pos (of_decide_eq_true h3)]
      rw [eS,ea,← List.append_assoc]
      exact hG'
    · refine ⟨⟨by omega,by omega⟩,⟨q + 1,ps,by simp,h1,?_,h.pick 3 [0,1]⟩,msr h1⟩
      have ea:putsA q r.1.2 = []:=by unfold putsA; rw [if_neg (of_decide_eq_false h3)]
      rw [eS,ea,List.append_nil]
      exact hG
  have h1:q = ss.length:=by have:=of_decide_eq_false h1; omega
  subst h1
  have hpS:=pS ss.length (Nat.le_refl _)
  refine (s_sortLk (h.pick 4 [2,3,0,1]) smD (by omega)).mono ?_
  rintro _ w18 ⟨rfl,ys,pys,sys,h⟩
  have hyl:ds.length = ys.length:=pys.length_eq.symm
  rw [hyl] at h ⊢
  have pL:(ys.map toLk).Perm (LooksL g nn ss):=by rw [← hds]; exact pys.map _
  have sL:SrK (·.prod) (ys.map toLk):=by rw [SrK,List.pairwise_map]; exact sys
  have hyt:∀ l∈ys.map toLk,l.tm.length≤65:=fun l hl=>hlk l (pL.mem_iff.1 hl)
  have pL2:∀ n,n≤ys.length→(putsL (ys.map toLk) n).length≤24832 * 65:=fun n hn=>by have:=putsL_len hyt n; omega
  refine ⟨rfl,fun z w'=>∃ (i:Nat) (ps:List (PlcT × Lq ActT)),z = i∧i≤ys.length∧GatI ps (putsS g ss ss.length ++ putsL (ys.map toLk) i)∧St w' (mapA k23 (mV ps) :: sta (mO 2 acV ps) :: own 3 oS ys.length cS (bkV ys) :: sta (bkO ys) :: all w4),fun z _=>ys.length - z.toNat,⟨0,ps,rfl,Nat.zero_le _,by simpa [putsL] using hG,h.pick 4 [2,3,0,1]⟩,?_⟩
  clear h hG
  rintro _ _ w19 ⟨i,ps,rfl,hi,hG,h⟩
  refine br_intro (fun h1=>?_) fun h1=>?_
  · have h1:i < ys.length:=by have:=of_decide_eq_true h1; omega
    obtain ⟨b,hb1⟩ : ∃ b,ys[i]? = some b:=⟨_,List.getElem?_eq_getElem h1⟩
    have hbl:(ys.map toLk)[i]? = some (toLk b):=by rw [List.getElem?_map,hb1]; rfl
    have hbt:b.2.2.length≤65:=hyt (toLk b) (List.mem_of_getElem? hbl)
    have hpi:=pL2 i hi
    obtain ⟨ad,ho,rb⟩:=bkR (h.pick 3 [2,0,1]) hb1
    refine idx_n ho h1 ⟨_,_,_,_,_,rb.at (sub.refl _) rfl,newC_i h fun k42 w20 h=>stR_i h rfl (by simp [oneC]) fun w21 h=>⟨_,_,_,(rdCel 0 h.l).cell (sub.refl _) (j:=2) rfl,?_⟩⟩
    refine ⟨fun z w'=>∃ (k:Nat) (ps:List (PlcT × Lq ActT)),z = k∧k≤b.2.2.length∧GatI ps ((putsS g ss ss.length ++ putsL (ys.map toLk) i) ++ putsK (toLk b) k)∧St w' (mapA k23 (mV ps) :: sta (mO 2 acV ps) :: cel k42 (rwQ b) :: own 3 oS ys.length cS (bkV ys) :: sta (bkO ys) :: all w4),fun z _=>b.2.2.length - z.toNat,⟨0,ps,rfl,Nat.zero_le _,by simpa [putsK] using hG,h.pick 3 [1,2,0]⟩,?_⟩
    clear h hG rb
    rintro _ _ w22 ⟨k,ps,rfl,hk,hG,h⟩
    refine br_intro (fun h2=>?_) fun h2=>?_
    · have h2:k < b.2.2.length:=by have:=of_decide_eq_true h2; omega
      have rt:=bkT (h.pick 5 [4,0,1,2,3]) hb1
      obtain ⟨t,tad,ht1,hta,ht2⟩:=rt.get1 h2
      have hpk:=putsK_len (l:=toLk b) (n:=k)
      refine idx_i hta h2 ⟨t,ht2 _ (sub.refl _),_,(rdCel 2 h.l).cell0 (sub.refl _),_,(rdCel 2 h.l).cell (sub.refl _) (j:=1) rfl,newC_i h fun k45 w23 h=>(y_put (q:=b.1.1) (t:=t) (a:=⟨2,b.1.2⟩) h hG (by simp only [List.length_append]; omega)).mono ?_⟩
      rintro _ w24 ⟨rfl,ps',hG',h⟩
      refine ⟨rfl,⟨by omega,by omega⟩,⟨k + 1,ps',by simp,h2,?_,h⟩,msr h2⟩
      rw [putsK_succ (show (toLk b).tm[k]? = some t from ht1),← List.append_assoc]
      exact hG'
    · have h2:k = b.2.2.length:=by have:=of_decide_eq_false h2; omega
      refine ⟨⟨by omega,by omega⟩,⟨i + 1,ps,by simp,h1,?_,h.pick 3 [0,1]⟩,msr h1⟩
      rw [putsL_succ hbl,← List.append_assoc]
      rw [h2] at hG
      exact hG
  have h1:i = ys.length:=by have:=of_decide_eq_false h1; omega
  subst h1
  intro w25 hd
  have h:=h.eq (drawn_hp hd)
  refine ⟨fun u=>hp u = hp w25,rfl,_,_,_,fun u e=>r12.cell0 (by rw [e]; exact rdH 4 h.l),ss,ask,int,0,nn,some k23,_,rfl,hR,fun _=>hnn,gw.trans (sub.trans g14 (rdH 4 h.l)),fun _=>⟨k23,ps,rfl,rfl,⟨hG.1,fun q t hq ht=>?_⟩,?_⟩⟩
  · rw [hG.2,show ys.length = (ys.map toLk).length by simp]
    exact atAll hA pL sL hq ht
  · exact St.on2 (h.pick 5 [0,1,4]) (has_i (gw.trans g14))
end Go.Proofs.YtndaepmjkbmjmaaGreatDoor
