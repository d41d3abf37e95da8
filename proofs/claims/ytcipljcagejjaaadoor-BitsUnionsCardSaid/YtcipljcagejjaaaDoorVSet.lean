/- Sets of small numbers as lists of bools: contracts of the program's sets. -/
import Derived.Test.YtcipljcagejjaaaDoorVRep
set_option linter.unusedVariables false
namespace Go.V
def fnB (bs : List Bool) : Nat → Bool := fun k => bs.getD k false
def mb (bs : List Bool) : List Nat := membs bs.length (fnB bs)
def mbI (bs : List Bool) : List Int := (mb bs).map fun (k : Nat) => (k : Int)
def cntB (bs : List Bool) : Nat := cnt bs.length (fnB bs)
def tabB (n : Nat) (m : Nat → Bool) : List Bool := (List.range n).map m
def addB (bs : List Bool) (xs : List Int) : List Bool := tabB bs.length (addS bs.length (fnB bs) xs)
def dropB (bs : List Bool) (xs : List Int) : List Bool := tabB bs.length (dropS (fnB bs) xs)
def hasB (bs : List Bool) (k : Int) : Bool := decide (0 ≤ k) && fnB bs k.toNat
def ofB (size : Int) (xs : List Int) : List Bool := addB (List.replicate (ofN size) false) xs
def unionB (bs : List Bool) (vss : List (List Bool)) : List Bool := vss.foldl (fun b v => addB b (mbI v)) bs
def meetsB (bs : List Bool) (vss : List (List Bool)) : Bool := (mb bs).any fun m => vss.all fun v => fnB v m
theorem tabB_len (n : Nat) (m : Nat → Bool) : (tabB n m).length = n := by simp [tabB]
theorem addB_len (bs : List Bool) (xs : List Int) : (addB bs xs).length = bs.length := tabB_len _ _
theorem dropB_len (bs : List Bool) (xs : List Int) : (dropB bs xs).length = bs.length := tabB_len _ _
theorem ofB_len (size : Int) (xs : List Int) : (ofB size xs).length = ofN size := by simp [ofB, addB_len]
theorem fnB_out {bs : List Bool} {k : Nat} (h : bs.length ≤ k) : fnB bs k = false := by
  unfold fnB; rw [List.getD_eq_getElem?_getD, List.getElem?_eq_none h]; rfl
theorem fnB_get {bs : List Bool} {k : Nat} {b : Bool} (h : bs[k]? = some b) : fnB bs k = b := by
  unfold fnB; rw [List.getD_eq_getElem?_getD, h]; rfl
theorem fnB_tab {n : Nat} {m : Nat → Bool} (hm : ∀ k, n ≤ k → m k = false) : fnB (tabB n m) = m := by
  funext k
  by_cases h : k < n
  · exact fnB_get (by simp [tabB, h])
  · rw [fnB_out (by rw [tabB_len]; omega), hm k (by omega)]
theorem tabB_fn (bs : List Bool) : tabB bs.length (fnB bs) = bs := by
  apply List.ext_getElem?
  intro k
  by_cases h : k < bs.length
  · simp [tabB, h, fnB]
  · rw [List.getElem?_eq_none (by rw [tabB_len]; omega), List.getElem?_eq_none (by omega)]
theorem fnB_inj {cs bs : List Bool} (hl : cs.length = bs.length) (h : ∀ k, fnB cs k = fnB bs k) : cs = bs := by
  rw [← tabB_fn cs, ← tabB_fn bs, hl]; congr 1; funext k; exact h k
theorem fnB_add (bs : List Bool) (xs : List Int) : fnB (addB bs xs) = addS bs.length (fnB bs) xs :=
  fnB_tab fun k hk => by simp [addS, fnB_out hk]; omega
theorem fnB_drop (bs : List Bool) (xs : List Int) : fnB (dropB bs xs) = dropS (fnB bs) xs :=
  fnB_tab fun k hk => by simp [dropS, fnB_out hk]
theorem fnB_rep (n k : Nat) : fnB (List.replicate n false) k = false := by
  unfold fnB; rw [List.getD_eq_getElem?_getD, List.getElem?_replicate]; split <;> rfl
theorem cntB_le (bs : List Bool) : cntB bs ≤ bs.length := cnt_le _ _
theorem mb_len (bs : List Bool) : (mb bs).length = cntB bs := rfl
theorem mbI_len (bs : List Bool) : (mbI bs).length = cntB bs := by rw [mbI, List.length_map]; rfl
theorem mem_mb {bs : List Bool} {k : Nat} : k ∈ mb bs ↔ fnB bs k = true := by
  simp only [mb, membs, List.mem_filter, List.mem_range]
  refine ⟨fun h => h.2, fun h => ⟨Nat.lt_of_not_le fun hl => ?_, h⟩⟩
  rw [fnB_out hl] at h; cases h
theorem mem_mbI {bs : List Bool} {x : Int} : x ∈ mbI bs ↔ hasB bs x = true := by
  simp only [mbI, List.mem_map, mem_mb, hasB, Bool.and_eq_true, decide_eq_true_eq]
  constructor
  · rintro ⟨k, h, rfl⟩; exact ⟨by omega, h⟩
  · rintro ⟨h1, h2⟩; exact ⟨_, h2, by omega⟩
theorem mbI_contains {bs : List Bool} {k : Nat} : (mbI bs).contains (k : Int) = fnB bs k := by
  rw [Bool.eq_iff_iff, List.contains_iff_mem, mem_mbI]
  simp [hasB]
theorem iv_mbI (bs : List Bool) : iv (mbI bs) = ivn (mb bs) := by rw [mbI, ivn_iv]
theorem mb_inj {cs bs : List Bool} (hl : cs.length = bs.length) (h : mbI cs = mbI bs) : cs = bs :=
  fnB_inj hl fun k => by rw [← mbI_contains, ← mbI_contains, h]
theorem ofB_mb (bs : List Bool) (hl : bs.length ≤ 1024) : ofB (bs.length : Int) (mbI bs) = bs := by
  refine fnB_inj (by rw [ofB_len, ofN_nat hl]) fun k => ?_
  unfold ofB
  rw [fnB_add, addS, fnB_rep, mbI_contains, List.length_replicate, ofN_nat hl]
  by_cases h : k < bs.length
  · simp [h]
  · simp [h, fnB_out (Nat.le_of_not_lt h)]
theorem fnB_add_mb (bs vs : List Bool) (k : Nat) : fnB (addB bs (mbI vs)) k = (fnB bs k || (decide (k < bs.length) && fnB vs k)) := by
  rw [fnB_add, addS, mbI_contains]
theorem unionB_len (vss : List (List Bool)) : ∀ bs, (unionB bs vss).length = bs.length := by
  induction vss with
  | nil => exact fun _ => rfl
  | cons v l ih => exact fun bs => (ih _).trans (addB_len _ _)
theorem fnB_union (vss : List (List Bool)) : ∀ (bs : List Bool) (k : Nat), fnB (unionB bs vss) k = (fnB bs k || (decide (k < bs.length) && vss.any fun v => fnB v k)) := by
  induction vss with
  | nil => intro bs k; simp [unionB]
  | cons v l ih =>
    intro bs k
    show fnB (unionB (addB bs (mbI v)) l) k = _
    rw [ih, addB_len, fnB_add_mb, List.any_cons]
    cases fnB bs k <;> cases decide (k < bs.length) <;> simp
theorem unionB_take {vss : List (List Bool)} {bs v : List Bool} {j : Nat} (h : vss[j]? = some v) : unionB bs (vss.take (j + 1)) = addB (unionB bs (vss.take j)) (mbI v) := by
  unfold unionB; rw [List.take_add_one, h, List.foldl_append]; rfl
theorem addB_take {bs : List Bool} {xs : List Int} {j : Nat} {x : Int} (h : xs[j]? = some x) : addB (addB bs (xs.take j)) [x] = addB bs (xs.take (j + 1)) := by
  refine fnB_inj (by simp [addB_len]) fun k => ?_
  rw [fnB_add, fnB_add, fnB_add]
  simp only [addS, addB_len, take_succ_get h, contains_snoc, List.contains_cons, List.contains_nil, Bool.or_false]
  cases fnB bs k <;> cases decide (k < bs.length) <;> simp
theorem cnt_mono {n : Nat} {m m' : Nat → Bool} (h : ∀ k, m k = true → m' k = true) : cnt n m ≤ cnt n m' := by
  unfold cnt
  rw [← List.countP_eq_length_filter, ← List.countP_eq_length_filter]
  exact List.countP_mono_left fun k _ => h k
theorem cntB_add (bs : List Bool) (xs : List Int) : cntB bs ≤ cntB (addB bs xs) := by
  unfold cntB; rw [addB_len, fnB_add]
  exact cnt_mono fun k h => by simp [addS, h]
theorem cntB_drop (bs : List Bool) (xs : List Int) : cntB (dropB bs xs) ≤ cntB bs := by
  unfold cntB; rw [dropB_len, fnB_drop]
  exact cnt_mono fun k h => by simp [dropS] at h; exact h.1

/- a set that one owns; a set that is read -/
def setO (p : Option Addr) (bs : List Bool) : Asn := setM p bs.length (fnB bs)
def setR (h : Hp) (p : Option Addr) (bs : List Bool) : Prop :=
  (p = none ∧ bs = []) ∨ ∃ b a c ws, p = some ⟨b, 0, none⟩ ∧ Inv bs.length ws (fnB bs) ∧ rowH h ⟨b, 0, none⟩ [.slice a (List.length ws) c, .int .i64 (bs.length : Int)] ∧ rdV a (cw ws) h
theorem rdV.mono {h h' : Hp} {a : Option Addr} {vs : List Value} (s : sub h h') (r : rdV a vs h) : rdV a vs h' := by
  rcases r with r | ⟨ad, e, hc⟩
  · exact .inl r
  · exact .inr ⟨ad, e, fun j v hj => cellH_sub s (hc j v hj)⟩
theorem setR.mono {h h' : Hp} {p : Option Addr} {bs : List Bool} (s : sub h h') (r : setR h p bs) : setR h' p bs := by
  rcases r with r | ⟨b, a, c, ws, h1, h2, h3, h4⟩
  · exact .inl r
  · exact .inr ⟨b, a, c, ws, h1, h2, h3.mono s, h4.mono s⟩
theorem setO_R {h : Hp} {p : Option Addr} {bs : List Bool} (ho : setO p bs h) : setR h p bs := by
  rcases ho with ⟨h1, h2, _⟩ | ⟨b, a, c, ws, h1, h2, h3⟩
  · exact .inl ⟨h1, List.eq_nil_of_length_eq_zero h2⟩
  · obtain ⟨g1, g2, d, s1, s2, ha, g3, g4, d', s3, s4, hb, _⟩ := h3
    exact .inr ⟨b, a, c, ws, h1, h2, (cel_row ha).mono s1, (own_rdVh hb).mono (s3.trans s2)⟩
theorem St.setR {w : World} {L : List Asn} {p : Option Addr} {bs : List Bool} (h : St w (setO p bs :: L)) : setR (hp w) p bs := by
  obtain ⟨h1, s, ha⟩ := h.first
  exact (setO_R ha).mono s
theorem setR.le {h : Hp} {p : Option Addr} {bs : List Bool} (r : V.setR h p bs) : bs.length ≤ 1024 := by
  rcases r with ⟨_, rfl⟩ | ⟨b, a, c, ws, _, h2, _⟩
  · simp
  · exact h2.le
theorem setM_O {w : World} {L : List Asn} {p : Option Addr} {n : Nat} {m : Nat → Bool} (h : St w (setM p n m :: L)) : St w (setO p (tabB n m) :: L) := by
  unfold setO; rw [tabB_len, fnB_tab fun k hk => setM_out h hk]; exact h
theorem setO_none {w : World} {L : List Asn} (h : St w L) : St w (setO none [] :: L) := setM_none h
instance : Rep1 (Option Addr) := { n := 1, rd := fun _ x vs => vs = [.pointer x], mono := fun _ h => h, len := fun h => by rw [h]; rfl, val := fun x => .pointer x, one := Iff.rfl, n1 := rfl }
theorem st_of {A : Asn} {w : World} (h : A (hp w)) : St w [A] := ⟨hp w, fun _ => none, fun _ => .inr rfl, sub.refl _, fun _ _ h => (nomatch h), h, trivial⟩
end Go.V
namespace Go.Proofs.YtcipljcagejjaaaDoor
open Go.V
section
variable {w : World} {L : List Asn} {a : Option Addr} {l c : Nat} {p q : Option Addr} {bs cs : List Bool} {xs : List Int} {ws : List Nat}
theorem r_words_has (h : rdV a (cw ws) (hp w)) (hlt : ∀ x ∈ ws, x < 2 ^ 64) {k : Nat} (hk : k / 64 < ws.length) (hb : k < 4096) :
    Run Tryd.prog n_bits_words_has [.slice a ws.length c, .int .i64 (k : Int)] w fun v w' => v = .bool (mem ws k) ∧ w' = w := by
  refine run_bits_words_has _ _ _ _ w _ ?_
  obtain ⟨ad, rfl, hg⟩ := rdV_get (st_of h) (cw_get hk)
  refine ⟨nz64, ?_, ?_⟩
  · rw [tdiv64]; exact inI_nat (by omega)
  · rw [tdiv64, tmod64]
    refine idx_i rfl hk ⟨_, hg, nz64, ?_, ?_, rfl⟩
    · show (0 : Int) ≤ _; omega
    · rw [bit_test (getD_lt hlt _) (Nat.mod_lt _ (by omega))]; rfl
theorem s_Size (h : setR (hp w) p bs) : Run Tryd.prog n_bits_Set_Size [.pointer p] w fun v w' => v = .int .i64 (bs.length : Int) ∧ w' = w := by
  refine run_bits_Set_Size _ w _ ?_
  rcases h with ⟨rfl, rfl⟩ | ⟨b, a, c, ws, rfl, hi, h, _⟩
  · exact ⟨rfl, rfl⟩
  · exact ⟨_, h.cell (sub.refl _) (j := 1) rfl, rfl, rfl⟩
theorem s_Has (h : setR (hp w) p bs) (k : Int) : Run Tryd.prog n_bits_Set_Has [.pointer p, .int .i64 k] w fun v w' => v = .bool (hasB bs k) ∧ w' = w := by
  refine run_bits_Set_Has _ _ w _ ?_
  unfold hasB
  refine br_intro (fun h0 => ?_) fun h0 => ?_
  · refine (s_Size h).mono ?_
    rintro _ _ ⟨rfl, rfl⟩
    refine ⟨_, rfl, br_intro (fun h1 => ?_) fun h1 => ?_⟩
    · have h0 := of_decide_eq_true h0
      have h1 := of_decide_eq_true h1
      rcases h with ⟨rfl, rfl⟩ | ⟨b, a, c, ws, rfl, hi, h, hr⟩
      · simp at h1; omega
      · obtain ⟨j, rfl⟩ := Int.eq_ofNat_of_zero_le h0
        have hj : j < bs.length := by omega
        refine ⟨a, ws.length, c, h.cell0 (sub.refl _), ?_⟩
        refine (r_words_has hr hi.lt (inv_lt hi hj) (by have := hi.le; omega)).mono ?_
        rintro _ _ ⟨rfl, rfl⟩
        refine ⟨_, rfl, ?_, rfl⟩
        simp [hi.mm]
    · refine ⟨?_, rfl⟩
      have h1 := of_decide_eq_false h1
      rw [fnB_out (k := k.toNat) (by omega)]; simp
  · exact ⟨by rw [h0]; rfl, rfl⟩
theorem s_Count (h : setR (hp w) p bs) : Run Tryd.prog n_bits_Set_Count [.pointer p] w fun v w' => v = .int .i64 (cntB bs : Int) ∧ w' = w := by
  refine run_bits_Set_Count _ w _ ?_
  rcases h with ⟨rfl, rfl⟩ | ⟨b, a, c, ws, rfl, hi, hs, hr⟩
  · exact ⟨rfl, rfl⟩
  · refine ⟨a, ws.length, c, hs.cell0 (sub.refl _), ?_⟩
    refine ⟨fun n1 n2 w' => ∃ j : Nat, n2 = j ∧ j ≤ ws.length ∧ n1 = (cnt (64 * j) (fnB bs) : Int) ∧ w' = w, fun _ n2 _ => ws.length - n2.toNat, ⟨0, rfl, by omega, by simp [cnt], rfl⟩, ?_⟩
    rintro _ n1 n2 _ ⟨j, rfl, hj, rfl, rfl⟩
    have hlen := hi.len
    have hn := hi.le
    refine br_intro (fun h0 => ?_) fun h0 => ?_
    · have h0 : j < ws.length := by have := of_decide_eq_true h0; omega
      obtain ⟨ad, rfl, hg⟩ := rdV_get (st_of hr) (cw_get h0)
      refine idx_i rfl h0 ⟨_, hg, ?_⟩
      refine (c_OnesCount64 (getD_lt hi.lt j) _).mono ?_
      rintro _ _ ⟨rfl, rfl⟩
      have h1 := cnt_le (64 * j) (fnB bs)
      have h2 := pc_le 64 (ws.getD j 0)
      refine ⟨_, rfl, ⟨by omega, by omega⟩, ⟨by omega, by omega⟩, ⟨j + 1, by simp, by omega, ?_, rfl⟩, msr h0⟩
      rw [cnt_word hi.mm]; omega
    · have h0 : j = ws.length := by have := of_decide_eq_false h0; omega
      subst h0
      rw [cnt_all hi]
      exact ⟨rfl, rfl⟩
theorem s_Add (h : St w (setO p bs :: L)) (hx : ∀ h, starL L h → rdS h xs a l) (hb : l ≤ 4611686018427387904) :
    Run Tryd.prog n_bits_Set_Add [.pointer p, .slice a l c] w fun v w' => v = .int .i64 ((cntB (addB bs xs) : Int) - cntB bs) ∧ St w' (setO p (addB bs xs) :: L) := by
  obtain ⟨h0, hl, hs, h1⟩ := h.freeze
  have hx := hx h0 hl
  refine (c_Add (D := has h0) (L := []) (fun h hh => hx.iv.mono hh) h1 hx.1 hb).mono ?_
  rintro _ w' ⟨rfl, h2⟩
  refine ⟨?_, ?_⟩
  · simp only [cntB, addB_len, fnB_add]
  · have h2 := setM_O h2
    exact h2.on1 hl
theorem s_Drop (h : St w (setO p bs :: L)) (hx : ∀ h, starL L h → rdS h xs a l) (hb : l ≤ 4611686018427387904) :
    Run Tryd.prog n_bits_Set_Drop [.pointer p, .slice a l c] w fun v w' => v = .int .i64 ((cntB bs : Int) - cntB (dropB bs xs)) ∧ St w' (setO p (dropB bs xs) :: L) := by
  obtain ⟨h0, hl, hs, h1⟩ := h.freeze
  have hx := hx h0 hl
  refine (c_Drop (D := has h0) (L := []) (fun h hh => hx.iv.mono hh) h1 hx.1 hb).mono ?_
  rintro _ w' ⟨rfl, h2⟩
  refine ⟨?_, ?_⟩
  · simp only [cntB, dropB_len, fnB_drop]
  · have h2 := setM_O h2
    exact h2.on1 hl
theorem s_Of (size : Int) (hx : rdS (hp w) xs a l) (hb : l ≤ 4611686018427387904) :
    Run Tryd.prog n_bits_Of [.int .i64 size, .slice a l c] w fun v w' => ∃ b, v = .pointer (some ⟨b, 0, none⟩) ∧ St w' (setO (some ⟨b, 0, none⟩) (ofB size xs) :: all w) := by
  refine (c_Of size (D := has (hp w)) (L := []) (fun h hh => hx.iv.mono hh) (St.all w) hx.1 hb).mono ?_
  rintro _ w' ⟨b, rfl, h2⟩
  refine ⟨b, rfl, ?_⟩
  have h2 := setM_O h2
  have e : tabB (ofN size) (addS (ofN size) (fun _ => false) xs) = ofB size xs := by
    unfold ofB addB
    rw [List.length_replicate]
    congr 2
    funext k; exact (fnB_rep _ k).symm
  rw [e] at h2
  exact h2
theorem s_All (h : setR (hp w) p bs) : Run Tryd.prog n_bits_Set_All [.pointer p] w fun v w' => ∃ b, v = .func (.func n_bits_Set_All_S1) #[] #[.pointer (some ⟨b, 0, none⟩)] ∧ St w' (itD b bs.length (fnB bs) :: all w) := by
  refine run_bits_Set_All _ w _ ?_
  refine newC_i (St.all w) fun b w1 h1 => ?_
  rcases h with ⟨rfl, rfl⟩ | ⟨b2, a, c, ws, rfl, hi, h2, hr⟩
  · refine ⟨b, rfl, itD_open.2 ⟨none, 0, [], inv_zero (Nat.zero_le _), ?_⟩⟩
    exact (own_nil 1 h1).swap
  · have hl : ws.length ≤ 1024 := by rw [hi.len]; have := hi.le; omega
    refine ⟨a, ws.length, c, h2.cell0 h1.gone1, ?_⟩
    refine (c_Clone (D := has (hp w)) (fun h hh => hr.mono hh) h1.swap hl (fun e => ?_)).mono ?_
    · subst e
      rcases hr with hr | ⟨_, hr, _⟩
      · exact cw_nil hr
      · cases hr
    rintro _ w2 ⟨a', c', rfl, h3⟩
    refine ⟨_, _, _, rfl, ?_⟩
    refine st1_i h3.rot3 (by simp) fun w3 h4 => ?_
    exact ⟨b, rfl, itD_open.2 ⟨a', c', ws, hi, h4⟩⟩
theorem s_Members (h : setR (hp w) p bs) (ht : tabA (hp w)) : Run Tryd.prog n_bits_Set_Members [.pointer p] w fun v w' => ∃ a' c', v = .slice a' (cntB bs) c' ∧ St w' (own 1 a' (cntB bs) c' (iv (mbI bs)) :: all w) := by
  refine run_bits_Set_Members _ w _ ?_
  have hn := h.le
  have hc := cntB_le bs
  refine (s_All h).mono ?_
  rintro _ w1 ⟨b, rfl, h1⟩
  refine ⟨_, _, rfl, ?_⟩
  refine (c_Collect (rfl : Fn _ = true) c_All_itr (fun h hh => rdV.mono (starL_has hh) ht) (by rw [membs_len]; show cntB bs ≤ _; omega) h1).mono ?_
  rintro _ w2 ⟨a', c', rfl, h3⟩
  refine ⟨_, _, _, rfl, a', c', rfl, ?_⟩
  rw [iv_mbI]
  exact h3.swap.tail
theorem s_EqualInts {a2 : Option Addr} {l2 c2 : Nat} {ys : List Int} (hx : rdS (hp w) xs a l) (hy : rdS (hp w) ys a2 l2) (hb : l ≤ 4611686018427387904) :
    Run Tryd.prog n_slices_Equal_int_int_ [.slice a l c, .slice a2 l2 c2] w fun v w' => v = .bool (decide (xs = ys)) ∧ hp w' = hp w := by
  refine run_slices_Equal_int_int_ _ _ _ _ _ _ w _ ?_
  have hl := hx.1
  have hl2 := hy.1
  refine br_intro (fun h0 => ?_) fun h0 => ?_
  · have h0 : l ≠ l2 := natNe h0
    exact ⟨by rw [decide_eq_false fun e => h0 (by rw [← hl, ← hl2, e])], rfl⟩
  · have h0 : l = l2 := natEq' h0
    subst h0
    refine ⟨fun n1 w' => ∃ j : Nat, n1 = j ∧ j ≤ l ∧ xs.take j = ys.take j ∧ hp w' = hp w, fun n1 _ => l - n1.toNat, ⟨0, rfl, by omega, by simp, rfl⟩, ?_⟩
    rintro _ n1 w1 ⟨j, rfl, hj, hpre, hw⟩
    refine br_intro (fun h1 => ?_) fun h1 => ?_
    · have h1 : j < l := by have := of_decide_eq_true h1; omega
      intro w2 hd
      have hw2 : hp w2 = hp w := (hp_drawn hd).trans hw
      obtain ⟨x, ad, hx1, rfl, hx2⟩ := hx.get1 h1
      obtain ⟨y, ad2, hy1, rfl, hy2⟩ := hy.get1 h1
      refine ⟨fun w3 => hp w3 = hp w, hw2, idx_i rfl h1 ⟨x, fun w3 h3 => hx2 _ (hp_sub h3), idx_i rfl h1 ⟨y, fun w3 h3 => hy2 _ (hp_sub h3), ?_⟩⟩⟩
      refine br_intro (fun h2 => ?_) fun h2 => ?_
      · have h2 : x ≠ y := by simpa using h2
        refine ⟨?_, hw2⟩
        rw [decide_eq_false fun e => ?_]
        subst e
        rw [hx1] at hy1; cases hy1; exact h2 rfl
      · have h2 : x = y := by simpa using h2
        subst h2
        refine ⟨⟨by omega, by omega⟩, ⟨j + 1, by simp, by omega, ?_, hw2⟩, msr h1⟩
        rw [take_succ_get hx1, take_succ_get hy1, hpre]
    · have h1 : j = l := by have := of_decide_eq_false h1; omega
      subst h1
      have e1 : xs.take j = xs := List.take_of_length_le (by omega)
      have e2 : ys.take j = ys := List.take_of_length_le (by omega)
      rw [e1, e2] at hpre
      exact ⟨by simp [hpre], hw⟩
theorem own_rdI (h : St w (own 1 a l c (iv xs) :: L)) : rdS (hp w) xs a l := by
  have hl := own_len h
  obtain ⟨h1, s, ha⟩ := h.first
  exact (rdI_of (by simpa [iv] using hl) (own_rdVh ha)).mono s
theorem s_Copy (h : setR (hp w) p bs) (ht : tabA (hp w)) : Run Tryd.prog n_bits_Set_Copy [.pointer p] w fun v w' => ∃ b, v = .pointer (some ⟨b, 0, none⟩) ∧ St w' (setO (some ⟨b, 0, none⟩) bs :: all w) := by
  refine run_bits_Set_Copy _ w _ ?_
  have hn := h.le
  have hcn := cntB_le bs
  refine (s_Size h).mono ?_
  rintro _ _ ⟨rfl, rfl⟩
  refine ⟨_, rfl, (s_Members h ht).mono ?_⟩
  rintro _ w2 ⟨a', c', rfl, h2⟩
  refine ⟨_, _, _, rfl, ?_⟩
  refine (s_Of (bs.length : Int) (own_rdI h2) (by omega)).mono ?_
  rintro _ w3 ⟨b, rfl, h3⟩
  rw [ofB_mb bs hn] at h3
  exact ⟨_, rfl, b, rfl, (h3.on1 h2).pick 3 [0, 2]⟩
theorem s_Equal (h : setR (hp w) p bs) (h2 : setR (hp w) q cs) (ht : tabA (hp w)) : Run Tryd.prog n_bits_Set_Equal [.pointer p, .pointer q] w fun v w' => v = .bool (decide (bs = cs)) ∧ Gr w w' := by
  refine run_bits_Set_Equal _ _ w _ ?_
  have hn := h.le
  have hcn := cntB_le bs
  refine (s_Size h).mono ?_
  rintro _ _ ⟨rfl, rfl⟩
  refine ⟨_, rfl, (s_Size h2).mono ?_⟩
  rintro _ _ ⟨rfl, rfl⟩
  refine ⟨_, rfl, br_intro (fun h0 => ?_) fun h0 => ?_⟩
  · have h0 : bs.length = cs.length := natEq h0
    refine (s_Members h ht).mono ?_
    rintro _ w1 ⟨a1, c1, rfl, h3⟩
    refine ⟨_, _, _, rfl, ?_⟩
    have g1 := h3.gone1
    refine (s_Members (h2.mono g1) (rdV.mono g1 ht)).mono ?_
    rintro _ w2 ⟨a2, c2, rfl, h4⟩
    refine ⟨_, _, _, rfl, ?_⟩
    have h5 := h4.on1 h3
    refine (s_EqualInts (own_rdI h5.tail) (own_rdI h5) (by omega)).mono ?_
    rintro _ w3 ⟨rfl, hw3⟩
    refine ⟨_, rfl, ?_, (h5.gone2).trans (hp_sub hw3)⟩
    have : (mbI bs = mbI cs) ↔ bs = cs := ⟨mb_inj h0, fun e => by rw [e]⟩
    rw [decide_eq_decide.2 this]
  · have h0 : bs.length ≠ cs.length := natNe' h0
    exact ⟨by rw [decide_eq_false fun e => h0 (by rw [e])], Gr.refl _⟩
end
end Go.Proofs.YtcipljcagejjaaaDoor
