/- Laws of sets (2): unions in any order; what is in common is what dropping takes. -/
import Derived.Test.YtcipljcagejjaaaDoorVLaw1
set_option linter.unusedVariables false
namespace Go.V
theorem starL_nth {L : List Asn} : ∀ {h : Hp} (i : Nat), i < L.length → starL L h → ∃ h1, sub h1 h ∧ nthA L i h1 := by
  induction L with
  | nil => intro h i hi; simp at hi
  | cons A L ih =>
    rintro h i hi ⟨h1, h2, d, s1, s2, ha, hl⟩
    cases i with
    | zero => exact ⟨h1, s1, ha⟩
    | succ i =>
      obtain ⟨h3, s3, h4⟩ := ih i (by simpa using hi) hl
      exact ⟨h3, s3.trans s2, h4⟩
def lenA : List Asn → Nat
  | [] => 0
  | _ :: L => lenA L + 1
theorem lenA_eq : ∀ L, lenA L = L.length
  | [] => rfl
  | _ :: L => by simp [lenA, lenA_eq L]
theorem rdO {L : List Asn} {h : Hp} {q : Option Addr} {v : List Bool} (i : Nat) (hl : starL L h) (e : nthA L i = setO q v := by rfl) (hi : Nat.blt i (lenA L) = true := by rfl) : setR h q v := by
  obtain ⟨h1, s, ha⟩ := starL_nth i (by simpa [lenA_eq] using hi) hl
  rw [e] at ha
  exact (setO_R ha).mono s
theorem rdH {L : List Asn} {h h0 : Hp} (i : Nat) (hl : starL L h) (e : nthA L i = has h0 := by rfl) (hi : Nat.blt i (lenA L) = true := by rfl) : sub h0 h := by
  obtain ⟨h1, s, ha⟩ := starL_nth i (by simpa [lenA_eq] using hi) hl
  rw [e] at ha
  exact sub.trans ha s
theorem rdC {α : Type} [Rep1 α] {L : List Asn} {h : Hp} {b : Nat} (xs : List α) (i : Nat) (hl : starL L h) (e : nthA L i = cel b (xs.map Rep1.val) := by rfl) (hi : Nat.blt i (lenA L) = true := by rfl) : rdS h xs (some ⟨b, 0, none⟩) xs.length := by
  obtain ⟨h1, s, ha⟩ := starL_nth i (by simpa [lenA_eq] using hi) hl
  rw [e] at ha
  exact (cel_rd1 xs ha).mono s
theorem St.l {w : World} {L : List Asn} (h : St w L) : starL L (hp w) := h
inductive All2 {α β : Type} (P : α → β → Prop) : List α → List β → Prop where
  | nil : All2 P [] []
  | cons {x : α} {y : β} {l : List α} {m : List β} : P x y → All2 P l m → All2 P (x :: l) (y :: m)
theorem all2 {os : List (Option Addr)} {vss : List (List Bool)} {P : Option Addr → List Bool → Prop} (h : All2 P os vss) : ∀ (i : Nat) q v, os[i]? = some q → vss[i]? = some v → P q v := by
  induction h with
  | nil => intro i q v hq; simp at hq
  | cons hp _ ih =>
    intro i q v hq hv
    cases i with
    | zero => cases hq; cases hv; exact hp
    | succ i => exact ih i q v (by simpa using hq) (by simpa using hv)
theorem fnB_lt {bs : List Bool} {k : Nat} (h : fnB bs k = true) : k < bs.length := Nat.lt_of_not_le fun hl => by rw [fnB_out hl] at h; cases h
theorem meetsB_iff {bs : List Bool} {vss : List (List Bool)} : meetsB bs vss = true ↔ ∃ k, fnB bs k = true ∧ ∀ v ∈ vss, fnB v k = true := by
  unfold meetsB
  simp only [List.any_eq_true, mem_mb, List.all_eq_true]
theorem cntB_pos {bs : List Bool} : 0 < cntB bs ↔ ∃ k, fnB bs k = true := by
  rw [← mb_len]
  constructor
  · intro h
    obtain ⟨k, hk⟩ := List.exists_mem_of_length_pos h
    exact ⟨k, mem_mb.1 hk⟩
  · rintro ⟨k, hk⟩
    exact List.length_pos_of_mem (mem_mb.2 hk)
theorem fnB_drop_mb (bs vs : List Bool) (k : Nat) : fnB (dropB bs (mbI vs)) k = (fnB bs k && !fnB vs k) := by
  rw [fnB_drop, dropS, mbI_contains]
theorem cntB_drop_lt {A B : List Bool} : cntB (dropB A (mbI B)) < cntB A ↔ meetsB A [B] = true := by
  rw [meetsB_iff]
  constructor
  · intro h
    apply Classical.byContradiction
    intro hn
    have : dropB A (mbI B) = A := fnB_inj (dropB_len _ _) fun k => by
      rw [fnB_drop_mb]
      cases hA : fnB A k
      · rfl
      · cases hB : fnB B k
        · rfl
        · exact absurd ⟨k, hA, by simpa using hB⟩ hn
    rw [this] at h; omega
  · rintro ⟨k, hA, hB⟩
    have hB : fnB B k = true := by simpa using hB
    have h1 := cnt_drop (fnB_lt hA) hA
    have h2 : cntB (dropB A (mbI B)) ≤ cnt A.length (fun j => fnB A j && !(j == k)) := by
      unfold cntB
      rw [dropB_len]
      refine cnt_mono fun j hj => ?_
      rw [fnB_drop_mb] at hj
      simp only [Bool.and_eq_true, Bool.not_eq_true'] at hj ⊢
      refine ⟨hj.1, ?_⟩
      simp only [beq_eq_false_iff_ne]
      intro e; subst e; rw [hB] at hj; cases hj.2
    have h3 : cntB A = cnt A.length (fnB A) := rfl
    omega
section
variable {A B C : List Bool} {N : Nat} (hA : A.length = N) (hB : B.length = N) (hC : C.length = N)
include hA hB hC
theorem un_1 : unionB A [B, C] = unionB (unionB C [B]) [A, A, []] := by
  refine fnB_inj (by simp [unionB_len, hA, hC]) fun k => ?_
  simp only [fnB_union, unionB_len, List.any_cons, List.any_nil, hA, hC]
  by_cases hk : k < N
  · simp only [hk, decide_true, Bool.true_and]; cases fnB A k <;> cases fnB B k <;> cases fnB C k <;> rfl
  · simp [hk, fnB_out (bs := A) (k := k) (by omega), fnB_out (bs := C) (k := k) (by omega)]
theorem un_2 : unionB (unionB A [B, C]) [B, unionB A [B, C], C, A] = unionB A [B, C] := by
  refine fnB_inj (by simp [unionB_len]) fun k => ?_
  simp only [fnB_union, unionB_len, List.any_cons, List.any_nil, hA]
  by_cases hk : k < N
  · simp only [hk, decide_true, Bool.true_and]; cases fnB A k <;> cases fnB B k <;> cases fnB C k <;> rfl
  · simp [hk, fnB_out (bs := A) (k := k) (by omega)]
omit hC in
theorem un_3 : unionB (dropB A (mbI B)) [B] = unionB A [B] := by
  refine fnB_inj (by simp [unionB_len, dropB_len]) fun k => ?_
  simp only [fnB_union, dropB_len, fnB_drop_mb, List.any_cons, List.any_nil, hA]
  by_cases hk : k < N
  · simp only [hk, decide_true, Bool.true_and]; cases fnB A k <;> cases fnB B k <;> rfl
  · simp [hk, fnB_out (bs := B) (k := k) (by omega)]
end
theorem un_4 (A : List Bool) : meetsB A [] = decide (0 < (cntB A : Int)) := by
  rw [Bool.eq_iff_iff, meetsB_iff, decide_eq_true_eq]
  have := @cntB_pos A
  constructor
  · rintro ⟨k, h, _⟩
    have := this.2 ⟨k, h⟩; omega
  · intro h
    obtain ⟨k, hk⟩ := this.1 (by omega)
    exact ⟨k, hk, by simp⟩
theorem un_5 (A : List Bool) (vss : List (List Bool)) : meetsB A [A, unionB A vss] = meetsB A [] := by
  rw [Bool.eq_iff_iff, meetsB_iff, meetsB_iff]
  constructor
  · rintro ⟨k, h, _⟩; exact ⟨k, h, by simp⟩
  · rintro ⟨k, h, _⟩
    refine ⟨k, h, fun v hv => ?_⟩
    simp only [List.mem_cons, List.not_mem_nil, or_false] at hv
    rcases hv with rfl | rfl
    · exact h
    · exact fnB_union_sub _ _ _ h
theorem un_6 (A B : List Bool) : meetsB A [B] = meetsB B [A] := by
  rw [Bool.eq_iff_iff, meetsB_iff, meetsB_iff]
  constructor
  · rintro ⟨k, h, h2⟩; exact ⟨k, by simpa using h2, by simpa using h⟩
  · rintro ⟨k, h, h2⟩; exact ⟨k, by simpa using h2, by simpa using h⟩
theorem un_7 (A B : List Bool) : meetsB (dropB A (mbI B)) [B] = false := by
  rw [Bool.eq_false_iff]
  intro h
  obtain ⟨k, h1, h2⟩ := meetsB_iff.1 h
  rw [fnB_drop_mb] at h1
  have h2 : fnB B k = true := by simpa using h2
  rw [h2] at h1; simp at h1
end Go.V
namespace Go.Proofs.YtcipljcagejjaaaDoor
open Go.V
section
variable {w : World} {L : List Asn} {a a2 a3 : Option Addr} {l c l2 c2 l3 c3 : Nat} {p q : Option Addr} {bs cs : List Bool} {xs ys zs : List Int} {os : List (Option Addr)} {vss : List (List Bool)}
set_option maxHeartbeats 1000000 in
theorem l_BitsUnions (size : Int) (hx : rdS (hp w) xs a l) (hy : rdS (hp w) ys a2 l2) (hz : rdS (hp w) zs a3 l3) (ht : tabA (hp w)) (hb : l ≤ 4611686018427387904) (hb2 : l2 ≤ 4611686018427387904) (hb3 : l3 ≤ 4611686018427387904) :
    Run Tryd.prog n_presagelaw01_BitsUnions [.int .i64 size, .slice a l c, .slice a2 l2 c2, .slice a3 l3 c3] w fun v w' => v = .bool true ∧ Gr w w' := by
  refine run_presagelaw01_BitsUnions _ _ _ _ _ _ _ _ _ _ w _ ?_
  have hfin : ∀ w', sub (hp w) (hp w') → Gr w w' := fun w' h => h
  refine l_awake.mono ?_
  rintro _ w1 ⟨rfl, hg⟩
  have hs := (St.all w).gr hg
  unfold V.all at hs
  generalize hp w = h0 at *
  refine ⟨_, rfl, br_f rfl ((s_Of size (hx.mono (rdH 0 hs)) hb).mono ?_)⟩
  rintro _ w2 ⟨bx, rfl, h1⟩
  have h1 := h1.on1 hs
  refine ⟨_, rfl, (s_Of size (hy.mono (rdH 1 h1)) hb2).mono ?_⟩
  rintro _ w3 ⟨bY, rfl, h2⟩
  have h2 := h2.on1 h1
  refine ⟨_, rfl, (s_Of size (hz.mono (rdH 2 h2)) hb3).mono ?_⟩
  rintro _ w4 ⟨bz, rfl, h3⟩
  have h3 := h3.on1 h2
  clear h1 h2 hs
  have lA := ofB_len size xs
  have lB := ofB_len size ys
  have lC := ofB_len size zs
  generalize ofB size xs = A at *
  generalize ofB size ys = B at *
  generalize ofB size zs = C at *
  have lN := ofN_le size
  generalize ofN size = N at *
  have cA := cntB_le A
  have tb : ∀ {w : World}, sub h0 (hp w) → tabA (hp w) := fun s => rdV.mono s ht
  refine ⟨_, rfl, fun b w => b = false ∧ St w [setO (some ⟨bz, 0, none⟩) C, setO (some ⟨bY, 0, none⟩) B, setO (some ⟨bx, 0, none⟩) A, has h0], br_f rfl (br_f rfl ⟨rfl, h3⟩), ?_⟩
  clear h3
  rintro _ _ w5 ⟨rfl, h⟩
  refine br_f rfl ((s_Copy (rdO 2 h) (tb (rdH 3 h))).mono ?_)
  rintro _ w6 ⟨b1, rfl, h1⟩
  have h := h1.on1 h
  refine ⟨_, rfl, (s_Copy (rdO 1 h.l) (tb (rdH 4 h))).mono ?_⟩
  rintro _ w7 ⟨b2, rfl, h1⟩
  have h := h1.on1 h
  clear h1
  refine ⟨_, rfl, fun b w => b = false ∧ St w [setO (some ⟨b2, 0, none⟩) C, setO (some ⟨b1, 0, none⟩) A, setO (some ⟨bz, 0, none⟩) C, setO (some ⟨bY, 0, none⟩) B, setO (some ⟨bx, 0, none⟩) A, has h0], br_f rfl ⟨rfl, h⟩, ?_⟩
  clear h
  rintro _ _ w8 ⟨rfl, h⟩
  refine br_f rfl (newC_i h fun k1 w9 h => ?_)
  refine (s_Union (os := [some ⟨bY, 0, none⟩, some ⟨bz, 0, none⟩]) (vss := [B, C]) (l := 2) (h.pick 7 [2, 0, 1, 3, 4, 5, 6]) (fun h hh => rdC (α := Option Addr) [_, _] 0 hh) rfl (fun h hh => all2 (.cons (.inl (rdO 3 hh)) (.cons (.inl (rdO 2 hh)) .nil))) (fun h hh => rdV.mono (rdH 5 hh) ht) (by omega)).mono ?_
  rintro _ w10 ⟨rfl, h1⟩
  have h := h1.pick 7 [0, 2, 3, 4, 5, 6]
  clear h1
  refine ⟨_, rfl, newC_i h fun k2 w11 h => ?_⟩
  refine (s_Union (os := [some ⟨bY, 0, none⟩]) (vss := [B]) (l := 1) (h.pick 7 [2, 0, 1, 3, 4, 5, 6]) (fun h hh => rdC (α := Option Addr) [_] 0 hh) rfl (fun h hh => all2 (.cons (.inl (rdO 3 hh)) .nil)) (fun h hh => rdV.mono (rdH 5 hh) ht) (by omega)).mono ?_
  rintro _ w12 ⟨rfl, h1⟩
  have h := h1.pick 7 [0, 2, 3, 4, 5, 6]
  clear h1
  refine ⟨_, rfl, newC_i h fun k3 w13 h => ?_⟩
  refine (s_Union (os := [some ⟨bx, 0, none⟩, some ⟨bx, 0, none⟩, none]) (vss := [A, A, []]) (l := 3) (h.pick 7 [1, 0, 2, 3, 4, 5, 6]) (fun h hh => rdC (α := Option Addr) [_, _, _] 0 hh) rfl (fun h hh => all2 (.cons (.inl (rdO 4 hh)) (.cons (.inl (rdO 4 hh)) (.cons (.inl (setR_nil _)) .nil)))) (fun h hh => rdV.mono (rdH 5 hh) ht) (by omega)).mono ?_
  rintro _ w14 ⟨rfl, h1⟩
  have h := h1.pick 7 [0, 2, 3, 4, 5, 6]
  clear h1
  rw [← un_1 lA lB lC] at h
  have u2 := un_2 lA lB lC
  have hAU : ∀ k, fnB A k = true → fnB (unionB A [B, C]) k = true := fun k hk => fnB_union_sub _ _ _ hk
  have u5 := un_5 A [B, C]
  have cAU := cntB_union [B, C] A
  have cU := cntB_le (unionB A [B, C])
  rw [unionB_len] at cU
  generalize unionB A [B, C] = U at *
  have h : St w14 [setO (some ⟨b2, 0, none⟩) U, setO (some ⟨b1, 0, none⟩) U, setO (some ⟨bz, 0, none⟩) C, setO (some ⟨bY, 0, none⟩) B, setO (some ⟨bx, 0, none⟩) A, has h0] := h
  refine ⟨_, rfl, fun b w => b = false ∧ St w [setO (some ⟨b2, 0, none⟩) U, setO (some ⟨b1, 0, none⟩) U, setO (some ⟨bz, 0, none⟩) C, setO (some ⟨bY, 0, none⟩) B, setO (some ⟨bx, 0, none⟩) A, has h0], ?_, ?_⟩
  · refine (s_Equal (rdO 1 h.l) (rdO 0 h.l) (tb (rdH 5 h))).mono ?_
    rintro _ w15 ⟨rfl, hg⟩
    have h := h.gr hg
    refine ⟨_, rfl, br_f (by simp) ((s_Equal (rdO 0 h.l) (rdO 1 h.l) (tb (rdH 5 h))).mono ?_)⟩
    rintro _ w16 ⟨rfl, hg⟩
    have h := h.gr hg
    refine ⟨_, rfl, br_f (by simp) (newC_i h fun k4 w17 h => ?_)⟩
    refine (s_Union (os := [some ⟨bY, 0, none⟩, some ⟨b1, 0, none⟩, some ⟨bz, 0, none⟩, some ⟨bx, 0, none⟩]) (vss := [B, U, C, A]) (l := 4) (h.pick 7 [2, 0, 1, 3, 4, 5, 6]) (fun h hh => rdC (α := Option Addr) [_, _, _, _] 0 hh) rfl (fun h hh => all2 (.cons (.inl (rdO 3 hh)) (.cons (.inr ⟨rfl, rfl⟩) (.cons (.inl (rdO 2 hh)) (.cons (.inl (rdO 4 hh)) .nil))))) (fun h hh => rdV.mono (rdH 5 hh) ht) (by omega)).mono ?_
    rintro _ w18 ⟨rfl, h1⟩
    rw [u2] at h1 ⊢
    have h := h1.pick 7 [2, 0, 3, 4, 5, 6]
    refine ⟨_, rfl, br_f (by simp) ((s_Count (rdO 1 h.l)).mono ?_)⟩
    rintro _ _ ⟨rfl, rfl⟩
    refine ⟨_, rfl, (s_Count (rdO 4 h.l)).mono ?_⟩
    rintro _ _ ⟨rfl, rfl⟩
    refine ⟨_, rfl, ⟨by omega, by omega⟩, ?_, h⟩
    simp
    omega
  clear h
  rintro _ _ w21 ⟨rfl, h⟩
  refine br_f rfl ((s_Members (rdO 4 h.l) (tb (rdH 5 h))).mono ?_)
  rintro _ w22 ⟨am, cm, rfl, h1⟩
  have h := h1.on1 h
  clear h1
  refine ⟨_, _, _, rfl, fun n w => ∃ j : Nat, n = j ∧ j ≤ cntB A ∧ St w [own 1 am (cntB A) cm (iv (mbI A)), setO (some ⟨b2, 0, none⟩) U, setO (some ⟨b1, 0, none⟩) U, setO (some ⟨bz, 0, none⟩) C, setO (some ⟨bY, 0, none⟩) B, setO (some ⟨bx, 0, none⟩) A, has h0], fun n _ => cntB A - n.toNat, ⟨0, rfl, by omega, h⟩, ?_⟩
  clear h
  rintro _ n7 w23 ⟨j, rfl, hj, h⟩
  refine br_intro (fun hlt => ?_) fun hlt => ?_
  · have hlt : j < cntB A := by have := of_decide_eq_true hlt; omega
    obtain ⟨x, ad, hx1, rfl, hx2⟩ := (own_rdI h).get1 hlt
    have hxA : hasB A x = true := mem_mbI.1 (List.mem_of_getElem? hx1)
    have hxU : hasB U x = true := by
      simp only [hasB, Bool.and_eq_true] at hxA ⊢
      exact ⟨hxA.1, hAU _ hxA.2⟩
    refine idx_i rfl hlt ⟨x, hx2 _ (sub.refl _), (s_Has (rdO 2 h.l) x).mono ?_⟩
    rintro _ _ ⟨rfl, rfl⟩
    refine ⟨_, rfl, br_f (by rw [hxU]; rfl) ((s_Has (rdO 5 h.l) x).mono ?_)⟩
    rintro _ _ ⟨rfl, rfl⟩
    exact ⟨_, rfl, br_f (by rw [hxA]; rfl) ⟨⟨by omega, by omega⟩, ⟨j + 1, by simp, by omega, h⟩, msr hlt⟩⟩
  have h := h.tail
  refine (s_Copy (rdO 4 h.l) (tb (rdH 5 h))).mono ?_
  rintro _ w26 ⟨b3, rfl, h1⟩
  have h := h1.on1 h
  refine ⟨_, rfl, br_f rfl ((s_Members (rdO 4 h.l) (tb (rdH 6 h))).mono ?_)⟩
  rintro _ w27 ⟨am2, cm2, rfl, h1⟩
  have h := h1.on1 h
  have cB := cntB_le B
  refine ⟨_, _, _, rfl, (s_Drop (xs := mbI B) (h.pick 8 [1, 0, 2, 3, 4, 5, 6, 7]) (fun h hh => ?_) (by omega)).mono ?_⟩
  · obtain ⟨h1, _, _, s1, _, ha, _⟩ := hh
    exact (rdI_of (mbI_len B) (own_rdVh ha)).mono s1
  rintro _ w28 ⟨rfl, h1⟩
  have h := h1.pick 8 [0, 2, 3, 4, 5, 6, 7]
  clear h1
  have u3 := un_3 lA lB
  have u6 := un_6 A B
  have u7 := un_7 A B
  have dl := @cntB_drop_lt A B
  have lD := dropB_len A (mbI B)
  have cD := cntB_drop A (mbI B)
  generalize dropB A (mbI B) = D at *
  have h : St w28 [setO (some ⟨b3, 0, none⟩) D, setO (some ⟨b2, 0, none⟩) U, setO (some ⟨b1, 0, none⟩) U, setO (some ⟨bz, 0, none⟩) C, setO (some ⟨bY, 0, none⟩) B, setO (some ⟨bx, 0, none⟩) A, has h0] := h
  have hm : decide (0 < (cntB A : Int) - (cntB D : Int)) = meetsB A [B] := by
    rw [Bool.eq_iff_iff, decide_eq_true_eq, ← dl]; omega
  refine ⟨_, rfl, fun b w => b = false ∧ St w [setO (some ⟨b3, 0, none⟩) D, setO (some ⟨b2, 0, none⟩) U, setO (some ⟨b1, 0, none⟩) U, setO (some ⟨bz, 0, none⟩) C, setO (some ⟨bY, 0, none⟩) B, setO (some ⟨bx, 0, none⟩) A, has h0], ?_, ?_⟩
  · refine newC_i h fun k9 w29 h => ?_
    refine (s_Meets (os := [some ⟨bY, 0, none⟩]) (vss := [B]) (l := 1) (rdO 6 h.l) (rdC (α := Option Addr) [_] 0 h.l) rfl (all2 (.cons (rdO 5 h.l) .nil)) (tb (rdH 7 h)) (by omega)).mono ?_
    rintro _ w30 ⟨rfl, hg⟩
    have h := (h.gr hg).tail
    refine ⟨_, rfl, br_f (by rw [hm]; simp) (newC_i h fun k10 w31 h => ?_)⟩
    refine (s_Meets (os := [some ⟨bx, 0, none⟩]) (vss := [A]) (l := 1) (rdO 5 h.l) (rdC (α := Option Addr) [_] 0 h.l) rfl (all2 (.cons (rdO 6 h.l) .nil)) (tb (rdH 7 h)) (by omega)).mono ?_
    rintro _ w32 ⟨rfl, hg⟩
    have h := (h.gr hg).tail
    refine ⟨_, rfl, newC_i h fun k11 w33 h => ?_⟩
    refine (s_Meets (os := [some ⟨bY, 0, none⟩]) (vss := [B]) (l := 1) (rdO 6 h.l) (rdC (α := Option Addr) [_] 0 h.l) rfl (all2 (.cons (rdO 5 h.l) .nil)) (tb (rdH 7 h)) (by omega)).mono ?_
    rintro _ w34 ⟨rfl, hg⟩
    have h := (h.gr hg).tail
    refine ⟨_, rfl, br_f (by rw [u6]; simp) (newC_i h fun k12 w35 h => ?_)⟩
    refine (s_Meets (os := [some ⟨bY, 0, none⟩]) (vss := [B]) (l := 1) (rdO 1 h.l) (rdC (α := Option Addr) [_] 0 h.l) rfl (all2 (.cons (rdO 5 h.l) .nil)) (tb (rdH 7 h)) (by omega)).mono ?_
    rintro _ w36 ⟨rfl, hg⟩
    have h := (h.gr hg).tail
    refine ⟨_, rfl, br_f u7 ((s_Count (rdO 0 h.l)).mono ?_)⟩
    rintro _ _ ⟨rfl, rfl⟩
    refine ⟨_, rfl, ⟨by omega, by omega⟩, (s_Count (rdO 5 h.l)).mono ?_⟩
    rintro _ _ ⟨rfl, rfl⟩
    refine ⟨_, rfl, ?_, h⟩
    simp
    omega
  clear h
  rintro _ _ w39 ⟨rfl, h⟩
  refine br_f rfl (newC_i h fun k13 w40 h => ?_)
  refine (s_Union (os := [some ⟨bY, 0, none⟩]) (vss := [B]) (l := 1) (h.pick 8 [1, 0, 2, 3, 4, 5, 6, 7]) (fun h hh => rdC (α := Option Addr) [_] 0 hh) rfl (fun h hh => all2 (.cons (.inl (rdO 4 hh)) .nil)) (fun h hh => rdV.mono (rdH 6 hh) ht) (by omega)).mono ?_
  rintro _ w41 ⟨rfl, h1⟩
  rw [u3] at h1
  have h := h1.pick 8 [0, 2, 3, 4, 5, 6, 7]
  refine ⟨_, rfl, (s_Copy (rdO 5 h.l) (tb (rdH 6 h))).mono ?_⟩
  rintro _ w42 ⟨b4, rfl, h1⟩
  have h := h1.on1 h
  refine ⟨_, rfl, br_f rfl (newC_i h fun k14 w43 h => ?_)⟩
  refine (s_Union (os := [some ⟨bY, 0, none⟩]) (vss := [B]) (l := 1) (h.pick 9 [1, 0, 2, 3, 4, 5, 6, 7, 8]) (fun h hh => rdC (α := Option Addr) [_] 0 hh) rfl (fun h hh => all2 (.cons (.inl (rdO 5 hh)) .nil)) (fun h hh => rdV.mono (rdH 7 hh) ht) (by omega)).mono ?_
  rintro _ w44 ⟨rfl, h1⟩
  have h := h1.pick 9 [0, 2, 3, 4, 5, 6, 7, 8]
  refine ⟨_, rfl, (s_Equal (rdO 1 h.l) (rdO 0 h.l) (tb (rdH 7 h))).mono ?_⟩
  rintro _ w45 ⟨rfl, hg⟩
  have h := h.gr hg
  refine ⟨_, rfl, br_t (by simp) ((s_Meets (vss := []) (os := []) (rdO 6 h.l) rdS.nil rfl (all2 .nil) (tb (rdH 7 h)) (by omega)).mono ?_)⟩
  rintro _ w46 ⟨rfl, hg⟩
  have h := h.gr hg
  refine ⟨_, rfl, (s_Count (rdO 6 h.l)).mono ?_⟩
  rintro _ _ ⟨rfl, rfl⟩
  refine ⟨_, rfl, br_t (by rw [un_4]; simp) (newC_i h fun k15 w48 h => ?_)⟩
  refine (s_Meets (os := [some ⟨bx, 0, none⟩, some ⟨b1, 0, none⟩]) (vss := [A, U]) (l := 2) (rdO 7 h.l) (rdC (α := Option Addr) [_, _] 0 h.l) rfl (all2 (.cons (rdO 7 h.l) (.cons (rdO 4 h.l) .nil))) (tb (rdH 8 h)) (by omega)).mono ?_
  rintro _ w49 ⟨rfl, hg⟩
  have h := (h.gr hg).tail
  refine ⟨_, rfl, (s_Meets (vss := []) (os := []) (rdO 6 h.l) rdS.nil rfl (all2 .nil) (tb (rdH 7 h)) (by omega)).mono ?_⟩
  rintro _ w50 ⟨rfl, hg⟩
  have h := h.gr hg
  refine ⟨_, rfl, ?_, hfin _ (rdH 7 h)⟩
  rw [u5]; simp
end
end Go.Proofs.YtcipljcagejjaaaDoor
