/- Texts of this claim, one behind the other. -/
import Derived.Test.YtcapljamcepmkaaDoorG1
import Derived.Laws.IdiomCopy
import Derived.MapKept
import Derived.Laws.RangeAny
import Derived.Laws.Strings
import Derived.Lib.OthersKept
import Derived.Laws.StructEq
import Derived.Shelf.SlSortCmp.NoneTotal
import Derived.Shelf.Sort.Plain
import Derived.LaidEql
set_option linter.unusedVariables false
namespace Go.V
theorem cnt_split (a b : Nat) (m : Nat → Bool) : cnt (a + b) m = cnt a m + cnt b (fun k => m (a + k)) := by
  unfold cnt
  rw [List.range_add, List.filter_append, List.length_append, List.filter_map, List.length_map]
  rfl
theorem cnt_zero {a : Nat} {m : Nat → Bool} (h : ∀ k, k < a → m k = false) : cnt a m = 0 := by
  unfold cnt
  rw [List.filter_eq_nil_iff.2 fun k hk => by simp [h k (by simpa using hk)]]; rfl
theorem cnt_all {n : Nat} {ws : List Nat} {m : Nat → Bool} (hi : Inv n ws m) : cnt (64 * ws.length) m = cnt n m := by
  have h : 64 * ws.length = n + (64 * ws.length - n) := by rw [hi.len]; omega
  rw [h, cnt_split, cnt_zero (a := 64 * ws.length - n) fun k _ => hi.out _ (by omega)]; omega
def ofN (s : Int) : Nat := (if 1024 < if s < 0 then 0 else s then 1024 else if s < 0 then 0 else s).toNat
theorem ofN_eq (s : Int) : (if 1024 < if s < 0 then 0 else s then (1024 : Int) else if s < 0 then 0 else s) = (ofN s : Int) := by
  unfold ofN
  split <;> split <;> omega
theorem ofN_le (s : Int) : ofN s ≤ 1024 := by
  unfold ofN; split
  · decide
  · split <;> omega
theorem ofN_nat {n : Nat} (h : n ≤ 1024) : ofN (n : Int) = n := by
  unfold ofN
  rw [if_neg (by rw [if_neg (by omega)]; omega), if_neg (by omega)]; simp
theorem reps_one (v : Value) : ∀ n, reps n [v] = List.replicate n v
  | 0 => rfl
  | n + 1 => by simp [reps, reps_one v n, List.replicate_succ]
theorem cw_zero (n : Nat) : cw (List.replicate n 0) = List.replicate n (.int .u64 0) := by simp [cw]
theorem mem_zero (n k : Nat) : mem (List.replicate n 0) k = false := by
  unfold mem
  rw [List.getD_eq_getElem?_getD, List.getElem?_replicate]
  split <;> simp
theorem inv_zero {n : Nat} (h : n ≤ 1024) : Inv n (List.replicate ((n + 63) / 64) 0) (fun _ => false) :=
  ⟨by simp, h, fun x hx => by rw [List.mem_replicate] at hx; rw [hx.2]; decide, fun k => (mem_zero _ k).symm, fun _ _ => rfl⟩
end Go.V
namespace Go.Proofs.YtcapljamcepmkaaDoor
open Go.V
section
variable {w : World} {L : List Asn} {a : Option Addr} {l c : Nat} {p : Option Addr} {n : Nat} {m : Nat → Bool} {xs : List Int}
theorem c_Of (size : Int) {D : Asn} (hD : ∀ h, D h → rdV a (iv xs) h) (h : St w (D :: L)) (hl : xs.length = l) (hb : l ≤ 4611686018427387904) :
    Run Tryd.prog n_bits_Of [.int .i64 size, .slice a l c] w fun v w' => ∃ b, v = .pointer (some ⟨b, 0, none⟩) ∧ St w' (setM (some ⟨b, 0, none⟩) (ofN size) (addS (ofN size) (fun _ => false) xs) :: D :: L) := by
  refine run_bits_Of _ _ _ _ w _ ?_
  unfold vc_bits_Of
  rw [ofN_eq]
  have hle := ofN_le size
  generalize ofN size = N at *
  have e0 : ((N : Int) + 63) = ((N + 63 : Nat) : Int) := by omega
  rw [e0, tdiv64, Int.toNat_natCast]
  refine ⟨inI_nat (by omega), nz64, inI_nat (by omega), ⟨by omega, rfl, by omega⟩, ?_⟩
  rw [reps_one]
  refine newC_i h fun b1 w1 h1 => newC_i h1 fun b2 w2 h2 => ?_
  have h3 : St w2 (setM (some ⟨b2, 0, none⟩) N (fun _ => false) :: D :: L) := by
    refine setM_mk (a := some ⟨b1, 0, none⟩) (c := (N + 63) / 64) (inv_zero hle) ?_
    have hlen : (List.replicate ((N + 63) / 64) 0 : List Nat).length = (N + 63) / 64 := by simp
    rw [hlen]
    refine St.swap (own_some (cs := []) ?_ ?_ ?_ (Nat.le_refl _))
    · rw [List.append_nil, cw_zero]; exact h2.swap
    · simp [cw]
    · simp [cw]
  refine (c_Add hD h3 hl hb).mono ?_
  rintro _ w3 ⟨rfl, h4⟩
  exact ⟨_, rfl, b2, rfl, h4⟩
end
end Go.Proofs.YtcapljamcepmkaaDoor
set_option linter.unusedVariables false
namespace Go.V
def itD (b : Nat) (n : Nat) (m : Nat → Bool) : Asn := ex fun x : Option Addr × Nat × List Nat => sta [pu (Inv n x.2.2 m), cel b [.slice x.1 x.2.2.length x.2.1], own 1 x.1 x.2.2.length x.2.1 (cw x.2.2)]
theorem itD_open {w : World} {L : List Asn} {b n : Nat} {m : Nat → Bool} : St w (itD b n m :: L) ↔ ∃ a c ws, Inv n ws m ∧ St w (cel b [.slice a ws.length c] :: own 1 a ws.length c (cw ws) :: L) := by
  unfold itD
  rw [St.ex]
  constructor
  · rintro ⟨⟨a, c, ws⟩, h⟩
    have h := St.pu.1 (St.flat.1 h)
    exact ⟨a, c, ws, h.1, h.2⟩
  · rintro ⟨a, c, ws, hi, h⟩
    exact ⟨⟨a, c, ws⟩, St.flat.2 (St.pu.2 ⟨hi, h⟩)⟩
theorem cw_nil {ws : List Nat} (h : cw ws = []) : ws = [] := by simpa [cw] using h
end Go.V
namespace Go.Proofs.YtcapljamcepmkaaDoor
open Go.V
section
variable {w : World} {L : List Asn} {a : Option Addr} {l c : Nat} {p : Option Addr} {n : Nat} {m : Nat → Bool} {xs : List Int} {ws : List Nat}
theorem c_Clone {D : Asn} (hD : ∀ h, D h → rdV a (cw ws) h) (h : St w (D :: L)) (hb : ws.length ≤ 1024) (hn : a = none → ws = []) :
    Run Tryd.prog n_slices_Clone_bits_words_uint64_ [.slice a ws.length c] w fun v w' => ∃ a' c', v = .slice a' ws.length c' ∧ St w' (own 1 a' ws.length c' (cw ws) :: D :: L) := by
  refine run_slices_Clone_bits_words_uint64_ _ _ _ w _ ?_
  cases a with
  | none =>
    have h3 := hn rfl
    subst h3
    exact ⟨none, 0, rfl, own_nil 1 h⟩
  | some ad =>
    refine newC_i h fun b w1 h1 => ?_
    have h2 : St w1 (own 1 (some ⟨b, 0, none⟩) 0 0 [] :: D :: L) := own_some (cs := []) h1 rfl rfl (Nat.le_refl _)
    refine (app_own' tyOk (rfl : kdOfT Ty _ = .slice _) rfl rfl rfl h2 (n := ws.length) (news := cw ws) ?_ ?_ (by omega)).mono ?_
    · exact src_slice tyOk (rfl : kdOfT Ty _ = .slice _) (by simp [cw]) (.inr ⟨ad, rfl, fun j u hj => by
        obtain ⟨_, e, hc⟩ := rdV_get (h2.swap.head hD) hj
        cases e; exact hc⟩) (fun u hu => by
        simp only [cw, List.mem_map] at hu
        obtain ⟨_, _, rfl⟩ := hu; rfl)
    · show (0 + ws.length) * 8 ≤ _; omega
    · rintro _ w2 ⟨a', c', rfl, h3⟩
      rw [Nat.zero_add, List.nil_append] at h3
      exact ⟨_, _, _, rfl, a', c', by rw [Nat.zero_add], h3⟩
end
end Go.Proofs.YtcapljamcepmkaaDoor
set_option linter.unusedVariables false
namespace Go.V
def membs (n : Nat) (m : Nat → Bool) : List Nat := (List.range n).filter m
theorem membs_len (n : Nat) (m : Nat → Bool) : (membs n m).length = cnt n m := rfl
theorem membs_at {n k : Nat} {m : Nat → Bool} (hk : k < n) (hm : m k = true) : (membs n m)[cnt k m]? = some k := by
  have e : n = k + (n - k - 1 + 1) := by omega
  unfold membs
  rw [e, List.range_add, List.filter_append, List.getElem?_append_right (by simp [cnt])]
  have : cnt k m - (List.filter m (List.range k)).length = 0 := by simp [cnt]
  rw [this, List.range_succ_eq_map, List.map_cons, List.filter_cons]
  simp [hm]
theorem low_spec {x : Nat} (h0 : x ≠ 0) (hx : x < 2 ^ 64) : Lib.ctz 64 x < 64 ∧ x.testBit (Lib.ctz 64 x) = true ∧ (∀ k, k < Lib.ctz 64 x → x.testBit k = false) ∧ ∀ k, (x &&& (x - 1)).testBit k = (x.testBit k && !(k == Lib.ctz 64 x)) := by
  have e : Lib.ctz 64 x = Lib.ctzFrom 64 x := by unfold Lib.ctz; rw [if_neg h0]
  obtain ⟨q, hq, hc⟩ := Lib.ctzFrom_spec 64 x (by omega) hx
  rw [e]
  generalize Lib.ctzFrom 64 x = c at *
  have hp : 0 < 2 ^ c := Nat.two_pow_pos c
  have hx1 : x - 1 = 2 ^ c * (2 * q) + (2 ^ c - 1) := by
    rw [hq, Nat.mul_add, Nat.mul_one]; omega
  have t1 : ∀ k, x.testBit k = if k < c then false else (2 * q + 1).testBit (k - c) := fun k => by
    rw [hq]
    have := Nat.testBit_two_pow_mul_add (2 * q + 1) (b := 0) (i := c) hp k
    rw [Nat.add_zero] at this
    rw [this]; simp
  have t2 : ∀ k, (x - 1).testBit k = if k < c then true else (2 * q).testBit (k - c) := fun k => by
    rw [hx1, Nat.testBit_two_pow_mul_add _ (by omega)]
    split
    · rename_i h; rw [Nat.testBit_two_pow_sub_one]; simp [h]
    · rfl
  refine ⟨hc, ?_, fun k hk => ?_, fun k => ?_⟩
  · rw [t1, if_neg (by omega)]; simp
  · rw [t1, if_pos hk]
  · rw [Nat.testBit_and, t2, t1]
    by_cases hk : k < c
    · simp [hk]
    · rw [if_neg hk, if_neg hk]
      by_cases hkc : k = c
      · subst hkc; simp
      · have e3 : k - c = (k - c - 1) + 1 := by omega
        have : (k == c) = false := by simp [hkc]
        rw [this, e3, Nat.testBit_add_one, Nat.testBit_add_one]
        have e4 : (2 * q + 1) / 2 = q := by omega
        have e5 : 2 * q / 2 = q := by omega
        rw [e4, e5]; simp
def ivm (l : List Nat) : List (List Value) := l.map fun (k : Nat) => [Value.int .i64 (k : Int)]
theorem cnt_mono_none {a b : Nat} {m : Nat → Bool} (h : a ≤ b) (hf : ∀ k, a ≤ k → k < b → m k = false) : cnt b m = cnt a m := by
  have e : b = a + (b - a) := by omega
  rw [e, cnt_split, cnt_zero (a := b - a) fun k hk => hf _ (by omega) (by omega)]; omega
def tabV : List Value := Lib.deBruijn64tab.map fun (k : Nat) => Value.int .u8 (k : Int)
def tabA : Asn := rdV (some ⟨0, 0, none⟩) tabV
theorem st_of' {A : Asn} {w : World} (h : A (hp w)) : St w [A] := ⟨hp w, fun _ => none, fun _ => .inr rfl, sub.refl _, fun _ _ h => (nomatch h), h, trivial⟩
end Go.V
namespace Go.Proofs.YtcapljamcepmkaaDoor
open Go.V
section
variable {w : World} {L : List Asn} {b : Nat} {n : Nat} {m : Nat → Bool}
theorem c_All_itr : Itr Tryd.prog n_bits_Set_All_S1 [] [.pointer (some ⟨b, 0, none⟩)] (itD b n m) tabA (ivm (membs n m)) := by
  intro l E hE J Jx L w0 h0 hQ hy
  have h0' : ∃ a c ws, Inv n ws m ∧ St w0 (J 0 :: cel b [.slice a ws.length c] :: own 1 a ws.length c (cw ws) :: L) := by
    obtain ⟨a, c, ws, hi, h2⟩ := itD_open.1 h0.swap
    exact ⟨a, c, ws, hi, h2.rot3⟩
  obtain ⟨a, c, ws, hi, hs0⟩ := h0'
  have back : ∀ (A : Asn) w', St w' (A :: cel b [.slice a ws.length c] :: own 1 a ws.length c (cw ws) :: L) → St w' (A :: itD b n m :: L) := by
    intro A w' h
    exact (itD_open.2 ⟨a, c, ws, hi, h.perm ((List.Perm.swap _ _ _).trans (List.Perm.cons _ (List.Perm.swap _ _ _)))⟩).swap
  have tab2 : ∀ {A B C : Asn} {w'}, St w' (A :: B :: C :: L) → St w' [tabA] := fun {A B C w'} h => st_of' (hQ _ (starL_tail (starL_tail (starL_tail h))))
  refine run_bits_Set_All_S1_Y E l ⟨b, 0, none⟩ hE w0 _ ?_
  refine ⟨a, ws.length, c, by rw [hs0.swap.cell]; rfl, ?_⟩
  refine ⟨fun n1 w => ∃ j : Nat, n1 = j ∧ j ≤ ws.length ∧ St w (J (cnt (64 * j) m) :: cel b [.slice a ws.length c] :: own 1 a ws.length c (cw ws) :: L), fun n1 _ => ws.length - n1.toNat,
    ⟨0, rfl, by omega, by simpa [cnt] using hs0⟩, ?_⟩
  rintro _ n1 w1 ⟨j, rfl, hj, hs⟩
  have hlen := hi.len
  have hn := hi.le
  refine br_intro (fun h1 => ?_) fun h1 => ?_
  · have h1 : j < ws.length := by have := of_decide_eq_true h1; omega
    obtain ⟨ad, rfl⟩ := own_addr hs.rot3 (by simp [cw]; omega)
    have hg := own_get hs.rot3 rfl (cw_get h1)
    refine idx_i rfl h1 ⟨_, hg, ?_⟩
    have hw64 := getD_lt hi.lt j
    have hmem : ∀ k, k < 64 → m (64 * j + k) = (ws.getD j 0).testBit k := fun k hk => by
      rw [hi.mm]; unfold mem
      rw [show (64 * j + k) / 64 = j by omega, show (64 * j + k) % 64 = k by omega]
    generalize ws.getD j 0 = W at hg hw64 hmem ⊢
    refine ⟨fun n3 w => ∃ (r s : Nat), n3 = r ∧ r < 2 ^ 64 ∧ s ≤ 64 ∧ (∀ k, r.testBit k = (decide (s ≤ k) && W.testBit k)) ∧ St w (J (cnt (64 * j + s) m) :: cel b [.slice (some ad) ws.length c] :: own 1 (some ad) ws.length c (cw ws) :: L), fun n3 _ => n3.toNat,
      ⟨W, 0, rfl, hw64, by omega, by simp, by simpa using hs⟩, ?_⟩
    rintro _ n3 w2 ⟨r, s, rfl, hr, hs64, hbits, hs2⟩
    refine br_intro (fun h2 => ?_) fun h2 => ?_
    · have h2 : r ≠ 0 := by simpa using h2
      obtain ⟨k1, k2, k3, k4⟩ := low_spec h2 hr
      have hinj : inI (64 * (j : Int)) := ⟨by omega, by omega⟩
      refine ⟨hinj, ?_⟩
      refine ((c_TrailingZeros64 hr w2 (tab2 hs2)).toE hE).mono ?_
      rintro _ _ ⟨rfl, rfl⟩
      generalize Lib.ctz 64 r = k at k1 k2 k3 k4 ⊢
      refine ⟨_, rfl, ⟨by omega, by omega⟩, ?_⟩
      have hsk : s ≤ k ∧ W.testBit k = true := by
        rw [hbits] at k2; simpa using k2
      have hmk : m (64 * j + k) = true := by rw [hmem k k1]; exact hsk.2
      have hkn : 64 * j + k < n := Nat.lt_of_not_le fun hle => by rw [hi.out _ hle] at hmk; cases hmk
      have hpos : cnt (64 * j + k) m = cnt (64 * j + s) m := cnt_mono_none (by omega) fun q hq1 hq2 => by
        have h3 := k3 (q - 64 * j) (by omega)
        rw [hbits] at h3
        have : s ≤ q - 64 * j := by omega
        have h4 := hmem (q - 64 * j) (by omega)
        rw [show 64 * j + (q - 64 * j) = q by omega] at h4
        rw [h4]; simpa [this] using h3
      have hxs : (ivm (membs n m))[cnt (64 * j + s) m]? = some [.int .i64 ((64 * j + k : Nat) : Int)] := by
        unfold ivm
        rw [List.getElem?_map, ← hpos, membs_at hkn hmk]; rfl
      have e64 : (64 * (j : Int) + (k : Int)) = ((64 * j + k : Nat) : Int) := by omega
      rw [e64]
      obtain ⟨f', tmps, asg, body, y1, y2⟩ := hy _ _ hxs _ _ (fun h hh => starL_tail (starL_tail hh)) hs2
      refine ⟨f', tmps, asg, body, y1, RoundIn.mono y2 ?_⟩
      rintro e w4 ⟨v, rfl, hE4, hv⟩
      refine ⟨v, rfl, hE4, ?_⟩
      have hone : cnt (64 * j + (k + 1)) m = cnt (64 * j + s) m + 1 := by
        rw [show 64 * j + (k + 1) = 64 * j + k + 1 by omega, cnt_succ, hmk, hpos]; rfl
      rcases hv with ⟨rfl, hs4⟩ | ⟨rfl, hs4⟩
      · refine ⟨true, rfl, ?_⟩
        have e1 : IntKind.u64.wrap ((r : Int) - 1) = ((r - 1 : Nat) : Int) := by
          have := wrap_u64 (r - 1) (by omega)
          rw [← this]; congr 1; omega
        have e2 := bitI_and (a := r) (b := r - 1) hr (by omega)
        show (∃ r' s' : Nat, _ ∧ _) ∧ _
        rw [e1, e2]
        refine ⟨⟨r &&& (r - 1), k + 1, rfl, Nat.and_lt_two_pow _ (by omega), by omega, fun q => ?_, ?_⟩, ?_⟩
        · rw [k4, hbits]
          by_cases hq : q < k
          · have h3 := k3 q hq
            rw [hbits] at h3
            rw [h3]
            have : ¬ k + 1 ≤ q := by omega
            simp [this]
          · by_cases hqk : q = k
            · subst hqk
              have : ¬ q + 1 ≤ q := by omega
              simp [this]
            · have h5 : (q == k) = false := by simp [hqk]
              have h6 : s ≤ q := by omega
              have h7 : k + 1 ≤ q := by omega
              simp [h5, h6, h7]
        · rw [hone]; exact hs4
        · show (((r &&& (r - 1) : Nat) : Int)).toNat < ((r : Nat) : Int).toNat
          have : r &&& (r - 1) ≤ r - 1 := Nat.and_le_right
          simp only [Int.toNat_natCast]
          omega
      · refine ⟨false, rfl, ?_⟩
        exact .inr (back _ _ hs4)
    · have h2 : r = 0 := by simpa using h2
      subst h2
      refine ⟨⟨by omega, by omega⟩, ⟨j + 1, by simp, by omega, ?_⟩, msr h1⟩
      have : cnt (64 * (j + 1)) m = cnt (64 * j + s) m := cnt_mono_none (by omega) fun q hq1 hq2 => by
        have h3 := hbits (q - 64 * j)
        have h4 := hmem (q - 64 * j) (by omega)
        rw [show 64 * j + (q - 64 * j) = q by omega] at h4
        rw [h4]
        have : s ≤ q - 64 * j := by omega
        simpa [this] using h3.symm
      rw [this]; exact hs2
  · have h1 : j = ws.length := by have := of_decide_eq_false h1; omega
    subst h1
    rw [cnt_all hi, ← membs_len] at hs
    refine .inl ?_
    have : (ivm (membs n m)).length = (membs n m).length := by simp [ivm]
    rw [this]
    exact back _ _ hs
end
end Go.Proofs.YtcapljamcepmkaaDoor
set_option linter.unusedVariables false
namespace Go.V
def ivn (l : List Nat) : List Value := l.map fun (k : Nat) => Value.int .i64 (k : Int)
theorem ivn_take {ks : List Nat} {i k : Nat} (h : ks[i]? = some k) : ivn (ks.take (i + 1)) = ivn (ks.take i) ++ [.int .i64 (k : Int)] := by
  unfold ivn; rw [List.take_add_one, h]; simp
end Go.V
namespace Go.Proofs.YtcapljamcepmkaaDoor
open Go.V
section
variable {w : World} {L : List Asn} {a : Option Addr} {l c : Nat} {p : Option Addr} {n : Nat} {m : Nat → Bool} {xs : List Int} {ws : List Nat}
theorem c_AppendSeq {g : FuncId} {cap : List Value} {D Q : Asn} {ks : List Nat} {vs : List Value} (hg : Fn g = true) (hI : Itr Tryd.prog g [] cap D Q (ivm ks)) (hQ : ∀ h, starL L h → Q h) (hb : l + ks.length ≤ 1099511627776)
    (h : St w (own 1 a l c vs :: D :: L)) :
    Run Tryd.prog n_slices_AppendSeq_int_int_ [.slice a l c, .func (.func g) #[] ⟨cap⟩] w fun v w' => ∃ a' c', v = .slice a' (l + ks.length) c' ∧ St w' (own 1 a' (l + ks.length) c' (vs ++ ivn ks) :: D :: L) := by
  refine run_slices_AppendSeq_int_int_ _ _ _ _ _ w _ ?_
  refine newC_i h fun b w1 h1 => ifT_iff.2 ⟨hg, ?_⟩
  refine ⟨ivm ks, D, Q, fun i => ex fun y : Option Addr × Nat => sta [cel b [.slice y.1 (l + i) y.2], own 1 y.1 (l + i) y.2 (vs ++ ivn (ks.take i))], pu False, fun _ => pu False, L, ?_, hQ, hI, ?_, ?_, ?_, ?_, trivial⟩
  · refine St.ex.2 ⟨(a, c), St.flat.2 ?_⟩
    simpa [ivn] using h1
  · intro x hx
    simp only [ivm, List.mem_map] at hx
    obtain ⟨k, _, rfl⟩ := hx
    exact ⟨_, rfl⟩
  · intro i x hx L' w2 _ hs
    refine ⟨_, hs, fun L'' w3 _ hs3 => ?_⟩
    obtain ⟨⟨a1, c1⟩, hs3⟩ := St.ex.1 hs3
    have hs3 := St.flat.1 hs3
    have hx : (ivm ks)[i]? = some [.int .i64 x] := hx
    obtain ⟨k, hk, rfl⟩ : ∃ k, ks[i]? = some k ∧ x = (k : Int) := by
      unfold ivm at hx
      rw [List.getElem?_map] at hx
      cases hki : ks[i]? with
      | none => rw [hki] at hx; cases hx
      | some k => rw [hki] at hx; simp at hx; exact ⟨k, rfl, hx.symm⟩
    have hil := (List.getElem?_eq_some_iff.1 hk).1
    refine ⟨a1, l + i, c1, by rw [hs3.cell]; rfl, ?_⟩
    refine newC_i hs3 fun b2 w4 h4 => ?_
    refine (app_own' tyOk (rfl : kdOfT Ty _ = .slice _) rfl rfl rfl h4.rot3 (n := 1) (news := [.int .i64 (k : Int)]) ?_ ?_ (by omega)).mono ?_
    · refine src_slice tyOk (rfl : kdOfT Ty _ = .slice _) rfl (.inr ⟨_, rfl, fun j u hj => ?_⟩) (fun u hu => ?_)
      · rw [add_lit0, h4.cell]; exact hj
      · simp only [List.mem_singleton] at hu; subst hu; rfl
    · show (l + i + 1) * 8 ≤ _; omega
    · rintro _ w5 ⟨a', c', rfl, h5⟩
      refine ⟨_, _, _, rfl, st1_i h5.rot3 (by simp) fun w6 h6 => St.ex.2 ⟨(a', c'), St.flat.2 ?_⟩⟩
      rw [ivn_take hk, ← List.append_assoc]
      have h7 : St w6 (cel b [.slice a' (l + i + 1) c'] :: own 1 a' (l + i + 1) c' (vs ++ ivn (ks.take i) ++ [.int .i64 (k : Int)]) :: cel b2 [.int .i64 (k : Int)] :: L'') := h6
      exact h7.perm (List.Perm.refl _) |>.rot3.tail
  · intro w2 hs
    obtain ⟨⟨a1, c1⟩, hs⟩ := St.ex.1 hs
    have hs := St.flat.1 hs
    have e : (ivm ks).length = ks.length := by simp [ivm]
    rw [e, List.take_length] at hs
    refine ⟨a1, _, c1, by rw [hs.cell]; rfl, fun w3 h3 => ⟨a1, c1, rfl, (hs.eq h3).tail⟩⟩
  · intro w2 hs
    exact (St.pu.1 hs).1.elim
theorem c_Collect {g : FuncId} {cap : List Value} {D Q : Asn} {ks : List Nat} (hg : Fn g = true) (hI : Itr Tryd.prog g [] cap D Q (ivm ks)) (hQ : ∀ h, starL L h → Q h) (hb : ks.length ≤ 1099511627776) (h : St w (D :: L)) :
    Run Tryd.prog n_slices_Collect_int_ [.func (.func g) #[] ⟨cap⟩] w fun v w' => ∃ a' c', v = .slice a' ks.length c' ∧ St w' (own 1 a' ks.length c' (ivn ks) :: D :: L) := by
  refine run_slices_Collect_int_ _ _ w _ ?_
  refine (c_AppendSeq hg hI hQ (l := 0) (by omega) (own_nil 1 h)).mono ?_
  rintro _ w' ⟨a', c', rfl, h1⟩
  rw [Nat.zero_add, List.nil_append] at h1
  exact ⟨_, _, _, rfl, a', c', by rw [Nat.zero_add], h1⟩
end
end Go.Proofs.YtcapljamcepmkaaDoor
set_option linter.unusedVariables false
namespace Go.V
theorem natNe {a b : Nat} (h : ((a : Int) != b) = true) : a ≠ b := by
  have : (a : Int) ≠ b := by simpa using h
  omega
theorem natEq' {a b : Nat} (h : ((a : Int) != b) = false) : a = b := by
  have : (a : Int) = b := by simpa using h
  omega
theorem ivn_iv (ks : List Nat) : ivn ks = iv (ks.map fun (k : Nat) => (k : Int)) := by simp [ivn, iv]
end Go.V
set_option linter.unusedVariables false
namespace Go.V
def tlA : List Asn → List Asn
  | [] => []
  | _ :: L => L
def dropN : Nat → List Asn → List Asn
  | 0, L => L
  | n + 1, L => dropN n (tlA L)
abbrev dropA (L : List Asn) (n : Nat) : List Asn := dropN n L
theorem dropN_nil : ∀ n, dropN n [] = []
  | 0 => rfl
  | n + 1 => dropN_nil n
def hasN (i : Nat) : List Nat → Bool
  | [] => false
  | j :: l => Nat.beq i j || hasN i l
theorem hasN_eq (i : Nat) : ∀ l, hasN i l = l.contains i
  | [] => rfl
  | j :: l => by
    rw [hasN, hasN_eq i l, List.contains_cons]; congr 1; rw [Bool.eq_iff_iff]; simp
def pickA (L : List Asn) : List Nat → List Asn → List Asn
  | [], T => T
  | i :: is, T => nthA L i :: pickA L is T
def okP (n : Nat) : List Nat → Bool
  | [] => true
  | i :: is => Nat.blt i n && !hasN i is && okP n is
theorem starL_split : ∀ (n : Nat) (L : List Asn) (h : Hp), starL L h →
    ∃ (f : Nat → Hp) (g : Hp), (∀ i j, i ≠ j → i < n → j < n → dis (f i) (f j)) ∧ (∀ i, i < n → dis (f i) g) ∧ (∀ i, i < n → sub (f i) h) ∧ sub g h ∧ (∀ i, i < n → nthA L i (f i)) ∧ starL (dropA L n) g
  | 0, L, h, hs => ⟨fun _ => h, h, fun _ _ _ hi => absurd hi (by omega), fun _ hi => absurd hi (by omega), fun _ hi => absurd hi (by omega), sub.refl _, fun _ hi => absurd hi (by omega), hs⟩
  | n + 1, [], h, hs => ⟨fun _ _ => none, h, fun _ _ _ _ _ _ => .inl rfl, fun _ _ _ => .inl rfl, fun _ _ _ _ h => (nomatch h), sub.refl _, fun _ _ => trivial, by show starL (dropN n []) _; rw [dropN_nil]; trivial⟩
  | n + 1, A :: L, h, ⟨h1, h2, d, s1, s2, ha, hl⟩ => by
    obtain ⟨f, g, f1, f2, f3, f4, f5, f6⟩ := starL_split n L h2 hl
    refine ⟨fun i => match i with | 0 => h1 | i + 1 => f i, g, fun i j hne hi hj => ?_, fun i hi => ?_, fun i hi => ?_, f4.trans s2, fun i hi => ?_, f6⟩
    · cases i with
      | zero => cases j with
        | zero => exact absurd rfl hne
        | succ j => exact d.sub (sub.refl _) (f3 j (by omega))
      | succ i => cases j with
        | zero => exact (d.sub (sub.refl _) (f3 i (by omega))).symm
        | succ j => exact f1 i j (by omega) (by omega) (by omega)
    · cases i with
      | zero => exact d.sub (sub.refl _) f4
      | succ i => exact f2 i (by omega)
    · cases i with
      | zero => exact s1
      | succ i => exact (f3 i (by omega)).trans s2
    · cases i with
      | zero => exact ha
      | succ i => exact f5 i (by omega)
theorem starL_join {L T : List Asn} {n : Nat} {f : Nat → Hp} {g h : Hp} (f1 : ∀ i j, i ≠ j → i < n → j < n → dis (f i) (f j)) (f2 : ∀ i, i < n → dis (f i) g) (f3 : ∀ i, i < n → sub (f i) h) (f4 : sub g h)
    (f5 : ∀ i, i < n → nthA L i (f i)) (f6 : starL T g) : ∀ is : List Nat, okP n is = true → ∃ u, sub u h ∧ starL (pickA L is T) u ∧ ∀ i, i < n → i ∉ is → dis (f i) u
  | [], _ => ⟨g, f4, f6, fun i hi _ => f2 i hi⟩
  | i :: is, hok => by
    simp only [okP, hasN_eq, Bool.and_eq_true, Bool.not_eq_true', Nat.blt_eq] at hok
    obtain ⟨⟨hi, hni⟩, hok⟩ := hok
    have hni : i ∉ is := by simpa using hni
    obtain ⟨u, u1, u2, u3⟩ := starL_join f1 f2 f3 f4 f5 f6 is hok
    have d := u3 i hi hni
    refine ⟨uni (f i) u, uni_sub (f3 i hi) u1, ⟨f i, u, d, sub_uni_l _ _, sub_uni_r d, f5 i hi, u2⟩, fun j hj hjn => ?_⟩
    simp only [List.mem_cons, not_or] at hjn
    exact (dis_uni (f1 i j (fun e => hjn.1 e.symm) hi hj) (u3 j hj hjn.2).symm).symm
theorem St.pick {w : World} {L : List Asn} (h : St w L) (n : Nat) (is : List Nat) (hok : okP n is = true := by rfl) : St w (pickA L is (dropA L n)) := by
  obtain ⟨f, g, f1, f2, f3, f4, f5, f6⟩ := starL_split n L _ h
  obtain ⟨u, u1, u2, _⟩ := starL_join f1 f2 f3 f4 f5 f6 is hok
  exact starL_sub u2 u1
example {w : World} {A B C : Asn} {L : List Asn} (h : St w (A :: B :: C :: L)) : St w (C :: A :: L) := h.pick 3 [2, 0]
end Go.V
set_option linter.unusedVariables false
namespace Go.V
def Gr (w w' : World) : Prop := sub (hp w) (hp w')
theorem Gr.refl (w : World) : Gr w w := sub.refl _
theorem Gr.trans {a b c : World} (h : Gr a b) (k : Gr b c) : Gr a c := sub.trans h k
theorem Gr.of_eq {w w' : World} (h : hp w' = hp w) : Gr w w' := by unfold Gr; rw [h]; exact sub.refl _
theorem St.gr {w w' : World} {L : List Asn} (h : St w L) (g : Gr w w') : St w' L := starL_sub h g
abbrev all (w : World) : List Asn := [has (hp w)]
theorem has_i {h0 h : Hp} (s : sub h0 h) : starL [has h0] h := ⟨h0, fun _ => none, fun _ => .inr rfl, s, fun _ _ h => (nomatch h), sub.refl _, trivial⟩
theorem St.here {w : World} {h0 : Hp} (s : sub h0 (hp w)) : St w [V.has h0] := has_i s
theorem St.all (w : World) : St w (V.all w) := has_i (sub.refl _)
theorem starL_under {L M N : List Asn} (hm : ∀ h, starL M h → starL N h) : ∀ {h : Hp}, starL (L ++ M) h → starL (L ++ N) h := by
  induction L with
  | nil => exact fun h => hm _ h
  | cons A L ih => exact fun ⟨h1, h2, d, s1, s2, ha, hl⟩ => ⟨h1, h2, d, s1, s2, ha, ih hl⟩
theorem has_frame {L : List Asn} {h0 : Hp} (hl : starL L h0) : ∀ h, starL [has h0] h → starL L h := fun h hh => starL_sub hl (starL_has hh)
theorem St.on {w' : World} {N L : List Asn} {h0 : Hp} (h : St w' (N ++ [V.has h0])) (hl : starL L h0) : St w' (N ++ L) := starL_under (has_frame hl) h
theorem St.on1 {w' : World} {A : Asn} {L : List Asn} {h0 : Hp} (h : St w' [A, V.has h0]) (hl : starL L h0) : St w' (A :: L) := St.on (N := [A]) h hl
theorem St.on2 {w' : World} {A B : Asn} {L : List Asn} {h0 : Hp} (h : St w' [A, B, V.has h0]) (hl : starL L h0) : St w' (A :: B :: L) := St.on (N := [A, B]) h hl
theorem St.gone {w' : World} {N : List Asn} {h0 : Hp} (h : St w' (N ++ [V.has h0])) : sub h0 (hp w') := by
  induction N with
  | nil => exact starL_has h
  | cons A N ih => exact ih h.tail
theorem St.gone1 {w' : World} {A : Asn} {h0 : Hp} (h : St w' [A, V.has h0]) : sub h0 (hp w') := St.gone (N := [A]) h
theorem St.gone2 {w' : World} {A B : Asn} {h0 : Hp} (h : St w' [A, B, V.has h0]) : sub h0 (hp w') := St.gone (N := [A, B]) h
theorem St.freeze {w : World} {A : Asn} {L : List Asn} (h : St w (A :: L)) : ∃ h0, starL L h0 ∧ sub h0 (hp w) ∧ St w [A, V.has h0] := by
  obtain ⟨h1, h2, d, s1, s2, ha, hl⟩ := h
  exact ⟨h2, hl, s2, h1, h2, d, s1, s2, ha, has_i (sub.refl _)⟩
theorem St.first {w : World} {A : Asn} {L : List Asn} (h : St w (A :: L)) : ∃ h1, sub h1 (hp w) ∧ A h1 := by
  obtain ⟨h1, h2, d, s1, s2, ha, hl⟩ := h
  exact ⟨h1, s1, ha⟩

def rowH (h : Hp) (a : Addr) (vs : List Value) : Prop := ∀ j v, vs[j]? = some v → cellH h (a.add j) = some v
theorem rowH.mono {h h' : Hp} {a : Addr} {vs : List Value} (s : sub h h') (r : rowH h a vs) : rowH h' a vs := fun j v hj => cellH_sub s (r j v hj)
theorem rowH.cell {w : World} {h : Hp} {a : Addr} {vs : List Value} (r : rowH h a vs) (s : sub h (hp w)) {j : Nat} {v : Value} (hj : vs[j]? = some v) : w.cell? (a.add j) = some v := cellH_w (cellH_sub s (r j v hj))
theorem rowH.cell0 {w : World} {h : Hp} {a : Addr} {v : Value} {vs : List Value} (r : rowH h a (v :: vs)) (s : sub h (hp w)) : w.cell? a = some v := by
  have := r.cell s (j := 0) (v := v) rfl
  simpa [Addr.add] using this
theorem rowH.drop {h : Hp} {a : Addr} {us vs : List Value} (r : rowH h a (us ++ vs)) : rowH h (a.add us.length) vs := fun j v hj => by
  rw [add_add]; exact r _ v (by rw [List.getElem?_append_right (by omega), Nat.add_sub_cancel_left]; exact hj)
theorem rowH.take {h : Hp} {a : Addr} {us vs : List Value} (r : rowH h a (us ++ vs)) : rowH h a us := fun j v hj =>
  r j v (by rw [List.getElem?_append_left (List.getElem?_eq_some_iff.1 hj).1]; exact hj)
theorem rowAt_row {w : World} {h : Hp} {a : Addr} (s : sub h (hp w)) : ∀ (vs : List Value) (i : Nat), rowH h (a.add i) vs → rowAt w a i vs.length = some vs
  | [], i, _ => rfl
  | v :: vs, i, r => by
    have h1 : w.cell? (a.add i) = some v := r.cell0 s
    have h2 : rowH h (a.add (i + 1)) vs := by
      rw [← add_add]; exact rowH.drop (us := [v]) r
    simp only [List.length_cons, rowAt, h1, rowAt_row s vs (i + 1) h2]
theorem rowH.at {w : World} {h : Hp} {a : Addr} {vs : List Value} {n : Nat} (r : rowH h a vs) (s : sub h (hp w)) (hn : vs.length = n) : rowAt w a 0 n = some vs := by
  subst hn; exact rowAt_row s vs 0 (by simpa [Addr.add] using r)
theorem cel_row {b : Nat} {vs : List Value} {h : Hp} (hc : cel b vs h) : rowH h ⟨b, 0, none⟩ vs := fun j v hj => by
  obtain ⟨e, he⟩ := hc
  rw [add_lit0]; unfold cellH; simp only [he]; simpa using hj
class Rep (α : Type) where
  n : Nat
  rd : Hp → α → List Value → Prop
  mono : ∀ {h h' : Hp} {x : α} {vs : List Value}, sub h h' → rd h x vs → rd h' x vs
  len : ∀ {h : Hp} {x : α} {vs : List Value}, rd h x vs → vs.length = n
abbrev rd {α : Type} [Rep α] (h : Hp) (x : α) (vs : List Value) : Prop := Rep.rd h x vs
def rdS {α : Type} [Rep α] (h : Hp) (xs : List α) (a : Option Addr) (l : Nat) : Prop :=
  xs.length = l ∧ ∀ i x, xs[i]? = some x → ∃ ad vs, a = some ad ∧ rowH h (ad.add (mulS i (Rep.n α))) vs ∧ rd h x vs
section
variable {α : Type} [Rep α] {h h' : Hp} {w : World} {xs : List α} {a : Option Addr} {l : Nat}
theorem rdS.mono (s : sub h h') (r : rdS h xs a l) : rdS h' xs a l :=
  ⟨r.1, fun i x hx => by obtain ⟨ad, vs, h1, h2, h3⟩ := r.2 i x hx; exact ⟨ad, vs, h1, h2.mono s, Rep.mono s h3⟩⟩
theorem rdS.nil : rdS h ([] : List α) a 0 := ⟨rfl, fun i x hx => by simp at hx⟩
theorem rdS.get (r : rdS h xs a l) {i : Nat} (hi : i < l) : ∃ x ad vs, xs[i]? = some x ∧ a = some ad ∧ rowH h (ad.add (mulS i (Rep.n α))) vs ∧ rd h x vs := by
  have hl : i < xs.length := by rw [r.1]; exact hi
  obtain ⟨ad, vs, h1, h2, h3⟩ := r.2 i xs[i] (List.getElem?_eq_getElem hl)
  exact ⟨xs[i], ad, vs, List.getElem?_eq_getElem hl, h1, h2, h3⟩
theorem rdS.drop {k m : Nat} (r : rdS h xs a l) (hk : k ≤ l) (hm : l ≤ m) : rdS h (xs.drop k) (slP a k m (Rep.n α)) (l - k) := by
  refine ⟨by rw [List.length_drop, r.1], fun i x hx => ?_⟩
  rw [List.getElem?_drop] at hx
  have hlt := (List.getElem?_eq_some_iff.1 hx).1
  obtain ⟨ad, vs, rfl, h2, h3⟩ := r.2 _ x hx
  have hr := r.1
  refine ⟨ad.add (mulS k (Rep.n α)), vs, ?_, ?_, h3⟩
  · unfold slP; rw [if_neg (by omega)]; rfl
  · rw [add_add, mulS_eq, mulS_eq, ← Nat.add_mul, ← mulS_eq]; exact h2
theorem rdS.take {k : Nat} (r : rdS h xs a l) (hk : k ≤ l) : rdS h (xs.take k) a k := by
  refine ⟨by rw [List.length_take, r.1]; omega, fun i x hx => ?_⟩
  rw [List.getElem?_take] at hx
  split at hx
  · exact r.2 i x hx
  · cases hx
class Rep1 (α : Type) extends Rep α where
  val : α → Value
  one : ∀ {h : Hp} {x : α} {vs : List Value}, rd h x vs ↔ vs = [val x]
  n1 : n = 1
end
section
variable {α : Type} [Rep1 α] {h h' : Hp} {w : World} {xs : List α} {a : Option Addr} {l : Nat}
theorem rdS.at (r : rdS h xs a l) {i : Nat} {x : α} (hx : xs[i]? = some x) : ∃ ad, a = some ad ∧ ∀ w, sub h (hp w) → w.cell? (ad.add i) = some (Rep1.val x) := by
  obtain ⟨ad, vs, h1, h2, h3⟩ := r.2 i x hx
  have := Rep1.one.1 h3
  subst this
  refine ⟨ad, h1, fun w s => ?_⟩
  have := h2.cell0 s
  rw [mulS_eq, Rep1.n1, Nat.mul_one] at this
  exact this
theorem rdS.get1 (r : rdS h xs a l) {i : Nat} (hi : i < l) : ∃ x ad, xs[i]? = some x ∧ a = some ad ∧ ∀ w, sub h (hp w) → w.cell? (ad.add i) = some (Rep1.val x) := by
  have hl : i < xs.length := by rw [r.1]; exact hi
  obtain ⟨ad, h1, h2⟩ := r.at (List.getElem?_eq_getElem hl)
  exact ⟨_, ad, List.getElem?_eq_getElem hl, h1, h2⟩
theorem rdS_of_row (hl : xs.length = l) (hr : rdV a (xs.map Rep1.val) h) : rdS h xs a l := by
  refine ⟨hl, fun i x hx => ?_⟩
  rcases hr with hn | ⟨ad, rfl, hc⟩
  · have : xs = [] := by simpa using hn
    subst this; simp at hx
  · refine ⟨ad, [Rep1.val x], rfl, fun j v hj => ?_, Rep1.one.2 rfl⟩
    cases j with
    | zero =>
      simp only [List.getElem?_cons_zero, Option.some.injEq] at hj
      subst hj
      rw [mulS_eq, Rep1.n1, Nat.mul_one]
      have := hc i (Rep1.val x) (by rw [List.getElem?_map, hx]; rfl)
      simpa [add_add] using this
    | succ j => simp at hj
theorem rdS.row (r : rdS h xs a l) : rdV a (xs.map Rep1.val) h := by
  cases xs with
  | nil => exact .inl rfl
  | cons x0 xs' =>
    obtain ⟨ad, vs, rfl, _⟩ := r.2 0 x0 rfl
    refine .inr ⟨ad, rfl, fun j v hj => ?_⟩
    rw [List.getElem?_map] at hj
    cases hx : (x0 :: xs')[j]? with
    | none => rw [hx] at hj; cases hj
    | some x =>
      rw [hx] at hj; cases hj
      obtain ⟨ad', vs, e, h2, h3⟩ := r.2 j x hx
      cases e
      have := Rep1.one.1 h3
      subst this
      have := h2 0 _ rfl
      rw [mulS_eq, Rep1.n1, Nat.mul_one] at this
      simpa [add_add] using this
end
instance : Rep1 Int := { n := 1, rd := fun _ x vs => vs = [.int .i64 x], mono := fun _ h => h, len := fun h => by rw [h]; rfl, val := fun x => .int .i64 x, one := Iff.rfl, n1 := rfl }
instance : Rep1 Bool := { n := 1, rd := fun _ x vs => vs = [.bool x], mono := fun _ h => h, len := fun h => by rw [h]; rfl, val := fun x => .bool x, one := Iff.rfl, n1 := rfl }
instance : Rep1 ByteArray := { n := 1, rd := fun _ x vs => vs = [.string x], mono := fun _ h => h, len := fun h => by rw [h]; rfl, val := fun x => .string x, one := Iff.rfl, n1 := rfl }
instance {α : Type} [Rep α] : Rep (List α) :=
  { n := 1, rd := fun h xs vs => ∃ a l c, vs = [.slice a l c] ∧ l ≤ c ∧ rdS h xs a l, mono := fun s ⟨a, l, c, h1, h3, h2⟩ => ⟨a, l, c, h1, h3, h2.mono s⟩, len := fun ⟨_, _, _, h, _⟩ => by rw [h]; rfl }
def anyI : Int → Prop := fun z => -9223372036854775808 ≤ z ∧ z ≤ 9223372036854775807
def bv (bs : List Bool) : List Value := bs.map fun b => Value.bool b
theorem Rep1.val_int : (Rep1.val : Int → Value) = fun x => Value.int .i64 x := rfl
theorem rdI_of {h : Hp} {xs : List Int} {a : Option Addr} {l : Nat} (hl : xs.length = l) (hr : rdV a (iv xs) h) : rdS h xs a l := rdS_of_row hl hr
theorem rdB_of {h : Hp} {xs : List Bool} {a : Option Addr} {l : Nat} (hl : xs.length = l) (hr : rdV a (bv xs) h) : rdS h xs a l := rdS_of_row hl hr
theorem rdS.iv {h : Hp} {xs : List Int} {a : Option Addr} {l : Nat} (r : rdS h xs a l) : rdV a (V.iv xs) h := r.row
theorem rdS.bv {h : Hp} {xs : List Bool} {a : Option Addr} {l : Nat} (r : rdS h xs a l) : rdV a (V.bv xs) h := r.row
theorem iv_len (xs : List Int) : (iv xs).length = xs.length := by simp [iv]
theorem bv_len (xs : List Bool) : (bv xs).length = xs.length := by simp [bv]
theorem hp_sub {w w' : World} (h : hp w' = hp w) : sub (hp w) (hp w') := Gr.of_eq h
end Go.V
set_option linter.unusedVariables false
namespace Go.V
def fnB (bs : List Bool) : Nat → Bool := fun k => bs.getD k false
def mb (bs : List Bool) : List Nat := membs bs.length (fnB bs)
def mbI (bs : List Bool) : List Int := (mb bs).map fun (k : Nat) => (k : Int)
def cntB (bs : List Bool) : Nat := cnt bs.length (fnB bs)
def tabB (n : Nat) (m : Nat → Bool) : List Bool := (List.range n).map m
def addB (bs : List Bool) (xs : List Int) : List Bool := tabB bs.length (addS bs.length (fnB bs) xs)
def hasB (bs : List Bool) (k : Int) : Bool := decide (0 ≤ k) && fnB bs k.toNat
def ofB (size : Int) (xs : List Int) : List Bool := addB (List.replicate (ofN size) false) xs
def unionB (bs : List Bool) (vss : List (List Bool)) : List Bool := vss.foldl (fun b v => addB b (mbI v)) bs
theorem tabB_len (n : Nat) (m : Nat → Bool) : (tabB n m).length = n := by simp [tabB]
theorem addB_len (bs : List Bool) (xs : List Int) : (addB bs xs).length = bs.length := tabB_len _ _
theorem ofB_len (size : Int) (xs : List Int) : (ofB size xs).length = ofN size := by simp [ofB, addB_len]
theorem fnB_out {bs : List Bool} {k : Nat} (h : bs.length ≤ k) : fnB bs k = false := by
  unfold fnB; rw [List.getD_eq_getElem?_getD, List.getElem?_eq_none h]; rfl
theorem fnB_get {bs : List Bool} {k : Nat} {b : Bool} (h : bs[k]? = some b) : fnB bs k = b := by
  unfold fnB; rw [List.getD_eq_getElem?_getD, h]; rfl
theorem fnB_tab {n : Nat} {m : Nat → Bool} (hm : ∀ k, n ≤ k → m k = false) : fnB (tabB n m) = m := by
  funext k
  by_cases h : k < n
  · exact fnB_get (by simp [tabB, h])
  · rw [fnB_out (by rw [tabB_len]; omega), hm k (by omega)]
theorem tabB_fn (bs : List Bool) : tabB bs.length (fnB bs) = bs := by
  apply List.ext_getElem?
  intro k
  by_cases h : k < bs.length
  · simp [tabB, h, fnB]
  · rw [List.getElem?_eq_none (by rw [tabB_len]; omega), List.getElem?_eq_none (by omega)]
theorem fnB_inj {cs bs : List Bool} (hl : cs.length = bs.length) (h : ∀ k, fnB cs k = fnB bs k) : cs = bs := by
  rw [← tabB_fn cs, ← tabB_fn bs, hl]; congr 1; funext k; exact h k
theorem fnB_add (bs : List Bool) (xs : List Int) : fnB (addB bs xs) = addS bs.length (fnB bs) xs :=
  fnB_tab fun k hk => by simp [addS, fnB_out hk]; omega
theorem fnB_rep (n k : Nat) : fnB (List.replicate n false) k = false := by
  unfold fnB; rw [List.getD_eq_getElem?_getD, List.getElem?_replicate]; split <;> rfl
theorem cntB_le (bs : List Bool) : cntB bs ≤ bs.length := cnt_le _ _
theorem mbI_len (bs : List Bool) : (mbI bs).length = cntB bs := by rw [mbI, List.length_map]; rfl
theorem mem_mb {bs : List Bool} {k : Nat} : k ∈ mb bs ↔ fnB bs k = true := by
  simp only [mb, membs, List.mem_filter, List.mem_range]
  refine ⟨fun h => h.2, fun h => ⟨Nat.lt_of_not_le fun hl => ?_, h⟩⟩
  rw [fnB_out hl] at h; cases h
theorem mem_mbI {bs : List Bool} {x : Int} : x ∈ mbI bs ↔ hasB bs x = true := by
  simp only [mbI, List.mem_map, mem_mb, hasB, Bool.and_eq_true, decide_eq_true_eq]
  constructor
  · rintro ⟨k, h, rfl⟩; exact ⟨by omega, h⟩
  · rintro ⟨h1, h2⟩; exact ⟨_, h2, by omega⟩
theorem mbI_contains {bs : List Bool} {k : Nat} : (mbI bs).contains (k : Int) = fnB bs k := by
  rw [Bool.eq_iff_iff, List.contains_iff_mem, mem_mbI]
  simp [hasB]
theorem iv_mbI (bs : List Bool) : iv (mbI bs) = ivn (mb bs) := by rw [mbI, ivn_iv]
theorem ofB_mb (bs : List Bool) (hl : bs.length ≤ 1024) : ofB (bs.length : Int) (mbI bs) = bs := by
  refine fnB_inj (by rw [ofB_len, ofN_nat hl]) fun k => ?_
  unfold ofB
  rw [fnB_add, addS, fnB_rep, mbI_contains, List.length_replicate, ofN_nat hl]
  by_cases h : k < bs.length
  · simp [h]
  · simp [h, fnB_out (Nat.le_of_not_lt h)]
theorem fnB_add_mb (bs vs : List Bool) (k : Nat) : fnB (addB bs (mbI vs)) k = (fnB bs k || (decide (k < bs.length) && fnB vs k)) := by
  rw [fnB_add, addS, mbI_contains]
theorem unionB_len (vss : List (List Bool)) : ∀ bs, (unionB bs vss).length = bs.length := by
  induction vss with
  | nil => exact fun _ => rfl
  | cons v l ih => exact fun bs => (ih _).trans (addB_len _ _)
theorem fnB_union (vss : List (List Bool)) : ∀ (bs : List Bool) (k : Nat), fnB (unionB bs vss) k = (fnB bs k || (decide (k < bs.length) && vss.any fun v => fnB v k)) := by
  induction vss with
  | nil => intro bs k; simp [unionB]
  | cons v l ih =>
    intro bs k
    show fnB (unionB (addB bs (mbI v)) l) k = _
    rw [ih, addB_len, fnB_add_mb, List.any_cons]
    cases fnB bs k <;> cases decide (k < bs.length) <;> simp
theorem unionB_take {vss : List (List Bool)} {bs v : List Bool} {j : Nat} (h : vss[j]? = some v) : unionB bs (vss.take (j + 1)) = addB (unionB bs (vss.take j)) (mbI v) := by
  unfold unionB; rw [List.take_add_one, h, List.foldl_append]; rfl
theorem addB_take {bs : List Bool} {xs : List Int} {j : Nat} {x : Int} (h : xs[j]? = some x) : addB (addB bs (xs.take j)) [x] = addB bs (xs.take (j + 1)) := by
  refine fnB_inj (by simp [addB_len]) fun k => ?_
  rw [fnB_add, fnB_add, fnB_add]
  simp only [addS, addB_len, take_succ_get h, contains_snoc, List.contains_cons, List.contains_nil, Bool.or_false]
  cases fnB bs k <;> cases decide (k < bs.length) <;> simp
theorem cnt_mono {n : Nat} {m m' : Nat → Bool} (h : ∀ k, m k = true → m' k = true) : cnt n m ≤ cnt n m' := by
  unfold cnt
  rw [← List.countP_eq_length_filter, ← List.countP_eq_length_filter]
  exact List.countP_mono_left fun k _ => h k
theorem cntB_add (bs : List Bool) (xs : List Int) : cntB bs ≤ cntB (addB bs xs) := by
  unfold cntB; rw [addB_len, fnB_add]
  exact cnt_mono fun k h => by simp [addS, h]
def setO (p : Option Addr) (bs : List Bool) : Asn := setM p bs.length (fnB bs)
def setR (h : Hp) (p : Option Addr) (bs : List Bool) : Prop :=
  (p = none ∧ bs = []) ∨ ∃ b a c ws, p = some ⟨b, 0, none⟩ ∧ Inv bs.length ws (fnB bs) ∧ rowH h ⟨b, 0, none⟩ [.slice a (List.length ws) c, .int .i64 (bs.length : Int)] ∧ rdV a (cw ws) h
theorem rdV.mono {h h' : Hp} {a : Option Addr} {vs : List Value} (s : sub h h') (r : rdV a vs h) : rdV a vs h' := by
  rcases r with r | ⟨ad, e, hc⟩
  · exact .inl r
  · exact .inr ⟨ad, e, fun j v hj => cellH_sub s (hc j v hj)⟩
theorem setR.mono {h h' : Hp} {p : Option Addr} {bs : List Bool} (s : sub h h') (r : setR h p bs) : setR h' p bs := by
  rcases r with r | ⟨b, a, c, ws, h1, h2, h3, h4⟩
  · exact .inl r
  · exact .inr ⟨b, a, c, ws, h1, h2, h3.mono s, h4.mono s⟩
theorem setO_R {h : Hp} {p : Option Addr} {bs : List Bool} (ho : setO p bs h) : setR h p bs := by
  rcases ho with ⟨h1, h2, _⟩ | ⟨b, a, c, ws, h1, h2, h3⟩
  · exact .inl ⟨h1, List.eq_nil_of_length_eq_zero h2⟩
  · obtain ⟨g1, g2, d, s1, s2, ha, g3, g4, d', s3, s4, hb, _⟩ := h3
    exact .inr ⟨b, a, c, ws, h1, h2, (cel_row ha).mono s1, (own_rdVh hb).mono (s3.trans s2)⟩
theorem St.setR {w : World} {L : List Asn} {p : Option Addr} {bs : List Bool} (h : St w (setO p bs :: L)) : setR (hp w) p bs := by
  obtain ⟨h1, s, ha⟩ := h.first
  exact (setO_R ha).mono s
theorem setR.le {h : Hp} {p : Option Addr} {bs : List Bool} (r : V.setR h p bs) : bs.length ≤ 1024 := by
  rcases r with ⟨_, rfl⟩ | ⟨b, a, c, ws, _, h2, _⟩
  · simp
  · exact h2.le
theorem setM_O {w : World} {L : List Asn} {p : Option Addr} {n : Nat} {m : Nat → Bool} (h : St w (setM p n m :: L)) : St w (setO p (tabB n m) :: L) := by
  unfold setO; rw [tabB_len, fnB_tab fun k hk => setM_out h hk]; exact h
instance : Rep1 (Option Addr) := { n := 1, rd := fun _ x vs => vs = [.pointer x], mono := fun _ h => h, len := fun h => by rw [h]; rfl, val := fun x => .pointer x, one := Iff.rfl, n1 := rfl }
end Go.V
namespace Go.Proofs.YtcapljamcepmkaaDoor
open Go.V
section
variable {w : World} {L : List Asn} {a : Option Addr} {l c : Nat} {p q : Option Addr} {bs cs : List Bool} {xs : List Int} {ws : List Nat}
theorem s_Add (h : St w (setO p bs :: L)) (hx : ∀ h, starL L h → rdS h xs a l) (hb : l ≤ 4611686018427387904) :
    Run Tryd.prog n_bits_Set_Add [.pointer p, .slice a l c] w fun v w' => v = .int .i64 ((cntB (addB bs xs) : Int) - cntB bs) ∧ St w' (setO p (addB bs xs) :: L) := by
  obtain ⟨h0, hl, hs, h1⟩ := h.freeze
  have hx := hx h0 hl
  refine (c_Add (D := has h0) (L := []) (fun h hh => hx.iv.mono hh) h1 hx.1 hb).mono ?_
  rintro _ w' ⟨rfl, h2⟩
  refine ⟨?_, ?_⟩
  · simp only [cntB, addB_len, fnB_add]
  · have h2 := setM_O h2
    exact h2.on1 hl
theorem s_Of (size : Int) (hx : rdS (hp w) xs a l) (hb : l ≤ 4611686018427387904) :
    Run Tryd.prog n_bits_Of [.int .i64 size, .slice a l c] w fun v w' => ∃ b, v = .pointer (some ⟨b, 0, none⟩) ∧ St w' (setO (some ⟨b, 0, none⟩) (ofB size xs) :: all w) := by
  refine (c_Of size (D := has (hp w)) (L := []) (fun h hh => hx.iv.mono hh) (St.all w) hx.1 hb).mono ?_
  rintro _ w' ⟨b, rfl, h2⟩
  refine ⟨b, rfl, ?_⟩
  have h2 := setM_O h2
  have e : tabB (ofN size) (addS (ofN size) (fun _ => false) xs) = ofB size xs := by
    unfold ofB addB
    rw [List.length_replicate]
    congr 2
    funext k; exact (fnB_rep _ k).symm
  rw [e] at h2
  exact h2
theorem s_All (h : setR (hp w) p bs) : Run Tryd.prog n_bits_Set_All [.pointer p] w fun v w' => ∃ b, v = .func (.func n_bits_Set_All_S1) #[] #[.pointer (some ⟨b, 0, none⟩)] ∧ St w' (itD b bs.length (fnB bs) :: all w) := by
  refine run_bits_Set_All _ w _ ?_
  refine newC_i (St.all w) fun b w1 h1 => ?_
  rcases h with ⟨rfl, rfl⟩ | ⟨b2, a, c, ws, rfl, hi, h2, hr⟩
  · refine ⟨b, rfl, itD_open.2 ⟨none, 0, [], inv_zero (Nat.zero_le _), ?_⟩⟩
    exact (own_nil 1 h1).swap
  · have hl : ws.length ≤ 1024 := by rw [hi.len]; have := hi.le; omega
    refine ⟨a, ws.length, c, h2.cell0 h1.gone1, ?_⟩
    refine (c_Clone (D := has (hp w)) (fun h hh => hr.mono hh) h1.swap hl (fun e => ?_)).mono ?_
    · subst e
      rcases hr with hr | ⟨_, hr, _⟩
      · exact cw_nil hr
      · cases hr
    rintro _ w2 ⟨a', c', rfl, h3⟩
    refine ⟨_, _, _, rfl, ?_⟩
    refine st1_i h3.rot3 (by simp) fun w3 h4 => ?_
    exact ⟨b, rfl, itD_open.2 ⟨a', c', ws, hi, h4⟩⟩
theorem s_Members (h : setR (hp w) p bs) (ht : tabA (hp w)) : Run Tryd.prog n_bits_Set_Members [.pointer p] w fun v w' => ∃ a' c', v = .slice a' (cntB bs) c' ∧ St w' (own 1 a' (cntB bs) c' (iv (mbI bs)) :: all w) := by
  refine run_bits_Set_Members _ w _ ?_
  have hn := h.le
  have hc := cntB_le bs
  refine (s_All h).mono ?_
  rintro _ w1 ⟨b, rfl, h1⟩
  refine ⟨_, _, rfl, ?_⟩
  refine (c_Collect (rfl : Fn _ = true) c_All_itr (fun h hh => rdV.mono (starL_has hh) ht) (by rw [membs_len]; show cntB bs ≤ _; omega) h1).mono ?_
  rintro _ w2 ⟨a', c', rfl, h3⟩
  refine ⟨_, _, _, rfl, a', c', rfl, ?_⟩
  rw [iv_mbI]
  exact h3.swap.tail
end
end Go.Proofs.YtcapljamcepmkaaDoor
set_option linter.unusedVariables false
namespace Go.V
theorem addB_self {bs cs : List Bool} (h : ∀ k, fnB cs k = true → fnB bs k = true) : addB bs (mbI cs) = bs := by
  refine fnB_inj (addB_len _ _) fun k => ?_
  rw [fnB_add_mb]
  cases hk : fnB cs k
  · simp
  · simp [h k hk]
theorem fnB_union_sub (bs : List Bool) (vss : List (List Bool)) (k : Nat) (h : fnB bs k = true) : fnB (unionB bs vss) k = true := by
  rw [fnB_union, h]; rfl
theorem cntB_union (vss : List (List Bool)) : ∀ bs, cntB bs ≤ cntB (unionB bs vss) := by
  induction vss with
  | nil => exact fun _ => Nat.le_refl _
  | cons v l ih => exact fun bs => Nat.le_trans (cntB_add bs (mbI v)) (ih _)
theorem ivm_get {ks : List Nat} {i : Nat} {us : List Value} (h : (ivm ks)[i]? = some us) : ∃ k, ks[i]? = some k ∧ us = [.int .i64 (k : Int)] := by
  unfold ivm at h
  rw [List.getElem?_map] at h
  cases hk : ks[i]? with
  | none => rw [hk] at h; cases h
  | some k => rw [hk] at h; cases h; exact ⟨k, rfl, rfl⟩
theorem ivm_len (ks : List Nat) : (ivm ks).length = ks.length := by simp [ivm]
theorem mbI_get {bs : List Bool} {i k : Nat} (h : (mb bs)[i]? = some k) : (mbI bs)[i]? = some (k : Int) := by simp [mbI, h]
theorem starL_in {L : List Asn} {A : Asn} : ∀ {h : Hp}, A ∈ L → starL L h → ∃ h1, sub h1 h ∧ A h1 := by
  induction L with
  | nil => intro h hm; simp at hm
  | cons B L ih =>
    rintro h hm ⟨h1, h2, d, s1, s2, ha, hl⟩
    rcases List.mem_cons.1 hm with rfl | hm
    · exact ⟨h1, s1, ha⟩
    · obtain ⟨h3, s3, h4⟩ := ih hm hl
      exact ⟨h3, s3.trans s2, h4⟩
end Go.V
namespace Go.Proofs.YtcapljamcepmkaaDoor
open Go.V
section
variable {w : World} {L : List Asn} {a : Option Addr} {l c : Nat} {p q : Option Addr} {bs cs : List Bool} {xs : List Int} {os : List (Option Addr)} {vss : List (List Bool)}
theorem s_Union (h : St w (setO p bs :: L)) (hx : ∀ h, starL L h → rdS h os a l) (hv : vss.length = os.length) (ho : ∀ h, starL L h → ∀ (i : Nat) q v, os[i]? = some q → vss[i]? = some v → setR h q v ∨ (q = p ∧ v = bs))
    (ht : ∀ h, starL L h → tabA h) (hb : l ≤ 4611686018427387904) :
    Run Tryd.prog n_bits_Set_Union [.pointer p, .slice a l c] w fun v w' => v = .int .i64 ((cntB (unionB bs vss) : Int) - cntB bs) ∧ St w' (setO p (unionB bs vss) :: L) := by
  obtain ⟨h0, hl, _, h1⟩ := h.freeze
  have hx := hx h0 hl
  have ho := ho h0 hl
  have ht : tabA h0 := ht h0 hl
  have hn := h.setR.le
  have done : ∀ w', St w' (setO p (unionB bs vss) :: [has h0]) → St w' (setO p (unionB bs vss) :: L) := fun w' h => h.on1 hl
  clear h hl
  refine run_bits_Set_Union _ _ _ _ w _ ?_
  refine newC_i h1 fun b1 w1 h1 => newC_i h1 fun b2 w2 h1 => st1_i h1 (by simp) fun w3 h1 => ?_
  have cb : ∀ j, cntB (unionB bs (vss.take j)) ≤ 1024 := fun j => by
    have := cntB_le (unionB bs (vss.take j)); rw [unionB_len] at this; omega
  refine ⟨fun n1 w => ∃ j : Nat, n1 = j ∧ j ≤ l ∧ St w [cel b2 [.int .i64 ((cntB (unionB bs (vss.take j)) : Int) - cntB bs)], cel b1 [.pointer p], setO p (unionB bs (vss.take j)), has h0], fun n1 _ => l - n1.toNat,
    ⟨0, rfl, by omega, ?_⟩, ?_⟩
  · show St w3 [cel b2 [.int .i64 ((cntB bs : Int) - cntB bs)], _, _, _]
    rw [Int.sub_self]; exact h1
  rintro _ n1 w4 ⟨j, rfl, hj, hs⟩
  refine br_intro (fun hlt => ?_) fun hlt => ?_
  · have hlt : j < l := by have := of_decide_eq_true hlt; omega
    obtain ⟨q, ad, hq, rfl, hc⟩ := hx.get1 hlt
    have hs0 : sub h0 (hp w4) := (hs.pick 4 [3]).has
    refine idx_i rfl hlt ⟨q, hc _ hs0, ?_⟩
    obtain ⟨v, hvj⟩ : ∃ v, vss[j]? = some v := ⟨vss[j]'(by rw [hv, hx.1]; omega), List.getElem?_eq_getElem _⟩
    have hU := unionB_take (bs := bs) hvj
    have hlenU : (unionB bs (vss.take j)).length = bs.length := unionB_len _ _
    have cbj := cb j
    have cbj1 := cb (j + 1)
    have c0 := cntB_union (vss.take j) bs
    have c1 := cntB_add (unionB bs (vss.take j)) (mbI v)
    rw [← hU] at c1
    obtain ⟨v', hr', he'⟩ : ∃ v', setR (hp w4) q v' ∧ addB (unionB bs (vss.take j)) (mbI v') = unionB bs (vss.take (j + 1)) := by
      rcases ho j q v hq hvj with hr | ⟨rfl, rfl⟩
      · exact ⟨v, hr.mono hs0, hU.symm⟩
      · refine ⟨unionB v (vss.take j), (hs.pick 4 [2]).setR, ?_⟩
        rw [hU, addB_self fun _ h => h, addB_self fun k hk => fnB_union_sub _ _ _ hk]
    rw [← he'] at c1 cbj1
    generalize hU0 : unionB bs (vss.take j) = U at *
    refine (s_All hr').mono ?_
    rintro _ w5 ⟨b3, rfl, h5⟩
    have h6 := h5.on1 hs
    refine ⟨_, _, rfl, ifT_iff.2 ⟨rfl, ?_⟩⟩
    refine ⟨ivm (mb v'), itD b3 v'.length (fnB v'), tabA, fun i => sta [cel b2 [.int .i64 ((cntB (addB U ((mbI v').take i)) : Int) - cntB bs)], cel b1 [.pointer p], setO p (addB U ((mbI v').take i))], pu False, fun _ => pu False, [has h0], ?_, (fun h hh => rdV.mono (starL_has hh) ht), c_All_itr, ?_, ?_, ?_, ?_, trivial⟩
    · have h7 := h6.pick 5 [1, 2, 3, 0, 4]
      have e : addB U [] = U := fnB_inj (addB_len _ _) fun k => by rw [fnB_add]; simp [addS]
      show St w5 [sta [cel b2 [.int .i64 ((cntB (addB U []) : Int) - cntB bs)], _, setO p (addB U [])], _, _]
      rw [e]
      exact (St.flat.2 (show St w5 ([_, _, _] ++ [_, _]) from h7))
    · intro x hx
      obtain ⟨i, hi, rfl⟩ := List.mem_iff_getElem.1 hx
      obtain ⟨k, _, e⟩ := ivm_get (List.getElem?_eq_getElem hi)
      exact ⟨_, e⟩
    · intro i x hx L' w6 _ hs6
      obtain ⟨k, hk, e⟩ := ivm_get hx
      cases e
      refine ⟨_, hs6, fun L'' w7 _ hs7 w8 hd => ?_⟩
      have hs8 := St.flat.1 (hs7.drawn hd)
      refine ⟨fun w => w.cell? ⟨b2, 0, none⟩ = some (.int .i64 ((cntB (addB U ((mbI v').take i)) : Int) - cntB bs)) ∧ w.cell? ⟨b1, 0, none⟩ = some (.pointer p), ⟨hs8.cell 0, hs8.swap.cell 0⟩, _, fun w h => h.1, _, fun w h => h.2, ?_⟩
      refine newC_i hs8 fun b4 w9 h9 => ⟨⟨h9.swap.cell 0, h9.rot3.cell 0⟩, ?_⟩
      refine (s_Add (xs := [(k : Int)]) (l := 1) (h9.pick 4 [3, 0, 1, 2]) (fun h hh => ?_) (by omega)).mono ?_
      · obtain ⟨h1, _, _, s1, _, ⟨e, he⟩, _⟩ := hh
        exact (rdI_of (xs := [(k : Int)]) rfl (.inr ⟨_, rfl, cel_row ⟨e, he⟩⟩)).mono s1
      · rintro _ w10 ⟨rfl, h10⟩
        rw [addB_take (mbI_get hk)] at h10 ⊢
        have k1 := cntB_add U ((mbI v').take i)
        have k2 := cntB_le (addB U ((mbI v').take i))
        have k3 := cntB_le (addB U ((mbI v').take (i + 1)))
        rw [addB_len] at k2 k3
        refine ⟨_, rfl, ⟨(h10.pick 4 [2]).cell 0, (h10.pick 4 [3]).cell 0⟩, ⟨by omega, by omega⟩, ?_⟩
        refine st1_i (h10.pick 4 [2, 3, 0]) (by simp) fun w11 h11 => St.flat.2 ?_
        have e : ((cntB (addB U ((mbI v').take i)) : Int) - cntB bs + ((cntB (addB U ((mbI v').take (i + 1))) : Int) - cntB (addB U ((mbI v').take i)))) = (cntB (addB U ((mbI v').take (i + 1))) : Int) - cntB bs := by omega
        rw [e] at h11
        exact h11
    · intro w6 h6
      refine ⟨⟨by omega, by omega⟩, ⟨j + 1, by simp, by omega, ?_⟩, msr hlt⟩
      have e : (mbI v').take (ivm (mb v')).length = mbI v' := List.take_of_length_le (by rw [ivm_len, mbI_len]; exact Nat.le_refl _)
      dsimp only at h6
      rw [e, he'] at h6
      exact (show St w6 [_, _, _, _, _] from St.flat.1 h6).pick 5 [0, 1, 2, 4]
    · intro w6 h6
      exact (St.pu.1 h6).1.elim
  · have hlt : j = l := by have := of_decide_eq_false hlt; omega
    subst hlt
    rw [← hx.1, ← hv, List.take_length] at hs
    refine ⟨_, hs.cell 0, fun w5 h5 => ⟨rfl, done _ ?_⟩⟩
    exact (hs.eq h5).pick 4 [2, 3]
end
end Go.Proofs.YtcapljamcepmkaaDoor
set_option linter.unusedVariables false
namespace Go.V
theorem idx_n {a : Option Addr} {ad : Addr} {len i sz : Nat} {k : Addr → Prop} (ha : a = some ad) (hi : i < len) (hk : k (ad.add (mulS i sz))) : idx a len (i : Int) sz k :=
  ⟨ad, ha, by omega, by omega, by simpa using hk⟩
section
variable {P : Program} {w w' : World} {L : List Asn} {b : Nat} {us vs : List Value} {e e' : TypeId} {A B C D : Asn}
theorem app_one {Ty : TypeId → Option TyI} (hT : TyOk P Ty) {t tx ty : TypeId} {i : TyI} {z : Value} (hk : kdOfT Ty t = .slice e) (hkx : kdOfT Ty tx = .slice e') (hi : Ty e = some i) (hz : i.zero = some z) (hzs : (cellsOf z).length = i.size)
    {a : Option Addr} {l c : Nat} (h : St w (cel b vs :: own i.size a l c us :: L)) (hv : vs.length = i.size) (h1 : ∀ u ∈ vs, oneC u = true) (hb : (l + 1) * i.bytes ≤ 140737488355328) (h63 : l < 9223372036854775807) :
    RunS P (Builtin.append_ (Array.mk [t, tx]) ty (Array.mk [.slice a l c, .slice (some ⟨b, 0, none⟩) 1 1])) w fun v w' => ∃ a' c', v = .slice a' (l + 1) c' ∧ St w' (own i.size a' (l + 1) c' (us ++ vs) :: cel b vs :: L) := by
  refine app_own' hT hk hi hz hzs h.swap (n := 1) (news := vs) ?_ hb (by omega)
  refine src_slice hT hkx (by omega) (.inr ⟨_, rfl, fun j u hj => ?_⟩) h1
  rw [add_lit0, h.cell]; exact hj
theorem app_rd {α : Type} [Rep1 α] {Ty : TypeId → Option TyI} (hT : TyOk P Ty) {t tx ty : TypeId} {i : TyI} {z : Value} (hk : kdOfT Ty t = .slice e) (hkx : kdOfT Ty tx = .slice e') (hi : Ty e = some i) (hz : i.zero = some z) (hzs : (cellsOf z).length = i.size)
    {a a2 : Option Addr} {l c n c2 : Nat} {xs : List α} (h : St w (own i.size a l c us :: L)) (hs : i.size = 1) (hx : rdS (hp w) xs a2 n) (h1 : ∀ x : α, oneC (Rep1.val x) = true) (hb : (l + n) * i.bytes ≤ 140737488355328) (h63 : l + n ≤ 9223372036854775807) :
    RunS P (Builtin.append_ (Array.mk [t, tx]) ty (Array.mk [.slice a l c, .slice a2 n c2])) w fun v w' => ∃ a' c', v = .slice a' (l + n) c' ∧ St w' (own i.size a' (l + n) c' (us ++ xs.map Rep1.val) :: L) := by
  have hl := hx.1
  refine app_own' hT hk hi hz hzs h (n := n) (news := xs.map Rep1.val) (src_slice hT hkx (by rw [hs, List.length_map, Nat.mul_one]; exact hx.1) ?_ ?_) hb h63
  · rcases hx.row with hr | ⟨ad, rfl, hc⟩
    · left
      have : xs = [] := by simpa using hr
      subst this; simpa using hl.symm
    · exact .inr ⟨ad, rfl, fun j u hj => cellH_w (hc j u hj)⟩
  · intro u hu
    obtain ⟨x, _, rfl⟩ := List.mem_map.1 hu
    exact h1 x
end
end Go.V
set_option linter.unusedVariables false
namespace Go.V
def refO (q : Option Addr) (bs : List Bool) : Asn := ex fun x : Nat × Option Addr × Nat => sta [pu (q = some ⟨x.1, 0, none⟩ ∧ bs.length ≤ 1024), cel x.1 [.slice x.2.1 bs.length x.2.2], own 1 x.2.1 bs.length x.2.2 (bv bs)]
def refR (h : Hp) (q : Option Addr) (bs : List Bool) : Prop := ∃ b a c, q = some ⟨b, 0, none⟩ ∧ bs.length ≤ 1024 ∧ rowH h ⟨b, 0, none⟩ [.slice a bs.length c] ∧ rdS h bs a bs.length
theorem refR.mono {h h' : Hp} {p : Option Addr} {bs : List Bool} (s : sub h h') (r : refR h p bs) : refR h' p bs := by
  obtain ⟨b, a, c, h1, h0, h2, h3⟩ := r
  exact ⟨b, a, c, h1, h0, h2.mono s, h3.mono s⟩
theorem refO_open {w : World} {L : List Asn} {q : Option Addr} {bs : List Bool} : St w (refO q bs :: L) ↔ ∃ b a c, q = some ⟨b, 0, none⟩ ∧ bs.length ≤ 1024 ∧ St w (cel b [.slice a bs.length c] :: own 1 a bs.length c (bv bs) :: L) := by
  unfold refO
  rw [St.ex]
  constructor
  · rintro ⟨⟨b, a, c⟩, h⟩
    have h := St.pu.1 (St.flat.1 h)
    exact ⟨b, a, c, h.1.1, h.1.2, h.2⟩
  · rintro ⟨b, a, c, h1, h2, h⟩
    exact ⟨⟨b, a, c⟩, St.flat.2 (St.pu.2 ⟨⟨h1, h2⟩, h⟩)⟩
theorem own_rdB {w : World} {L : List Asn} {a : Option Addr} {l c : Nat} {bs : List Bool} (h : St w (own 1 a l c (bv bs) :: L)) : rdS (hp w) bs a l := by
  have hl := own_len h
  obtain ⟨h1, s, ha⟩ := h.first
  exact (rdB_of (by simpa [bv] using hl) (own_rdVh ha)).mono s
theorem St.row {w : World} {L : List Asn} {b : Nat} {vs : List Value} (h : St w (cel b vs :: L)) : rowH (hp w) ⟨b, 0, none⟩ vs := by
  obtain ⟨h1, s, ha⟩ := h.first
  exact (cel_row ha).mono s
theorem St.refR {w : World} {L : List Asn} {q : Option Addr} {bs : List Bool} (h : St w (refO q bs :: L)) : refR (hp w) q bs := by
  obtain ⟨b, a, c, h1, h2, h3⟩ := refO_open.1 h
  exact ⟨b, a, c, h1, h2, h3.row, own_rdB h3.swap⟩
theorem refO_R {h : Hp} {q : Option Addr} {bs : List Bool} (ho : refO q bs h) : V.refR h q bs := by
  obtain ⟨⟨b, a, c⟩, g1, g2, d, s1, s2, ⟨h1, h2⟩, g3, g4, d2, s3, s4, h3, g5, g6, d3, s5, s6, h4, _⟩ := ho
  have hl : (bv bs).length = bs.length * 1 := by simp [bv]
  exact ⟨b, a, c, h1, h2, (cel_row h3).mono (s3.trans s2), (rdB_of rfl (own_rdVh h4)).mono (s5.trans (s4.trans s2))⟩
theorem tmodB {c n : Int} (hc : 0 ≤ c) (hn : 0 < n) : 0 ≤ c.tmod n ∧ c.tmod n < n := by
  rw [Int.tmod_eq_emod_of_nonneg hc]
  exact ⟨Int.emod_nonneg _ (by omega), Int.emod_lt_of_pos _ hn⟩
theorem cnt_le_of {n j : Nat} (m : Nat → Bool) (h : j ≤ n) : cnt j m ≤ n := Nat.le_trans (cnt_le j m) h
theorem membs_succ (j : Nat) (m : Nat → Bool) : membs (j + 1) m = membs j m ++ if m j then [j] else [] := by
  unfold membs; rw [List.range_succ, List.filter_append]; congr 1; cases h : m j <;> simp [h]
theorem bv_set (bs : List Bool) (j : Nat) (b : Bool) : (bv bs).set j (.bool b) = bv (bs.set j b) := by simp [bv]
theorem fnB_set {bs : List Bool} {j : Nat} (h : j < bs.length) (b : Bool) (k : Nat) : fnB (bs.set j b) k = if k = j then b else fnB bs k := by
  unfold fnB
  rw [List.getD_eq_getElem?_getD, List.getElem?_set]
  by_cases e : k = j
  · subst e; simp [h]
  · rw [if_neg (fun h => e h.symm), if_neg e, List.getD_eq_getElem?_getD]
theorem addB_step {bs : List Bool} {xs : List Int} {j : Nat} {x : Nat} (h : xs[j]? = some (x : Int)) (hx : x < bs.length) : addB bs (xs.take (j + 1)) = (addB bs (xs.take j)).set x true := by
  refine fnB_inj (by simp [addB_len]) fun k => ?_
  rw [fnB_set (by rw [addB_len]; exact hx), fnB_add, fnB_add, addS_step h hx]
  by_cases e : k = x <;> simp [e]
theorem addB_skip {bs : List Bool} {xs : List Int} {j : Nat} {x : Int} (h : xs[j]? = some x) (hx : ∀ k : Nat, k < bs.length → (k : Int) = x → fnB (addB bs (xs.take j)) k = true) : addB bs (xs.take (j + 1)) = addB bs (xs.take j) := by
  refine fnB_inj (by simp [addB_len]) fun k => ?_
  rw [fnB_add, fnB_add, addS_skip h]
  intro k h1 h2
  have := hx k h1 h2
  rwa [fnB_add] at this
theorem addB_nil (bs : List Bool) : addB bs [] = bs := fnB_inj (addB_len _ _) fun k => by rw [fnB_add, addS_nil]
theorem cntB_set_true {bs : List Bool} {x : Nat} (hx : x < bs.length) (hf : fnB bs x = false) : cntB (bs.set x true) = cntB bs + 1 := by
  unfold cntB
  rw [List.length_set, ← cnt_add hx hf]
  refine cnt_congr fun k _ => ?_
  rw [fnB_set hx]
  by_cases e : k = x <;> simp [e]
end Go.V
namespace Go.Proofs.YtcapljamcepmkaaDoor
open Go.V
section
variable {w : World} {L : List Asn} {a a2 : Option Addr} {l c l2 c2 : Nat} {p q : Option Addr} {bs cs : List Bool} {xs ys : List Int} {os : List (Option Addr)} {vss : List (List Bool)}
theorem r_Ints (hx : rdS (hp w) xs a l) (hy : rdS (hp w) ys a2 l2) (hb : l ≤ 4611686018427387904) :
    Run Tryd.prog n_presageref01_Ints [.slice a l c, .slice a2 l2 c2] w fun v w' => v = .bool (decide (xs = ys)) ∧ hp w' = hp w := by
  refine run_presageref01_Ints _ _ _ _ _ _ w _ ?_
  have hl := hx.1
  have hl2 := hy.1
  refine br_intro (fun h0 => ?_) fun h0 => ?_
  · have h0 : l ≠ l2 := natNe h0
    exact ⟨by rw [decide_eq_false fun e => h0 (by rw [← hl, ← hl2, e])], rfl⟩
  · have h0 : l = l2 := natEq' h0
    subst h0
    refine ⟨fun n1 w' => ∃ j : Nat, n1 = j ∧ j ≤ l ∧ xs.take j = ys.take j ∧ hp w' = hp w, fun n1 _ => l - n1.toNat, ⟨0, rfl, by omega, by simp, rfl⟩, ?_⟩
    rintro _ n1 w1 ⟨j, rfl, hj, hpre, hw⟩
    refine br_intro (fun h1 => ?_) fun h1 => ?_
    · have h1 : j < l := by have := of_decide_eq_true h1; omega
      intro w2 hd
      have hw2 : hp w2 = hp w := (hp_drawn hd).trans hw
      obtain ⟨x, ad, hx1, rfl, hx2⟩ := hx.get1 h1
      obtain ⟨y, ad2, hy1, rfl, hy2⟩ := hy.get1 h1
      refine ⟨fun w3 => hp w3 = hp w, hw2, idx_i rfl h1 ⟨x, fun w3 h3 => hx2 _ (hp_sub h3), idx_i rfl h1 ⟨y, fun w3 h3 => hy2 _ (hp_sub h3), ?_⟩⟩⟩
      refine br_intro (fun h2 => ?_) fun h2 => ?_
      · have h2 : x ≠ y := by simpa using h2
        refine ⟨?_, hw2⟩
        rw [decide_eq_false fun e => ?_]
        subst e
        rw [hx1] at hy1; cases hy1; exact h2 rfl
      · have h2 : x = y := by simpa using h2
        subst h2
        refine ⟨⟨by omega, by omega⟩, ⟨j + 1, by simp, by omega, ?_, hw2⟩, msr h1⟩
        rw [take_succ_get hx1, take_succ_get hy1, hpre]
    · have h1 : j = l := by have := of_decide_eq_false h1; omega
      subst h1
      have e1 : xs.take j = xs := List.take_of_length_le (by omega)
      have e2 : ys.take j = ys := List.take_of_length_le (by omega)
      rw [e1, e2] at hpre
      exact ⟨by simp [hpre], hw⟩
theorem r_Members (h : refR (hp w) q bs) : Run Tryd.prog n_presageref01_Set_Members [.pointer q] w fun v w' => ∃ a c, v = .slice a (cntB bs) c ∧ St w' (own 1 a (cntB bs) c (iv (mbI bs)) :: all w) := by
  refine run_presageref01_Set_Members _ w _ ?_
  obtain ⟨b, a, c, rfl, hle, h1, h2⟩ := h
  refine ⟨fun o k1 k2 n1 w' => ∃ j : Nat, n1 = j ∧ j ≤ bs.length ∧ k1 = cnt j (fnB bs) ∧ St w' (own 1 o k1 k2 (ivn (membs j (fnB bs))) :: all w), fun _ _ _ n1 _ => bs.length - n1.toNat, ⟨0, rfl, by omega, rfl, own_nil 1 (St.all w)⟩, ?_⟩
  rintro _ o k1 k2 n1 w1 ⟨j, rfl, hj, rfl, hs⟩
  have hg := hs.gone1
  have hc := h1.cell0 hg
  refine ⟨a, bs.length, c, hc, br_intro (fun h0 => ?_) fun h0 => ?_⟩
  · have h0 : j < bs.length := by have := of_decide_eq_true h0; omega
    refine ⟨a, bs.length, c, hc, ?_⟩
    obtain ⟨x, ad, hx1, rfl, hx2⟩ := h2.get1 h0
    have hcl := cnt_le_of (fnB bs) hj
    have hs1 := cnt_succ j (fnB bs)
    have hm1 := membs_succ j (fnB bs)
    rw [fnB_get hx1] at hs1 hm1
    refine idx_i rfl h0 ⟨x, hx2 _ hg, br_intro (fun h3 => ?_) fun h3 => ?_⟩
    · subst h3
      refine newC_i hs fun b2 w2 hs2 => ?_
      refine (app_one tyOk (rfl : kdOfT Ty _ = .slice _) (rfl : kdOfT Ty _ = .slice _) rfl rfl rfl hs2 rfl (by simp [oneC]) (by show (cnt j (fnB bs) + 1) * 8 ≤ _; omega) (by omega)).mono ?_
      rintro _ w3 ⟨a', c', rfl, hs3⟩
      refine ⟨_, _, _, rfl, ⟨by omega, by omega⟩, ⟨j + 1, by simp, by omega, by rw [hs1]; simp, ?_⟩, msr h0⟩
      have e : ivn (membs (j + 1) (fnB bs)) = ivn (membs j (fnB bs)) ++ [.int .i64 (j : Int)] := by rw [hm1]; simp [ivn]
      rw [e]
      exact hs3.pick 3 [0, 2]
    · subst h3
      refine ⟨⟨by omega, by omega⟩, ⟨j + 1, by simp, by omega, by rw [hs1]; simp, ?_⟩, msr h0⟩
      rw [hm1]
      simpa using hs
  · have h0 : j = bs.length := by have := of_decide_eq_false h0; omega
    subst h0
    rw [iv_mbI]
    exact ⟨o, k2, rfl, hs⟩
theorem r_Add (h : St w (refO q bs :: L)) (hx : ∀ h, starL L h → rdS h xs a l) (hb : l ≤ 4611686018427387904) :
    Run Tryd.prog n_presageref01_Set_Add [.pointer q, .slice a l c] w fun v w' => v = .int .i64 ((cntB (addB bs xs) : Int) - cntB bs) ∧ St w' (refO q (addB bs xs) :: L) := by
  obtain ⟨h0, hl, _, h1⟩ := h.freeze
  have hx := hx h0 hl
  have done : ∀ w' bs, St w' (refO q bs :: [has h0]) → St w' (refO q bs :: L) := fun w' _ h => h.on1 hl
  clear h hl
  refine run_presageref01_Set_Add _ _ _ _ w _ ?_
  refine ⟨fun n1 n2 w => ∃ j : Nat, n2 = j ∧ j ≤ l ∧ n1 = (cntB (addB bs (xs.take j)) : Int) - cntB bs ∧ St w [refO q (addB bs (xs.take j)), has h0],
    fun _ n2 _ => l - n2.toNat, ⟨0, rfl, by omega, by simp [addB_nil], by simpa [addB_nil] using h1⟩, ?_⟩
  rintro _ n1 n2 w1 ⟨j, rfl, hj, hn1, hs⟩
  refine br_intro (fun hlt => ?_) fun hlt => ?_
  · have hlt : j < l := by have := of_decide_eq_true hlt; omega
    have hg := hs.gone1
    obtain ⟨x, ad, hx1, rfl, hx2⟩ := hx.get1 hlt
    have mI : inI ((j : Int) + 1) := ⟨by omega, by omega⟩
    obtain ⟨b2, a2, c2, rfl, hle, hs2⟩ := refO_open.1 hs
    have hlen := addB_len bs (xs.take j)
    have hcl := cntB_le (addB bs (xs.take j))
    have hcl0 := cntB_le bs
    have hc2 := hs2.cell 0
    have skip : (∀ k : Nat, k < bs.length → (k : Int) = x → fnB (addB bs (xs.take j)) k = true) → inI ((j : Int) + 1) ∧
        (∃ j' : Nat, (j : Int) + 1 = j' ∧ j' ≤ l ∧ n1 = (cntB (addB bs (xs.take j')) : Int) - cntB bs ∧ St w1 [refO (some ⟨b2, 0, none⟩) (addB bs (xs.take j')), has h0]) ∧ l - ((j : Int) + 1).toNat < l - (j : Int).toNat := by
      intro hx'
      refine ⟨mI, ⟨j + 1, by simp, by omega, ?_, ?_⟩, msr hlt⟩
      · rw [addB_skip hx1 hx']; exact hn1
      · rw [addB_skip hx1 hx']; exact hs
    refine idx_i rfl hlt ⟨x, hx2 _ hg, br_intro (fun h3 => ?_) fun h3 => ?_⟩
    · have h3 := of_decide_eq_true h3
      obtain ⟨x, rfl⟩ := Int.eq_ofNat_of_zero_le h3
      refine ⟨a2, _, c2, hc2, br_intro (fun h4 => ?_) fun h4 => ?_⟩
      · have h4 : x < (addB bs (xs.take j)).length := by have := of_decide_eq_true h4; omega
        refine ⟨a2, _, c2, hc2, ?_⟩
        obtain ⟨y, ad2, hy1, rfl, hy2⟩ := (own_rdB hs2.swap).get1 h4
        refine idx_i rfl h4 ⟨y, hy2 _ (sub.refl _), br_intro (fun h5 => ?_) fun h5 => ?_⟩
        · refine ⟨_, _, c2, hc2, idx_i rfl h4 ?_⟩
          refine own_st1 hs2.swap rfl (by rw [bv_len]; exact h4) fun w2 hs3 => ?_
          rw [bv_set] at hs3
          have hf : fnB (addB bs (xs.take j)) x = false := by rw [fnB_get hy1]; simpa using h5
          have hst := addB_step hx1 (by omega : x < bs.length)
          have hcs := cntB_set_true h4 hf
          rw [← hst] at hs3 hcs
          refine ⟨⟨by omega, by omega⟩, mI, ⟨j + 1, by simp, by omega, by omega, ?_⟩, msr hlt⟩
          have hlen' := addB_len bs (xs.take (j + 1))
          refine refO_open.2 ⟨b2, some ad2, c2, rfl, by omega, ?_⟩
          rw [hlen] at hs3
          rw [hlen']
          exact hs3.swap
        · refine skip fun k hk he => ?_
          have : k = x := by omega
          subst this
          rw [fnB_get hy1]; simpa using h5
      · refine skip fun k hk he => ?_
        have := of_decide_eq_false h4; omega
    · refine skip fun k hk he => ?_
      have := of_decide_eq_false h3; omega
  · have hlt : j = l := by have := of_decide_eq_false hlt; omega
    subst hlt
    rw [← hx.1, List.take_length] at hs hn1
    exact ⟨by rw [hn1], done _ _ hs⟩
theorem r_Of (size : Int) (hx : rdS (hp w) xs a l) (hb : l ≤ 4611686018427387904) :
    Run Tryd.prog n_presageref01_Of [.int .i64 size, .slice a l c] w fun v w' => ∃ b, v = .pointer (some ⟨b, 0, none⟩) ∧ St w' (refO (some ⟨b, 0, none⟩) (ofB size xs) :: all w) := by
  refine run_presageref01_Of _ _ _ _ w _ ?_
  unfold vc_presageref01_Of
  rw [ofN_eq]
  have hle := ofN_le size
  unfold ofB
  generalize ofN size = N at *
  refine ⟨⟨by omega, rfl, by omega⟩, ?_⟩
  rw [Int.toNat_natCast, reps_one]
  refine newC_i (St.all w) fun b1 w1 h1 => newC_i h1 fun b2 w2 h2 => ?_
  have hg : sub (hp w) (hp w2) := h2.gone2
  have h3 : St w2 (refO (some ⟨b2, 0, none⟩) (List.replicate N false) :: all w) := by
    refine refO_open.2 ⟨b2, some ⟨b1, 0, none⟩, N, rfl, by simpa using hle, ?_⟩
    rw [List.length_replicate]
    refine St.swap (own_some (cs := []) ?_ ?_ ?_ (Nat.le_refl _))
    · rw [List.append_nil]
      have : bv (List.replicate N false) = List.replicate N (.bool false) := by simp [bv]
      rw [this]; exact h2.swap
    · simp [bv]
    · simp [bv]
  refine (r_Add h3 (fun h hh => hx.mono (starL_has hh)) hb).mono ?_
  rintro _ w3 ⟨rfl, h4⟩
  exact ⟨_, rfl, b2, rfl, h4⟩
end
end Go.Proofs.YtcapljamcepmkaaDoor
set_option linter.unusedVariables false
namespace Go.Proofs.YtcapljamcepmkaaDoor
open Go.V
section
variable {w : World} {L : List Asn} {a a2 : Option Addr} {l c l2 c2 : Nat} {p q : Option Addr} {bs cs : List Bool} {xs ys : List Int} {os : List (Option Addr)} {vss : List (List Bool)}
end
end Go.Proofs.YtcapljamcepmkaaDoor
set_option linter.unusedVariables false
namespace Go.V
theorem cel_rd1 {α : Type} [Rep1 α] {h : Hp} {b : Nat} (xs : List α) (hc : cel b (xs.map Rep1.val) h) : rdS h xs (some ⟨b, 0, none⟩) xs.length :=
  rdS_of_row rfl (.inr ⟨_, rfl, cel_row hc⟩)
end Go.V
namespace Go.Proofs.YtcapljamcepmkaaDoor
open Go.V
section
variable {w : World} {L : List Asn} {a a2 : Option Addr} {l c l2 c2 : Nat} {p q : Option Addr} {bs cs : List Bool} {xs ys : List Int} {os : List (Option Addr)} {vss : List (List Bool)}
end
end Go.Proofs.YtcapljamcepmkaaDoor
set_option linter.unusedVariables false
namespace Go.V
theorem starL_nth {L : List Asn} : ∀ {h : Hp} (i : Nat), i < L.length → starL L h → ∃ h1, sub h1 h ∧ nthA L i h1 := by
  induction L with
  | nil => intro h i hi; simp at hi
  | cons A L ih =>
    rintro h i hi ⟨h1, h2, d, s1, s2, ha, hl⟩
    cases i with
    | zero => exact ⟨h1, s1, ha⟩
    | succ i =>
      obtain ⟨h3, s3, h4⟩ := ih i (by simpa using hi) hl
      exact ⟨h3, s3.trans s2, h4⟩
def lenA : List Asn → Nat
  | [] => 0
  | _ :: L => lenA L + 1
theorem lenA_eq : ∀ L, lenA L = L.length
  | [] => rfl
  | _ :: L => by simp [lenA, lenA_eq L]
theorem rdO {L : List Asn} {h : Hp} {q : Option Addr} {v : List Bool} (i : Nat) (hl : starL L h) (e : nthA L i = setO q v := by rfl) (hi : Nat.blt i (lenA L) = true := by rfl) : setR h q v := by
  obtain ⟨h1, s, ha⟩ := starL_nth i (by simpa [lenA_eq] using hi) hl
  rw [e] at ha
  exact (setO_R ha).mono s
theorem rdH {L : List Asn} {h h0 : Hp} (i : Nat) (hl : starL L h) (e : nthA L i = has h0 := by rfl) (hi : Nat.blt i (lenA L) = true := by rfl) : sub h0 h := by
  obtain ⟨h1, s, ha⟩ := starL_nth i (by simpa [lenA_eq] using hi) hl
  rw [e] at ha
  exact sub.trans ha s
theorem rdC {α : Type} [Rep1 α] {L : List Asn} {h : Hp} {b : Nat} (xs : List α) (i : Nat) (hl : starL L h) (e : nthA L i = cel b (xs.map Rep1.val) := by rfl) (hi : Nat.blt i (lenA L) = true := by rfl) : rdS h xs (some ⟨b, 0, none⟩) xs.length := by
  obtain ⟨h1, s, ha⟩ := starL_nth i (by simpa [lenA_eq] using hi) hl
  rw [e] at ha
  exact (cel_rd1 xs ha).mono s
theorem St.l {w : World} {L : List Asn} (h : St w L) : starL L (hp w) := h
inductive All2 {α β : Type} (P : α → β → Prop) : List α → List β → Prop where
  | nil : All2 P [] []
  | cons {x : α} {y : β} {l : List α} {m : List β} : P x y → All2 P l m → All2 P (x :: l) (y :: m)
theorem fnB_lt {bs : List Bool} {k : Nat} (h : fnB bs k = true) : k < bs.length := Nat.lt_of_not_le fun hl => by rw [fnB_out hl] at h; cases h
section
variable {A B C : List Bool} {N : Nat} (hA : A.length = N) (hB : B.length = N) (hC : C.length = N)
include hA hB hC
end
end Go.V
namespace Go.Proofs.YtcapljamcepmkaaDoor
open Go.V
section
variable {w : World} {L : List Asn} {a a2 a3 : Option Addr} {l c l2 c2 l3 c3 : Nat} {p q : Option Addr} {bs cs : List Bool} {xs ys zs : List Int} {os : List (Option Addr)} {vss : List (List Bool)}
end
end Go.Proofs.YtcapljamcepmkaaDoor
set_option linter.unusedVariables false
namespace Go.V
theorem rdR {L : List Asn} {h : Hp} {q : Option Addr} {v : List Bool} (i : Nat) (hl : starL L h) (e : nthA L i = refO q v := by rfl) (hi : Nat.blt i (lenA L) = true := by rfl) : refR h q v := by
  obtain ⟨h1, s, ha⟩ := starL_nth i (by simpa [lenA_eq] using hi) hl
  rw [e] at ha
  exact (refO_R ha).mono s
end Go.V
namespace Go.Proofs.YtcapljamcepmkaaDoor
open Go.V
section
variable {w : World} {L : List Asn} {a a2 a3 : Option Addr} {l c l2 c2 l3 c3 : Nat} {p q : Option Addr} {bs cs : List Bool} {xs ys zs : List Int} {os : List (Option Addr)} {vss : List (List Bool)}
end
end Go.Proofs.YtcapljamcepmkaaDoor
set_option linter.unusedVariables false
namespace Go.V
theorem perm_erase {M : List Asn} : ∀ {i : Nat} {A : Asn}, M[i]? = some A → M.Perm (A :: M.eraseIdx i) := by
  induction M with
  | nil => intro i A h; simp at h
  | cons B M ih =>
    intro i A h
    cases i with
    | zero => simp at h; subst h; exact List.Perm.refl _
    | succ i => exact (List.Perm.cons B (ih (by simpa using h))).trans (List.Perm.swap _ _ _)
theorem perm_set {M : List Asn} {B : Asn} : ∀ {i : Nat} {A : Asn}, M[i]? = some A → (M.set i B).Perm (B :: M.eraseIdx i) := by
  induction M with
  | nil => intro i A h; simp at h
  | cons C M ih =>
    intro i A h
    cases i with
    | zero => exact List.Perm.refl _
    | succ i => exact (List.Perm.cons C (ih (A := A) (by simpa using h))).trans (List.Perm.swap _ _ _)
section
variable {w : World} {L M : List Asn} {A B : Asn} {i : Nat}
theorem St.out (h : St w (sta M :: L)) (hi : M[i]? = some A) : St w (A :: sta (M.eraseIdx i) :: L) := by
  have h1 : St w (M.eraseIdx i ++ A :: L) := (St.flat.1 h).perm (((perm_erase hi).append_right L).trans List.perm_middle.symm)
  exact (St.flat.2 h1).swap
theorem St.back (h : St w (B :: sta (M.eraseIdx i) :: L)) (hi : M[i]? = some A) : St w (sta (M.set i B) :: L) := by
  have h1 := St.flat.1 h.swap
  exact St.flat.2 (h1.perm (List.perm_middle.trans ((perm_set hi).symm.append_right L)))
theorem St.snoc (h : St w (A :: sta M :: L)) : St w (sta (M ++ [A]) :: L) := by
  have h1 := St.flat.1 h.swap
  exact St.flat.2 (by rw [List.append_assoc]; exact h1)
theorem sta_nth {h : Hp} (hs : starL (sta M :: L) h) (hi : A ∈ M) : ∃ h1, sub h1 h ∧ A h1 := by
  obtain ⟨h1, h2, d, s1, s2, ha, hl⟩ := hs
  obtain ⟨h3, s3, h4⟩ := starL_in hi ha
  exact ⟨h3, s3.trans s1, h4⟩
theorem St.merge {C : Asn} (h : St w (A :: B :: L)) (hm : ∀ h h1 h2, sub h1 h → sub h2 h → A h1 → B h2 → C h) : St w (C :: L) := by
  obtain ⟨h1, h2, d, s1, s2, ha, h3, h4, d', s3, s4, hb, hl⟩ := h
  have d13 : dis h1 h3 := d.sub (sub.refl _) s3
  refine ⟨uni h1 h3, h4, dis_uni (d.sub (sub.refl _) s4) d', uni_sub s1 (s3.trans s2), s4.trans s2, hm _ h1 h3 (sub_uni_l _ _) (sub_uni_r d13) ha hb, hl⟩
end
end Go.V
namespace Go.Proofs.YtcapljamcepmkaaDoor
open Go.V
section
variable {w : World} {L : List Asn} {a a2 a3 : Option Addr} {l c l2 c2 l3 c3 n : Nat} {p q : Option Addr} {bs cs : List Bool} {xs ys zs : List Int} {os : List (Option Addr)} {vss : List (List Bool)} {ps qs : List Nat}
end
end Go.Proofs.YtcapljamcepmkaaDoor
set_option linter.unusedVariables false
namespace Go.V
theorem rdCel {L : List Asn} {h : Hp} {b : Nat} {vs : List Value} (i : Nat) (hl : starL L h) (e : nthA L i = cel b vs := by rfl) (hi : Nat.blt i (lenA L) = true := by rfl) : rowH h ⟨b, 0, none⟩ vs := by
  obtain ⟨h1, s, ha⟩ := starL_nth i (by simpa [lenA_eq] using hi) hl
  rw [e] at ha
  exact (cel_row ha).mono s
end Go.V
namespace Go.Proofs.YtcapljamcepmkaaDoor
open Go.V
section
variable {w : World} {L : List Asn} {a a2 a3 : Option Addr} {l c l2 c2 l3 c3 n : Nat} {p q : Option Addr} {bs cs : List Bool} {xs ys zs : List Int} {os : List (Option Addr)} {vss : List (List Bool)} {ps qs : List Nat}
end
end Go.Proofs.YtcapljamcepmkaaDoor
set_option linter.unusedVariables false
namespace Go.V
open MapKept
class MKey (κ : Type) [DecidableEq κ] where
  kd : TypeDesc
  val : κ → Value
  now : ∀ a b : κ, Instr.sameNow kd (val a) (val b) = some (decide (a = b))
  key : ∀ a, IsKey kd (val a)
  bits : ∀ a, Instr.sameBits 10000 (val a) (val a) = true
instance : MKey Int := { kd := .int .i64, val := fun x => .int .i64 x, now := fun a b => by simp [Instr.sameNow]; rfl, key := fun _ => rfl, bits := fun a => by simp [Instr.sameBits] }
instance : MKey ByteArray := { kd := .string, val := fun x => .string x, now := fun a b => by simp only [Instr.sameNow, Option.some.injEq]; rw [Bool.eq_iff_iff, decide_eq_true_eq]; exact bytes_beq a b, key := fun _ => trivial, bits := fun a => by simp only [Instr.sameBits]; exact (bytes_beq a a).2 rfl }
section
variable {κ : Type} [DecidableEq κ] {P : Program} {w : World} {L : List Asn}
def assoc (k : κ) : List (κ × Value) → Option Value
  | [] => none
  | (a, v) :: m => if k = a then some v else assoc k m
def aput (k : κ) (v : Value) : List (κ × Value) → List (κ × Value)
  | [] => [(k, v)]
  | (a, u) :: m => if k = a then (k, v) :: m else (a, u) :: aput k v m
theorem assoc_put (k a : κ) (v : Value) : ∀ m, assoc a (aput k v m) = if a = k then some v else assoc a m
  | [] => by simp [aput, assoc]
  | (b, u) :: m => by
    unfold aput
    by_cases h : k = b
    · subst h
      by_cases ha : a = k
      · simp [assoc, ha]
      · simp [assoc, ha]
    · rw [if_neg h]
      by_cases hab : a = b
      · subst hab
        simp [assoc, Ne.symm h]
      · simp [assoc, hab, assoc_put k a v m]
variable [MKey κ]
def mapA (b : Nat) (m : List (κ × Value)) : Asn := fun h => ∃ es clock, h b = some (.map es clock) ∧ es.toList.map (fun e => (e.key, e.val)) = m.map fun x => (MKey.val x.1, x.2)
theorem mapA_ex {b : Nat} {m : List (κ × Value)} : St w (mapA b m :: L) ↔ ∃ es clock, es.toList.map (fun e => (e.key, e.val)) = m.map (fun x => (MKey.val x.1, x.2)) ∧ St w (blk b (.map es clock) :: L) :=
  ⟨fun ⟨h1, h2, d, s1, s2, ⟨es, cl, ha, he⟩, hl⟩ => ⟨es, cl, he, h1, h2, d, s1, s2, ha, hl⟩, fun ⟨es, cl, he, h1, h2, d, s1, s2, ha, hl⟩ => ⟨h1, h2, d, s1, s2, ⟨es, cl, ha, he⟩, hl⟩⟩
theorem mapA_new {b : Nat} (h : St w (blk b (.map #[] 0) :: L)) : St w (mapA b ([] : List (κ × Value)) :: L) := mapA_ex.2 ⟨_, _, rfl, h⟩
theorem findNow_eq (k : κ) : ∀ (es : List MapEntry) (m : List (κ × Value)) (i : Nat), es.map (fun e => (e.key, e.val)) = m.map (fun x => (MKey.val x.1, x.2)) →
    ∃ r, Instr.findNow (MKey.kd κ) (MKey.val k) es i = some r ∧ (r.map (·.2)) = assoc k m ∧ (∀ j v, r = some (j, v) → i ≤ j ∧ j < i + m.length ∧ (m[j - i]?).map (·.1) = some k ∧ ∀ u, aput k u m = m.set (j - i) (k, u)) ∧ (r = none → ∀ u, aput k u m = m ++ [(k, u)])
  | [], [], i, _ => ⟨none, rfl, rfl, fun j v h => (by cases h), fun _ u => rfl⟩
  | [], _ :: _, i, h => by simp at h
  | _ :: _, [], i, h => by simp at h
  | e :: es, (a, v) :: m, i, h => by
    simp only [List.map_cons, List.cons.injEq, Prod.mk.injEq] at h
    obtain ⟨⟨h1, h2⟩, h3⟩ := h
    unfold Instr.findNow
    rw [h1, MKey.now]
    by_cases hk : k = a
    · subst hk
      refine ⟨some (i, e.val), by simp, by simp [assoc, h2], fun j u hj => ?_, fun hn => by cases hn⟩
      cases hj
      simp [aput]
    · obtain ⟨r, q1, q2, q3, q4⟩ := findNow_eq k es m (i + 1) h3
      refine ⟨r, by simp [hk, q1], by simp [assoc, hk, q2], fun j u hj => ?_, fun hn u => by simp [aput, hk, q4 hn u]⟩
      obtain ⟨p1, p2, p3, p4⟩ := q3 j u hj
      have e1 : j - i = (j - (i + 1)) + 1 := by omega
      refine ⟨by omega, by simp; omega, by rw [e1]; simpa using p3, fun u => by rw [e1]; simp [aput, hk, p4 u]⟩
variable {Ty : TypeId → Option TyI}
theorem kd_map' {d : TypeDesc} {k e : TypeId} (h : Kd.map k e = kdOf d) : d = .map k e := by cases d <;> simp [kdOf] at h; obtain ⟨rfl, rfl⟩ := h; rfl
theorem map_lookup (hT : TyOk P Ty) {t kt et : TypeId} {i : TyI} {z : Value} (hk : kdOfT Ty t = .map kt et) (hkt : P.underlying kt = some (MKey.kd κ)) (hi : Ty et = some i) (hz : i.zero = some z) {b : Nat} {m : List (κ × Value)} (h : St w (mapA b m :: L)) (k : κ) :
    RunS P (Instr.lookup t (.map (some b)) (MKey.val k) false) w fun v w' => v = (assoc k m).getD z ∧ w' = w := by
  obtain ⟨d, hd, hd'⟩ := undOf hT hk (by simp)
  rw [kd_map' hd'] at hd
  obtain ⟨es, cl, he, h⟩ := mapA_ex.1 h
  obtain ⟨r, q1, q2, _, _⟩ := findNow_eq k es.toList m 0 he
  have hf := run_findKey (P := P) (w := w) hkt q1
  obtain ⟨info, d2, ha⟩ := tyAt hT hi
  have hzz : (zeroValue et).run P w = .ok z w := run_zero ha.inf (by rw [← ha.zero, hz])
  refine ⟨_, w, ?_, Ev.refl w, rfl, rfl⟩
  have hg := h.get
  have hc := fun e => run_checkKey (P := P) (w := w) hkt (MKey.key k) e 9999
  unfold Instr.lookup
  simp only [Sem.run_bind, run_und hd, Result.andThen_ok, run_getObj_map w b es cl hg, Sem.run_pure, hc, hf]
  rw [← q2]
  cases r with
  | none => simp [Sem.run_bind, hzz]
  | some x => simp
theorem map_update (hT : TyOk P Ty) {t kt et : TypeId} (hk : kdOfT Ty t = .map kt et) (hkt : P.underlying kt = some (MKey.kd κ)) {b : Nat} {m : List (κ × Value)} (h : St w (mapA b m :: L)) (k : κ) (v : Value) :
    RunS P (Instr.mapUpdate t (.map (some b)) (MKey.val k) v) w fun _ w' => St w' (mapA b (aput k v m) :: L) := by
  obtain ⟨d, hd, hd'⟩ := undOf hT hk (by simp)
  rw [kd_map' hd'] at hd
  obtain ⟨es, cl, he, h⟩ := mapA_ex.1 h
  obtain ⟨r, q1, q2, q3, q4⟩ := findNow_eq k es.toList m 0 he
  have hf := run_findKey (P := P) (w := w) hkt q1
  have hg := h.get
  have hc := fun e => run_checkKey (P := P) (w := w) hkt (MKey.key k) e 9999
  have hlen : es.size = m.length := by have := congrArg List.length he; simpa using this
  have ev : ∀ o : Array MapEntry × Nat, Ev w { w with heap := w.heap.setIfInBounds b (.map o.1 o.2) } := fun o => by
    refine ⟨rfl, rfl, rfl, by simp, ?_, ?_⟩ <;>
    · intro x d hx
      rw [Array.getElem?_setIfInBounds_ne]; exact hx
      intro e; subst e; rw [hg] at hx; cases hx
  cases r with
  | none =>
    refine ⟨(), _, ?_, ev (es.push { key := MKey.val k, val := v, born := cl }, cl + 1), mapA_ex.2 ⟨_, _, ?_, h.setObj _⟩⟩
    · unfold Instr.mapUpdate
      simp only [Sem.run_bind, run_und hd, Result.andThen_ok, run_getObj_map w b es cl hg, hc, hf]
      exact run_setObj_map _ hg
    · rw [q4 rfl v]; simp [he]
  | some x =>
    obtain ⟨j, u⟩ := x
    obtain ⟨_, p2, p3, p4⟩ := q3 j u rfl
    rw [Nat.sub_zero] at p3 p4
    have hj : j < es.size := by omega
    have hkey : ((es[j]?).map (·.key)).getD (MKey.val k) = MKey.val k := by
      have h1 := congrArg (fun l => l[j]?) he
      simp only [List.getElem?_map] at h1
      cases hm : m[j]? with
      | none => rw [hm] at p3; cases p3
      | some y =>
        rw [hm] at p3 h1
        simp only [Option.map_some, Option.some.injEq] at p3
        have hjl : j < es.toList.length := by simpa using hj
        rw [List.getElem?_eq_getElem hjl] at h1
        simp only [Option.map_some, Option.some.injEq, Prod.mk.injEq] at h1
        simp [hj]
        have := h1.1
        rw [p3] at this
        simpa using this
    refine ⟨(), _, ?_, ev (es.modify j fun e => { e with key := MKey.val k, val := v }, cl), mapA_ex.2 ⟨_, _, ?_, h.setObj _⟩⟩
    · unfold Instr.mapUpdate
      simp only [Sem.run_bind, run_und hd, Result.andThen_ok, run_getObj_map w b es cl hg, hc, hf, hkey, Instr.keyThatStays, MKey.bits, if_true, Sem.run_pure]
      exact run_setObj_map _ hg
    · rw [p4 v]
      apply List.ext_getElem?
      intro i
      have h1 := congrArg (fun l => l[i]?) he
      simp only [List.getElem?_map, Array.getElem?_toList] at h1
      simp only [List.getElem?_map, Array.getElem?_toList, Array.getElem?_modify, List.getElem?_set]
      by_cases hij : j = i
      · subst hij
        simp [hj, p2]
        omega
      · simp [hij, h1]
end
end Go.V
set_option linter.unusedVariables false
namespace Go.V
instance instRepList1 {α : Type} [Rep α] : Rep (List α) := inferInstance
end Go.V
namespace Go.Proofs.YtcapljamcepmkaaDoor
open Go.V
section
variable {w : World} {L : List Asn} {a : Option Addr} {l c : Nat} {s : ByteArray} {ss : List ByteArray} {xs : List Int}
end
end Go.Proofs.YtcapljamcepmkaaDoor
namespace Go.Proofs.YtcapljamcepmkaaDoor
abbrev und_int := @Tryd.underlying3
end Go.Proofs.YtcapljamcepmkaaDoor
set_option linter.unusedVariables false
namespace Go.V
structure TermT where
  name : ByteArray
  level : Int
structure ProdT where
  left : Int
  right : List Int
  level : Int
structure GramT where
  terms : List TermT
  nons : List ByteArray
  levels : List Int
  start : Int
  prods : List ProdT
instance : Rep TermT := { n := 2, rd := fun _ t vs => vs = [.string t.name, .int .i64 t.level], mono := fun _ h => h, len := fun h => by rw [h]; rfl }
instance : Rep ProdT := { n := 3, rd := fun h p vs => ∃ a l c, vs = [.int .i64 p.left, .slice a l c, .int .i64 p.level] ∧ l ≤ c ∧ rdS h p.right a l, mono := fun s ⟨a, l, c, h1, h2, h3⟩ => ⟨a, l, c, h1, h2, h3.mono s⟩, len := fun ⟨_, _, _, h, _⟩ => by rw [h]; rfl }
structure GA where
  ta : Option Addr
  tl : Nat
  tc : Nat
  na : Option Addr
  nl : Nat
  nc : Nat
  la : Option Addr
  ll : Nat
  lc : Nat
  s : Int
  pa : Option Addr
  pl : Nat
  pc : Nat
def GA.cells (x : GA) : List Value := [.slice x.ta x.tl x.tc, .slice x.na x.nl x.nc, .slice x.la x.ll x.lc, .int .i64 x.s, .slice x.pa x.pl x.pc]
structure gR (h : Hp) (g : GramT) (x : GA) : Prop where
  t : rdS h g.terms x.ta x.tl
  n : rdS h g.nons x.na x.nl
  l : rdS h g.levels x.la x.ll
  s : x.s = g.start
  p : rdS h g.prods x.pa x.pl
  tc : x.tl ≤ x.tc
  nc : x.nl ≤ x.nc
  lc : x.ll ≤ x.lc
  pc : x.pl ≤ x.pc
theorem gR.mono {h h' : Hp} {g : GramT} {x : GA} (s : sub h h') (r : gR h g x) : gR h' g x := ⟨r.t.mono s, r.n.mono s, r.l.mono s, r.s, r.p.mono s, r.tc, r.nc, r.lc, r.pc⟩
instance : Rep GramT := { n := 5, rd := fun h g vs => ∃ x : GA, vs = x.cells ∧ gR h g x, mono := fun s ⟨x, h1, h2⟩ => ⟨x, h1, h2.mono s⟩, len := fun ⟨_, h, _⟩ => by rw [h]; rfl }
theorem slc_from {a : Option Addr} {len cap lo sz : Nat} {k : Option Addr → Nat → Nat → Prop} (h1 : lo ≤ len) (h2 : len ≤ cap) (hk : k (slP a lo cap sz) (len - lo) (cap - lo)) : slc a len cap (some (lo : Int)) none none sz k :=
  ⟨.inl rfl, .inl rfl, ⟨by show (0 : Int) ≤ (lo : Int); omega, by show (lo : Int) ≤ (len : Int); omega⟩, by simpa using hk⟩
end Go.V
namespace Go.Proofs.YtcapljamcepmkaaDoor
open Go.V
section
variable {w : World} {L : List Asn} {g : GramT} {x : GA}
end
end Go.Proofs.YtcapljamcepmkaaDoor
set_option linter.unusedVariables false
namespace Go.V
end Go.V
namespace Go.Proofs.YtcapljamcepmkaaDoor
open Go.V
section
variable {w : World} {L : List Asn} {g : GramT} {x : GA}
end
end Go.Proofs.YtcapljamcepmkaaDoor
set_option linter.unusedVariables false
namespace Go.V
def GramT.T (g : GramT) : Nat := g.terms.length
def GramT.N (g : GramT) : Nat := g.nons.length
end Go.V
namespace Go.Proofs.YtcapljamcepmkaaDoor
open Go.V
section
variable {w : World} {L : List Asn} {g : GramT} {x : GA}
end
end Go.Proofs.YtcapljamcepmkaaDoor
set_option linter.unusedVariables false
namespace Go.V
structure GB (H : Hp) (k : Nat) (x : GA) : Prop where
  c0 : ∀ {w : World}, sub H (hp w) → w.cell? ⟨k, 0, none⟩ = some (.slice x.ta x.tl x.tc)
  c1 : ∀ {w : World}, sub H (hp w) → w.cell? ((⟨k, 0, none⟩ : Addr).add 1) = some (.slice x.na x.nl x.nc)
  c2 : ∀ {w : World}, sub H (hp w) → w.cell? ((⟨k, 0, none⟩ : Addr).add 2) = some (.slice x.la x.ll x.lc)
  c3 : ∀ {w : World}, sub H (hp w) → w.cell? ((⟨k, 0, none⟩ : Addr).add 3) = some (.int .i64 x.s)
  c4 : ∀ {w : World}, sub H (hp w) → w.cell? ((⟨k, 0, none⟩ : Addr).add 4) = some (.slice x.pa x.pl x.pc)
  row : ∀ {w : World}, sub H (hp w) → rowAt w ⟨k, 0, none⟩ 0 5 = some x.cells
theorem nodup_le : ∀ {l m : List Int}, l.Nodup → (∀ x ∈ l, x ∈ m) → l.length ≤ m.length
  | [], m, _, _ => Nat.zero_le _
  | a :: l, m, h, hs => by
    rw [List.nodup_cons] at h
    have ham := hs a (by simp)
    have := nodup_le (l := l) (m := m.erase a) h.2 fun x hx => (List.mem_erase_of_ne (fun e => h.1 (by subst e; exact hx))).2 (hs x (by simp [hx]))
    rw [List.length_erase_of_mem ham] at this
    have := List.length_pos_of_mem ham
    simp only [List.length_cons]; omega
end Go.V
namespace Go.Proofs.YtcapljamcepmkaaDoor
open Go.V
section
variable {w : World} {L : List Asn} {g : GramT} {x : GA} {s : ByteArray}
end
end Go.Proofs.YtcapljamcepmkaaDoor
set_option linter.unusedVariables false
namespace Go.V
end Go.V
namespace Go.Proofs.YtcapljamcepmkaaDoor
open Go.V
section
variable {w : World} {L : List Asn} {g : GramT} {x : GA} {s : ByteArray}
end
end Go.Proofs.YtcapljamcepmkaaDoor
set_option linter.unusedVariables false
namespace Go.V
theorem Gr.drawn {w w' : World} (h : V.drawn w w') : Gr w w' := Gr.of_eq (hp_drawn h)
end Go.V
namespace Go.Proofs.YtcapljamcepmkaaDoor
open Go.V
section
variable {w : World} {L : List Asn} {g : GramT} {x : GA} {s : ByteArray}
end
end Go.Proofs.YtcapljamcepmkaaDoor
set_option linter.unusedVariables false
namespace Go.V
end Go.V
namespace Go.Proofs.YtcapljamcepmkaaDoor
open Go.V
section
variable {w : World} {L : List Asn} {g : GramT} {x : GA} {s : ByteArray}
end
end Go.Proofs.YtcapljamcepmkaaDoor
set_option linter.unusedVariables false
namespace Go.Proofs.YtcapljamcepmkaaDoor
open Go.V
end Go.Proofs.YtcapljamcepmkaaDoor
set_option linter.unusedVariables false
namespace Go.V
def rowB (nl : List Bool) (vs : List (List Bool)) : List Bool → List Int → List Bool
  | bs, [] => bs
  | bs, s :: r => if fnB nl s.toNat then rowB nl vs (addB bs (mbI (vs.getD s.toNat []))) r else addB bs (mbI (vs.getD s.toNat []))
def rowN (nl : List Bool) (row : List Int) : Bool := row.all fun s => fnB nl s.toNat
theorem rowB_nil (nl : List Bool) (vs : List (List Bool)) (bs : List Bool) : rowB nl vs bs [] = bs := rfl
theorem rowB_cons (nl : List Bool) (vs : List (List Bool)) (bs : List Bool) (s : Int) (r : List Int) : rowB nl vs bs (s :: r) = if fnB nl s.toNat then rowB nl vs (addB bs (mbI (vs.getD s.toNat []))) r else addB bs (mbI (vs.getD s.toNat [])) := rfl
end Go.V
namespace Go.Proofs.YtcapljamcepmkaaDoor
open Go.V
section
variable {w : World} {L : List Asn} {a an ao : Option Addr} {l c nl cn ol co ks : Nat} {p : Option Addr} {bs nulls : List Bool} {row : List Int} {os : List (Option Addr)} {vss : List (List Bool)} {gs : List Value}
end
end Go.Proofs.YtcapljamcepmkaaDoor
set_option linter.unusedVariables false
namespace Go.V
inductive Nul (g : GramT) : Int → Prop
  | mk (p : ProdT) : p ∈ g.prods → (∀ s ∈ p.right, Nul g s) → Nul g p.left
inductive Fst (g : GramT) : Int → Nat → Prop
  | tm (t : Nat) : t < g.T → Fst g (t : Int) t
  | pr (p : ProdT) (i : Nat) (s : Int) (t : Nat) : p ∈ g.prods → p.right[i]? = some s → (∀ x ∈ p.right.take i, Nul g x) → Fst g s t → Fst g p.left t
def NulR (g : GramT) (row : List Int) : Prop := ∀ s ∈ row, Nul g s
def FstR (g : GramT) (row : List Int) (t : Nat) : Prop := ∃ (i : Nat) (s : Int), row[i]? = some s ∧ (∀ x ∈ row.take i, Nul g x) ∧ Fst g s t
theorem rowN_iff {nl : List Bool} {row : List Int} : rowN nl row = true ↔ ∀ s ∈ row, fnB nl s.toNat = true := by
  unfold rowN; rw [List.all_eq_true]
theorem fnB_rowB (nl : List Bool) (vs : List (List Bool)) : ∀ (row : List Int) (bs : List Bool) (k : Nat), fnB (rowB nl vs bs row) k = true ↔ fnB bs k = true ∨ (k < bs.length ∧ ∃ (i : Nat) (s : Int), row[i]? = some s ∧ (∀ x ∈ row.take i, fnB nl x.toNat = true) ∧ fnB (vs.getD s.toNat []) k = true)
  | [], bs, k => by rw [rowB_nil]; simp
  | s :: r, bs, k => by
    rw [rowB_cons]
    constructor
    · intro h
      by_cases hz : fnB nl s.toNat = true
      · rw [if_pos hz, fnB_rowB nl vs r] at h
        rw [fnB_add_mb, addB_len, Bool.or_eq_true, Bool.and_eq_true, decide_eq_true_eq] at h
        rcases h with (h | ⟨h1, h2⟩) | ⟨h1, i, y, h2, h3, h4⟩
        · exact .inl h
        · exact .inr ⟨h1, 0, s, rfl, by simp, h2⟩
        · refine .inr ⟨h1, i + 1, y, h2, ?_, h4⟩
          intro x hx
          rw [List.take_succ_cons] at hx
          rcases List.mem_cons.1 hx with rfl | hx
          · exact hz
          · exact h3 x hx
      · rw [if_neg hz, fnB_add_mb, Bool.or_eq_true, Bool.and_eq_true, decide_eq_true_eq] at h
        rcases h with h | ⟨h1, h2⟩
        · exact .inl h
        · exact .inr ⟨h1, 0, s, rfl, by simp, h2⟩
    · intro h
      have hu : (fnB bs k = true ∨ (k < bs.length ∧ fnB (vs.getD s.toNat []) k = true)) → fnB (addB bs (mbI (vs.getD s.toNat []))) k = true := fun h => by
        rw [fnB_add_mb, Bool.or_eq_true, Bool.and_eq_true, decide_eq_true_eq]; exact h
      by_cases hz : fnB nl s.toNat = true
      · rw [if_pos hz, fnB_rowB nl vs r, addB_len]
        rcases h with h | ⟨h1, i, y, h2, h3, h4⟩
        · exact .inl (hu (.inl h))
        · match i, h2, h3 with
          | 0, h2, _ => cases h2; exact .inl (hu (.inr ⟨h1, h4⟩))
          | i + 1, h2, h3 => exact .inr ⟨h1, i, y, h2, fun x hx => h3 x (by rw [List.take_succ_cons]; exact List.mem_cons_of_mem _ hx), h4⟩
      · rw [if_neg hz]
        rcases h with h | ⟨h1, i, y, h2, h3, h4⟩
        · exact hu (.inl h)
        · match i, h2, h3 with
          | 0, h2, _ => cases h2; exact hu (.inr ⟨h1, h4⟩)
          | i + 1, h2, h3 => exact absurd (h3 s (by rw [List.take_succ_cons]; exact List.mem_cons_self)) hz
def InG (g : GramT) : Prop := ∀ p ∈ g.prods, ((g.T : Int) ≤ p.left ∧ p.left < g.T + g.N) ∧ ∀ s ∈ p.right, 0 ≤ s ∧ s < (g.T : Int) + g.N
structure MkF (g : GramT) (nl : List Bool) (vs : List (List Bool)) : Prop where
  ln : nl.length = g.T + g.N
  lv : vs.length = g.T + g.N
  le : ∀ v ∈ vs, v.length = g.T
  sn : ∀ i, fnB nl i = true → Nul g (i : Int)
  sv : ∀ i t, fnB (vs.getD i []) t = true → Fst g (i : Int) t
  tm : ∀ t, t < g.T → fnB (vs.getD t []) t = true
def ClP (nl : List Bool) (vs : List (List Bool)) (p : ProdT) : Prop := (rowN nl p.right = true → fnB nl p.left.toNat = true) ∧ rowB nl vs (vs.getD p.left.toNat []) p.right = vs.getD p.left.toNat []
theorem toNat_back {s : Int} (h : 0 ≤ s) : ((s.toNat : Nat) : Int) = s := by omega
theorem MkF.row {g : GramT} {nl : List Bool} {vs : List (List Bool)} (m : MkF g nl vs) {row : List Int} (hr : ∀ s ∈ row, 0 ≤ s ∧ s < (g.T : Int) + g.N) : (rowN nl row = true → NulR g row) ∧ ∀ bs t, fnB (rowB nl vs bs row) t = true → fnB bs t = true ∨ FstR g row t := by
  refine ⟨fun h s hs => ?_, fun bs t h => ?_⟩
  · have := m.sn _ (rowN_iff.1 h s hs)
    rwa [toNat_back (hr s hs).1] at this
  · rcases (fnB_rowB nl vs row bs t).1 h with h | ⟨_, i, s, h1, h2, h3⟩
    · exact .inl h
    · refine .inr ⟨i, s, h1, fun x hx => ?_, ?_⟩
      · have := m.sn _ (h2 x hx)
        rwa [toNat_back (hr x (List.mem_of_mem_take hx)).1] at this
      · have := m.sv _ _ h3
        rwa [toNat_back (hr s (List.mem_of_getElem? h1)).1] at this
theorem Nul.left {g : GramT} (hg : InG g) {s : Int} (h : Nul g s) : (g.T : Int) ≤ s ∧ s < g.T + g.N := by
  cases h with | mk p hp _ => exact (hg p hp).1
theorem Fst.lt {g : GramT} {s : Int} {t : Nat} (h : Fst g s t) : t < g.T := by
  induction h with
  | tm t h => exact h
  | pr p i s t _ _ _ _ ih => exact ih
structure AllF (g : GramT) (nl : List Bool) (vs : List (List Bool)) : Prop where
  ln : nl.length = g.T + g.N
  lv : vs.length = g.T + g.N
  le : ∀ v ∈ vs, v.length = g.T
  nn : ∀ i, fnB nl i = true ↔ Nul g (i : Int)
  nv : ∀ i t, fnB (vs.getD i []) t = true ↔ Fst g (i : Int) t
theorem MkF.getD_len {g : GramT} {nl : List Bool} {vs : List (List Bool)} (m : MkF g nl vs) {i : Nat} (hi : i < g.T + g.N) : (vs.getD i []).length = g.T := by
  have h : vs[i]? = some (vs[i]'(by rw [m.lv]; exact hi)) := List.getElem?_eq_getElem _
  rw [List.getD, h]
  exact m.le _ (List.mem_of_getElem? h)
theorem MkF.all {g : GramT} {nl : List Bool} {vs : List (List Bool)} (hg : InG g) (m : MkF g nl vs) (hc : ∀ p ∈ g.prods, ClP nl vs p) : AllF g nl vs := by
  have cn : ∀ s, Nul g s → fnB nl s.toNat = true := fun s h => by
    induction h with
    | mk p hp _ ih => exact (hc p hp).1 (rowN_iff.2 ih)
  have cv : ∀ s t, Fst g s t → fnB (vs.getD s.toNat []) t = true := fun s t h => by
    induction h with
    | tm t h => exact m.tm t h
    | pr p i s t hp hi hx hs ih =>
      have hl := (hg p hp).1
      rw [← (hc p hp).2, fnB_rowB]
      exact .inr ⟨by rw [m.getD_len (by omega)]; exact hs.lt, i, s, hi, fun x hx' => cn x (hx x hx'), ih⟩
  exact ⟨m.ln, m.lv, m.le, fun i => ⟨m.sn i, fun h => cn _ h⟩, fun i t => ⟨m.sv i t, fun h => cv _ _ h⟩⟩
theorem AllF.row {g : GramT} {nl : List Bool} {vs : List (List Bool)} (m : AllF g nl vs) {row : List Int} (hr : ∀ s ∈ row, 0 ≤ s ∧ s < (g.T : Int) + g.N) : (rowN nl row = true ↔ NulR g row) ∧ ∀ bs t, fnB (rowB nl vs bs row) t = true ↔ fnB bs t = true ∨ (t < bs.length ∧ FstR g row t) := by
  refine ⟨?_, fun bs t => ?_⟩
  · rw [rowN_iff]
    refine forall_congr' fun s => ⟨fun h hs => ?_, fun h hs => ?_⟩
    · have := (m.nn _).1 (h hs); rwa [toNat_back (hr s hs).1] at this
    · exact (m.nn _).2 (by rw [toNat_back (hr s hs).1]; exact h hs)
  · rw [fnB_rowB]
    refine or_congr Iff.rfl (and_congr Iff.rfl (exists_congr fun i => exists_congr fun s => ?_))
    refine ⟨fun ⟨h1, h2, h3⟩ => ⟨h1, fun x hx => ?_, ?_⟩, fun ⟨h1, h2, h3⟩ => ⟨h1, fun x hx => ?_, ?_⟩⟩
    · have := (m.nn _).1 (h2 x hx); rwa [toNat_back (hr x (List.mem_of_mem_take hx)).1] at this
    · have := (m.nv _ _).1 h3; rwa [toNat_back (hr s (List.mem_of_getElem? h1)).1] at this
    · exact (m.nn _).2 (by rw [toNat_back (hr x (List.mem_of_mem_take hx)).1]; exact h2 x hx)
    · exact (m.nv _ _).2 (by rw [toNat_back (hr s (List.mem_of_getElem? h1)).1]; exact h3)
end Go.V
set_option linter.unusedVariables false
namespace Go.V
theorem fnB_setT {nl : List Bool} {k : Nat} (hk : k < nl.length) (j : Nat) : fnB (nl.set k true) j = (fnB nl j || j == k) := by
  unfold fnB
  rw [List.getD_eq_getElem?_getD, List.getD_eq_getElem?_getD, List.getElem?_set]
  by_cases e : k = j
  · subst e; simp [hk]
  · have : ¬ j = k := fun h => e h.symm
    simp [e, this]
end Go.V
set_option linter.unusedVariables false
namespace Go.V
end Go.V
namespace Go.Proofs.YtcapljamcepmkaaDoor
open Go.V
section
variable {w : World} {L : List Asn} {g : GramT} {x : GA}
end
end Go.Proofs.YtcapljamcepmkaaDoor
set_option linter.unusedVariables false
namespace Go.V
def NnP (g : GramT) (nn : List Bool) : Prop := nn.length = g.N ∧ ∀ i : Nat, fnB nn i = true ↔ Nul g ((g.T + i : Nat) : Int)
def BsP (g : GramT) (row : List Int) (bs : List Bool) : Prop := bs.length = g.T ∧ ∀ t, fnB bs t = true ↔ FstR g row t
theorem BsP.inj {g : GramT} {row : List Int} {bs cs : List Bool} (h : BsP g row bs) (k : BsP g row cs) : bs = cs :=
  fnB_inj (h.1.trans k.1.symm) fun i => by rw [Bool.eq_iff_iff, h.2, k.2]
theorem NnP.inj {g : GramT} {bs cs : List Bool} (h : NnP g bs) (k : NnP g cs) : bs = cs :=
  fnB_inj (h.1.trans k.1.symm) fun i => by rw [Bool.eq_iff_iff, h.2, k.2]
end Go.V
namespace Go.Proofs.YtcapljamcepmkaaDoor
open Go.V
section
variable {w : World} {L : List Asn} {g : GramT} {x : GA}
end
end Go.Proofs.YtcapljamcepmkaaDoor
set_option linter.unusedVariables false
namespace Go.V
def SsP (g : GramT) (bss : List (List Bool)) : Prop := bss.length = g.N ∧ ∀ (i : Nat) bs, bss[i]? = some bs → bs.length = g.T ∧ ∀ t, fnB bs t = true ↔ Fst g ((g.T + i : Nat) : Int) t
theorem SsP.inj {g : GramT} {bs cs : List (List Bool)} (h : SsP g bs) (k : SsP g cs) : bs = cs := by
  apply List.ext_getElem?
  intro i
  cases h1 : bs[i]? with
  | none =>
    have := List.getElem?_eq_none_iff.1 h1
    exact (List.getElem?_eq_none (by rw [k.1, ← h.1]; exact this)).symm
  | some b =>
    have hl := (List.getElem?_eq_some_iff.1 h1).1
    obtain ⟨c, h2⟩ : ∃ c, cs[i]? = some c := ⟨cs[i]'(by rw [k.1, ← h.1]; exact hl), List.getElem?_eq_getElem _⟩
    rw [h2]
    obtain ⟨a1, a2⟩ := h.2 i b h1
    obtain ⟨b1, b2⟩ := k.2 i c h2
    exact congrArg some (fnB_inj (a1.trans b1.symm) fun t => by rw [Bool.eq_iff_iff, a2, b2])
end Go.V
namespace Go.Proofs.YtcapljamcepmkaaDoor
open Go.V
section
variable {w : World} {L : List Asn} {g : GramT} {x : GA}
end
end Go.Proofs.YtcapljamcepmkaaDoor
set_option linter.unusedVariables false
namespace Go.V
end Go.V
namespace Go.Proofs.YtcapljamcepmkaaDoor
open Go.V
section
variable {w : World} {L : List Asn} {a a2 : Option Addr} {l l2 c c2 : Nat} {xs ys : List Int}
end
end Go.Proofs.YtcapljamcepmkaaDoor
set_option linter.unusedVariables false
namespace Go.V
theorem rowH.part {h : Hp} {b : Nat} {vs : List Value} (r : rowH h ⟨b, 0, none⟩ vs) (i n : Nat) : rowH h ((⟨b, 0, none⟩ : Addr).add (mulS i n)) ((vs.drop (i * n)).take n) := fun j v hj => by
  rw [List.getElem?_take] at hj
  split at hj
  · rw [List.getElem?_drop] at hj
    rw [add_add, mulS_eq]
    exact r _ v hj
  · cases hj
end Go.V
set_option linter.unusedVariables false
namespace Go.V
end Go.V
namespace Go.Proofs.YtcapljamcepmkaaDoor
open Go.V
section
variable {w : World} {L : List Asn}
end
end Go.Proofs.YtcapljamcepmkaaDoor
set_option linter.unusedVariables false
namespace Go.V
end Go.V
namespace Go.Proofs.YtcapljamcepmkaaDoor
open Go.V
section
variable {w : World} {L : List Asn}
end
end Go.Proofs.YtcapljamcepmkaaDoor
set_option linter.unusedVariables false
namespace Go.V
end Go.V

set_option linter.unusedVariables false
namespace Go.Proofs.YtcapljamcepmkaaDoor
open Go.V
section
variable {w : World} {L : List Asn} {g : GramT} {x : GA} {a a2 : Option Addr} {l l2 c c2 : Nat} {xs ys : List Int}
end
end Go.Proofs.YtcapljamcepmkaaDoor
set_option linter.unusedVariables false
namespace Go.V
theorem ownH_le {sz l c : Nat} {a : Option Addr} {vs : List Value} {h : Hp} (ha : own sz a l c vs h) : l ≤ c := by
  rcases ha with ⟨_, rfl, rfl, _⟩ | ⟨_, _, _, _, _, _, _, _, h⟩
  · exact Nat.le_refl _
  · exact h
end Go.V
namespace Go.Proofs.YtcapljamcepmkaaDoor
open Go.V
section
variable {w : World} {L : List Asn} {g : GramT} {x : GA}
end
end Go.Proofs.YtcapljamcepmkaaDoor
set_option linter.unusedVariables false
namespace Go.V
def Hop (g : GramT) (s y : Int) : Prop := ∃ p ∈ g.prods, p.left = s ∧ ∃ n : Nat, p.right[n]? = some y ∧ ∀ x ∈ p.right.take n, Nul g x
theorem Fst.hop {g : GramT} {s0 : Int} {ms : List Bool} (h0 : (g.T : Int) ≤ s0) (iG : InG g) (hc : ∀ s y, (s = s0 ∨ (0 ≤ s ∧ fnB ms s.toNat = true)) → Hop g s y → fnB ms y.toNat = true) {s : Int} {t : Nat} (h : Fst g s t) : (s = s0 ∨ (0 ≤ s ∧ fnB ms s.toNat = true)) → fnB ms t = true := by
  induction h with
  | tm t ht =>
    rintro (h | ⟨_, h⟩)
    · omega
    · simpa using h
  | pr p i s' t hp h1 h2 h3 ih =>
    intro hR
    exact ih (.inr ⟨((iG p hp).2 s' (List.mem_of_getElem? h1)).1, hc _ _ hR ⟨p, hp, rfl, i, h1, h2⟩⟩)
structure Srch (g : GramT) (s0 : Int) (ms : List Bool) (xs : List Int) (D : Int → Prop) : Prop where
  ln : ms.length = g.T + g.N
  rg : ∀ y ∈ xs, 0 ≤ y ∧ y < (g.T : Int) + g.N
  cl : ∀ s, (s = s0 ∨ (0 ≤ s ∧ fnB ms s.toNat = true)) → s ∈ xs ∨ D s ∨ ∀ y, Hop g s y → fnB ms y.toNat = true
theorem Srch.pop {g : GramT} {s0 : Int} {ms : List Bool} {xs : List Int} {s1 : Int} (h : Srch g s0 ms (s1 :: xs) fun _ => False) : Srch g s0 ms xs (· = s1) :=
  ⟨h.ln, fun y hy => h.rg y (List.mem_cons_of_mem _ hy), fun s hs => by
    rcases h.cl s hs with h | h | h
    · rcases List.mem_cons.1 h with h | h
      · exact .inr (.inl h)
      · exact .inl h
    · exact absurd h id
    · exact .inr (.inr h)⟩
theorem Srch.push {g : GramT} {s0 : Int} {ms : List Bool} {xs : List Int} {D : Int → Prop} {y : Int} (h : Srch g s0 ms xs D) (hy : 0 ≤ y ∧ y < (g.T : Int) + g.N) : Srch g s0 (ms.set y.toNat true) (xs ++ [y]) D := by
  have hk : y.toNat < ms.length := by rw [h.ln]; omega
  refine ⟨by rw [List.length_set]; exact h.ln, fun z hz => ?_, fun s hs => ?_⟩
  · rcases List.mem_append.1 hz with hz | hz
    · exact h.rg z hz
    · simp at hz; subst hz; exact hy
  · have mono : ∀ k, fnB ms k = true → fnB (ms.set y.toNat true) k = true := fun k hk' => by rw [fnB_setT hk, hk']; rfl
    by_cases e : s = y
    · exact .inl (by simp [e])
    · have : s = s0 ∨ (0 ≤ s ∧ fnB ms s.toNat = true) := by
        rcases hs with hs | ⟨h1, h2⟩
        · exact .inl hs
        · rw [fnB_setT hk, Bool.or_eq_true, beq_iff_eq] at h2
          rcases h2 with h2 | h2
          · exact .inr ⟨h1, h2⟩
          · omega
      rcases h.cl s this with h | h | h
      · exact .inl (List.mem_append.2 (.inl h))
      · exact .inr (.inl h)
      · exact .inr (.inr fun z hz => mono _ (h z hz))
theorem Srch.done {g : GramT} {s0 : Int} {ms : List Bool} {xs : List Int} {s1 : Int} (h : Srch g s0 ms xs (· = s1)) (hd : ∀ y, Hop g s1 y → fnB ms y.toNat = true) : Srch g s0 ms xs fun _ => False :=
  ⟨h.ln, h.rg, fun s hs => by
    rcases h.cl s hs with h | rfl | h
    · exact .inl h
    · exact .inr (.inr hd)
    · exact .inr (.inr h)⟩
end Go.V
namespace Go.Proofs.YtcapljamcepmkaaDoor
open Go.V
section
variable {w : World} {L : List Asn} {g : GramT} {x : GA}
end
end Go.Proofs.YtcapljamcepmkaaDoor
set_option linter.unusedVariables false
namespace Go.V
structure ownX (g : GramT) (x : GA) : Prop where
  t : x.tl = g.terms.length
  n : x.nl = g.nons.length
  l : x.ll = g.levels.length
  s : x.s = g.start
  p : x.pl = g.prods.length
end Go.V
namespace Go.Proofs.YtcapljamcepmkaaDoor
open Go.V
section
variable {w : World} {L : List Asn} {g : GramT} {x : GA}
end
end Go.Proofs.YtcapljamcepmkaaDoor
set_option linter.unusedVariables false
namespace Go.V
def GramT.more (g : GramT) (q : ProdT) : GramT := { g with prods := g.prods ++ [q] }
theorem Nul.more {g : GramT} {q : ProdT} {s : Int} (h : Nul g s) : Nul (g.more q) s := by
  induction h with
  | mk p hp _ ih => exact .mk p (List.mem_append.2 (.inl hp)) ih
theorem Fst.more {g : GramT} {q : ProdT} {s : Int} {t : Nat} (h : Fst g s t) : Fst (g.more q) s t := by
  induction h with
  | tm t ht => exact .tm t ht
  | pr p i s t hp h1 h2 _ ih => exact .pr p i s t (List.mem_append.2 (.inl hp)) h1 (fun x hx => (h2 x hx).more) ih
end Go.V
namespace Go.Proofs.YtcapljamcepmkaaDoor
open Go.V
section
variable {w : World} {L : List Asn} {g : GramT} {x : GA}
end
end Go.Proofs.YtcapljamcepmkaaDoor
set_option linter.unusedVariables false
namespace Go.Proofs.YtcapljamcepmkaaDoor
open Go.V
end Go.Proofs.YtcapljamcepmkaaDoor
set_option linter.unusedVariables false
namespace Go.V
inductive WayN (R : Nat → Nat → Prop) (to : Nat) : Nat → Nat → Prop
  | one (i : Nat) : R i to → WayN R to 1 i
  | more (n i k : Nat) : R i k → WayN R to n k → WayN R to (n + 1) i
section
variable {R : Nat → Nat → Prop} {N to n i j : Nat}
theorem WayN.pos (h : WayN R to n i) : 1 ≤ n := by cases h <;> omega
theorem WayN.trans {b m : Nat} (h : WayN R b n i) (k : WayN R to m b) : WayN R to (n + m) i := by
  induction h with
  | one i h => rw [Nat.add_comm]; exact .more m i b h k
  | more n i x h1 h2 ih => rw [show n + 1 + m = (n + m) + 1 from by omega]; exact .more _ i x h1 ih
theorem WayN.mono {R' : Nat → Nat → Prop} (hR : ∀ a b, R a b → R' a b) (h : WayN R to n i) : WayN R' to n i := by
  induction h with
  | one i h => exact .one i (hR _ _ h)
  | more n i k h1 h2 ih => exact .more n i k (hR _ _ h1) ih
structure FarF (R : Nat → Nat → Prop) (N to : Nat) (far : List Nat) : Prop where
  ln : far.length = N
  z : ∀ i, i < N → far.getD i 0 = 0 → ∀ m, ¬ WayN R to m i
  p : ∀ (i : Nat) d, far[i]? = some d → 0 < d → WayN R to d i ∧ ∀ m, WayN R to m i → d ≤ m
structure Bfs (R : Nat → Nat → Prop) (N to n : Nat) (cur far : List Nat) : Prop where
  one : 1 ≤ n
  ln : far.length = N
  z : ∀ i, i < N → far.getD i 0 = 0 → ∀ m, m < n → ¬ WayN R to m i
  p : ∀ (i : Nat) d, far[i]? = some d → 0 < d → d < n ∧ WayN R to d i ∧ ∀ m, WayN R to m i → d ≤ m
  c : ∀ k, k ∈ cur ↔ (n = 1 ∧ k = to) ∨ (1 < n ∧ k < N ∧ far.getD k 0 = n - 1)
theorem getD_some {far : List Nat} (h : i < far.length) : far[i]? = some (far.getD i 0) := by
  rw [List.getD_eq_getElem?_getD, List.getElem?_eq_getElem h]; rfl
theorem Bfs.next {cur far cur' far' : List Nat} (b : Bfs R N to n cur far) (hR : ∀ a k, R a k → k < N) (hl : far'.length = N) (new : Nat → Prop) (hn : ∀ j, j < N → (new j ↔ far.getD j 0 = 0 ∧ ∃ k ∈ cur, R j k))
    (h1 : ∀ j, j < N → new j → far'.getD j 0 = n) (h2 : ∀ j, j < N → ¬ new j → far'.getD j 0 = far.getD j 0) (hc : ∀ k, k ∈ cur' ↔ k < N ∧ new k) : Bfs R N to (n + 1) cur' far' := by
  have hl0 := b.ln
  have newW : ∀ j, j < N → new j → WayN R to n j := fun j hj hj' => by
    obtain ⟨_, k, hk, hr⟩ := (hn j hj).1 hj'
    rcases (b.c k).1 hk with ⟨rfl, rfl⟩ | ⟨h1, h2, h3⟩
    · exact .one _ hr
    · obtain ⟨_, hw, _⟩ := b.p k _ (getD_some (by omega)) (by omega)
      rw [h3] at hw
      have := WayN.more (n - 1) j k hr hw
      rwa [show n - 1 + 1 = n from by omega] at this
  refine ⟨by omega, hl, fun i hi h0 m hm hw => ?_, fun i d hd hd0 => ?_, fun k => ?_⟩
  · have hnn : ¬ new i := fun h => by have := h1 i hi h; have := b.one; omega
    rw [h2 i hi hnn] at h0
    by_cases hmn : m < n
    · exact b.z i hi h0 m hmn hw
    · have : m = n := by omega
      subst this
      refine hnn ((hn i hi).2 ⟨h0, ?_⟩)
      cases hw with
      | one _ hr => exact ⟨to, (b.c to).2 (.inl ⟨rfl, rfl⟩), hr⟩
      | more q _ k hr hw =>
        have hkN := hR _ _ hr
        refine ⟨k, (b.c k).2 (.inr ⟨by have := hw.pos; omega, hkN, ?_⟩), hr⟩
        by_cases hz : far.getD k 0 = 0
        · exact absurd hw (b.z k hkN hz q (by omega))
        · obtain ⟨g1, g2, g3⟩ := b.p k _ (getD_some (by omega)) (by omega)
          have g4 := g3 q hw
          have g5 : ¬ far.getD k 0 + 1 < q + 1 := fun hh => b.z i hi h0 _ hh (.more _ i k hr g2)
          omega
  · have hi : i < N := by rw [← hl]; exact (List.getElem?_eq_some_iff.1 hd).1
    have hdd : far'.getD i 0 = d := by rw [List.getD_eq_getElem?_getD, hd]; rfl
    by_cases hne : new i
    · rw [h1 i hi hne] at hdd
      subst hdd
      refine ⟨by omega, newW i hi hne, fun m hw => ?_⟩
      have := b.z i hi ((hn i hi).1 hne).1 m
      exact Nat.le_of_not_lt fun hh => this hh hw
    · rw [h2 i hi hne] at hdd
      have := b.p i d (by rw [← hdd]; exact getD_some (by omega)) hd0
      exact ⟨by omega, this.2⟩
  · rw [hc]
    constructor
    · rintro ⟨hk, hnk⟩
      exact .inr ⟨by have := b.one; omega, hk, by rw [h1 k hk hnk]; omega⟩
    · rintro (⟨h, _⟩ | ⟨_, hk, h⟩)
      · have := b.one; omega
      · refine ⟨hk, Classical.byContradiction fun hnk => ?_⟩
        rw [h2 k hk hnk] at h
        have := b.p k _ (getD_some (by omega)) (by have := b.one; omega)
        omega
theorem Bfs.done {far : List Nat} (b : Bfs R N to n [] far) (hR : ∀ a k, R a k → k < N) : FarF R N to far := by
  have hl0 := b.ln
  refine ⟨b.ln, fun i hi h0 m hw => ?_, fun i d hd h0 => (b.p i d hd h0).2⟩
  have key : ∀ {m i}, WayN R to m i → i < N → far.getD i 0 ≠ 0 := by
    intro m i hw
    induction hw with
    | one i h =>
      intro hi h0
      by_cases h1 : n = 1
      · have := (b.c to).2 (.inl ⟨h1, rfl⟩); simp at this
      · exact b.z i hi h0 1 (by have := b.one; omega) (.one i h)
    | more q i k h1 h2 ih =>
      intro hi h0
      have hkN := hR _ _ h1
      have hk := ih hkN
      obtain ⟨g1, g2, g3⟩ := b.p k _ (getD_some (by omega)) (by omega)
      have g4 : ¬ far.getD k 0 + 1 < n := fun hh => b.z i hi h0 _ hh (.more _ i k h1 g2)
      have := (b.c k).2 (.inr ⟨by omega, hkN, by omega⟩)
      simp at this
  exact key hw hi h0
def OnP (R : Nat → Nat → Prop) (i : Nat) : Prop := ∃ m, WayN R i m i
structure CirP (R : Nat → Nat → Prop) (N : Nat) (l : List Nat) : Prop where
  lt : ∀ x ∈ l, x < N
  nd : l.Nodup
  st : ∀ (i : Nat) a b, l[i]? = some a → l[(i + 1) % l.length]? = some b → R a b
  on : ∀ x ∈ l, OnP R x
end
end Go.V
set_option linter.unusedVariables false
namespace Go.V
structure VsP (N : Nat) (vs : List (List Bool)) (Q : Nat → Nat → Prop) : Prop where
  ln : vs.length = N
  le : ∀ v ∈ vs, v.length = N
  st : ∀ (a : Nat) v, vs[a]? = some v → ∀ b, fnB v b = true ↔ Q a b
theorem VsP.congr {N : Nat} {vs : List (List Bool)} {Q Q' : Nat → Nat → Prop} (h : VsP N vs Q) (hq : ∀ a b, a < N → (Q a b ↔ Q' a b)) : VsP N vs Q' :=
  ⟨h.ln, h.le, fun a v hv b => (h.st a v hv b).trans (hq a b (by rw [← h.ln]; exact (List.getElem?_eq_some_iff.1 hv).1))⟩
theorem addB1 {v : List Bool} {b0 b : Nat} (h : b0 < v.length) : fnB (addB v [(b0 : Int)]) b = true ↔ fnB v b = true ∨ b = b0 := by
  rw [fnB_add]; unfold addS
  simp
  refine or_congr_right ⟨fun e => by omega, fun e => by omega⟩
theorem VsP.add {N : Nat} {vs : List (List Bool)} {Q : Nat → Nat → Prop} (h : VsP N vs Q) {a b : Nat} {v : List Bool} (hv : vs[a]? = some v) (hb : b < N) : VsP N (vs.set a (addB v [(b : Int)])) fun x y => Q x y ∨ (x = a ∧ y = b) := by
  have hvl := h.le v (List.mem_of_getElem? hv)
  refine ⟨by rw [List.length_set]; exact h.ln, fun u hu => ?_, fun x u hu y => ?_⟩
  · rcases List.mem_or_eq_of_mem_set hu with hu | rfl
    · exact h.le u hu
    · rw [addB_len]; exact hvl
  · rw [List.getElem?_set] at hu
    split at hu
    · rename_i e
      subst e
      rw [if_pos (List.getElem?_eq_some_iff.1 hv).1] at hu
      cases hu
      rw [addB1 (by omega), h.st _ v hv]
      simp
    · rename_i e
      rw [h.st x u hu]
      constructor
      · exact .inl
      · rintro (h | ⟨h, _⟩)
        · exact h
        · exact absurd h.symm e
end Go.V
namespace Go.Proofs.YtcapljamcepmkaaDoor
open Go.V
section
variable {w : World} {L : List Asn} {g : GramT} {x : GA}
end
end Go.Proofs.YtcapljamcepmkaaDoor
set_option linter.unusedVariables false
namespace Go.V
structure WebR (h : Hp) (b T N : Nat) (os : List (Option Addr)) (vs : List (List Bool)) : Prop where
  row : ∃ o c, rowH h ⟨b, 0, none⟩ [.slice o N c, .int .i64 (T : Int)] ∧ rdS h os o N
  lv : vs.length = N
  set : ∀ (i : Nat) o v, os[i]? = some o → vs[i]? = some v → setR h o v
theorem WebR.mono {h h' : Hp} {b T N : Nat} {os : List (Option Addr)} {vs : List (List Bool)} (s : sub h h') (r : WebR h b T N os vs) : WebR h' b T N os vs := by
  obtain ⟨⟨o, c, r1, r2⟩, r3, r4⟩ := r
  exact ⟨⟨o, c, r1.mono s, r2.mono s⟩, r3, fun i o v h1 h2 => (r4 i o v h1 h2).mono s⟩
structure WvI (N n : Nat) (new : Nat → Bool) (far0 : List Nat) (i : Nat) (far : List Nat) : Prop where
  ln : far.length = N
  at_ : ∀ j, j < N → far.getD j 0 = if j < i ∧ new j = true then n else far0.getD j 0
theorem WvI.skip {N n i : Nat} {new : Nat → Bool} {far0 far : List Nat} (h : WvI N n new far0 i far) (hn : new i = false) : WvI N n new far0 (i + 1) far :=
  ⟨h.ln, fun j hj => by
    rw [h.at_ j hj]
    by_cases e : j = i
    · subst e; simp [hn]
    · have : (j < i ∧ new j = true) ↔ (j < i + 1 ∧ new j = true) := by constructor <;> (rintro ⟨h1, h2⟩; exact ⟨by omega, h2⟩)
      simp only [this]⟩
end Go.V
namespace Go.Proofs.YtcapljamcepmkaaDoor
open Go.V
section
variable {w : World} {L : List Asn} {b T N to : Nat} {os : List (Option Addr)} {vs : List (List Bool)}
end
end Go.Proofs.YtcapljamcepmkaaDoor
set_option linter.unusedVariables false
namespace Go.V
theorem rdOv {L : List Asn} {h : Hp} {a : Option Addr} {sz l c : Nat} {vs : List Value} (i : Nat) (hl : starL L h) (e : nthA L i = own sz a l c vs := by rfl) (hi : Nat.blt i (lenA L) = true := by rfl) : rdV a vs h := by
  obtain ⟨h1, s, ha⟩ := starL_nth i (by simpa [lenA_eq] using hi) hl
  rw [e] at ha
  exact rdV.mono s (own_rdVh ha)
theorem iv_setL (xs : List Int) (i : Nat) (v : Int) : (iv xs).set i (.int .i64 v) = iv (xs.set i v) := by simp [iv, List.map_set]
structure OnL (R : Nat → Nat → Prop) (N : Nat) (ol : List Nat) : Prop where
  ex : ∃ p : Nat → Bool, (∀ i, p i = true ↔ OnP R i) ∧ ol = (List.range N).filter p
theorem OnL.mem {R : Nat → Nat → Prop} {N : Nat} {ol : List Nat} (h : OnL R N ol) {x : Nat} : x ∈ ol ↔ x < N ∧ OnP R x := by
  obtain ⟨p, hp, rfl⟩ := h.ex
  rw [List.mem_filter, List.mem_range, hp]
theorem OnL.le {R : Nat → Nat → Prop} {N : Nat} {ol : List Nat} (h : OnL R N ol) : ol.length ≤ N := by
  obtain ⟨p, hp, rfl⟩ := h.ex
  have := List.length_filter_le p (List.range N); simpa using this
structure PthP (R : Nat → Nat → Prop) (N F l0 : Nat) (far out : List Nat) : Prop where
  z : out[0]? = some l0
  st : ∀ (i : Nat) a b, out[i]? = some a → out[i + 1]? = some b → R a b
  lt : ∀ x ∈ out, x < N
  fa : ∀ (i : Nat) x, out[i]? = some x → far.getD x 0 + i = F
theorem PthP.snoc {R : Nat → Nat → Prop} {N F l0 k last : Nat} {far out : List Nat} (h : PthP R N F l0 far out) (hl : out[out.length - 1]? = some last) (hr : R last k) (hk : k < N) (hf : far.getD k 0 + out.length = F) : PthP R N F l0 far (out ++ [k]) := by
  have h0 := (List.getElem?_eq_some_iff.1 h.z).1
  refine ⟨by rw [List.getElem?_append_left h0]; exact h.z, fun i a b ha hb => ?_, fun x hx => ?_, fun i x hx => ?_⟩
  · have hi := (List.getElem?_eq_some_iff.1 hb).1
    rw [List.length_append, List.length_singleton] at hi
    rw [List.getElem?_append_left (by omega)] at ha
    by_cases hi2 : i + 1 < out.length
    · rw [List.getElem?_append_left hi2] at hb
      exact h.st i a b ha hb
    · have e : i = out.length - 1 := by omega
      rw [e, hl] at ha; cases ha
      rw [List.getElem?_append_right (by omega)] at hb
      have : i + 1 - out.length = 0 := by omega
      rw [this] at hb; cases hb; exact hr
  · rcases List.mem_append.1 hx with hx | hx
    · exact h.lt x hx
    · rw [List.mem_singleton.1 hx]; exact hk
  · have hi := (List.getElem?_eq_some_iff.1 hx).1
    rw [List.length_append, List.length_singleton] at hi
    by_cases hi2 : i < out.length
    · rw [List.getElem?_append_left hi2] at hx; exact h.fa i x hx
    · have e : i = out.length := by omega
      subst e
      rw [List.getElem?_append_right (Nat.le_refl _), Nat.sub_self] at hx
      cases hx; exact hf
end Go.V
namespace Go.Proofs.YtcapljamcepmkaaDoor
open Go.V
section
variable {w : World} {L : List Asn} {b T N l c : Nat} {os : List (Option Addr)} {vs : List (List Bool)} {a : Option Addr} {xs : List Int} {v0 : Value}
end
end Go.Proofs.YtcapljamcepmkaaDoor
set_option linter.unusedVariables false
namespace Go.V.Dig
inductive Rc (E : Nat → List Nat) : Nat → Nat → Prop
  | refl (a : Nat) : Rc E a a
  | step {a b c : Nat} : b ∈ E a → Rc E b c → Rc E a c
theorem Rc.trans {E : Nat → List Nat} {a b c : Nat} (h : Rc E a b) : Rc E b c → Rc E a c := by
  induction h with
  | refl => exact id
  | step h _ ih => exact fun k => .step h (ih k)
theorem Rc.one {E : Nat → List Nat} {a b : Nat} (h : b ∈ E a) : Rc E a b := .step h (.refl b)
def Good (E : Nat → List Nat) (gs : List (List Nat)) : Prop :=
  gs.flatten.Nodup ∧ ∀ g1 g g2, gs = g1 ++ g :: g2 → g ≠ [] ∧ (∀ a ∈ g, ∀ b ∈ g, Rc E a b) ∧ ∀ a ∈ g, ∀ b ∈ E a, b ∈ g ∨ b ∈ g1.flatten
theorem Good.nil (E : Nat → List Nat) : Good E [] := ⟨by simp, fun g1 g g2 h => by simp at h⟩
theorem Good.snoc {E : Nat → List Nat} {gs : List (List Nat)} {g : List Nat} (h : Good E gs) (hn : g ≠ []) (hd : g.Nodup) (hx : ∀ a ∈ g, a ∉ gs.flatten)
    (hr : ∀ a ∈ g, ∀ b ∈ g, Rc E a b) (he : ∀ a ∈ g, ∀ b ∈ E a, b ∈ g ∨ b ∈ gs.flatten) : Good E (gs ++ [g]) := by
  refine ⟨?_, ?_⟩
  · rw [List.flatten_append, List.nodup_append]
    refine ⟨h.1, by simpa using hd, ?_⟩
    intro a ha b hb e
    subst e
    exact hx a (by simpa using hb) ha
  · intro g1 g' g2 e
    rcases List.eq_nil_or_concat g2 with rfl | ⟨g3, x, rfl⟩
    · obtain ⟨rfl, e2⟩ := List.append_inj' e rfl
      simp only [List.cons.injEq, and_true] at e2
      subst e2
      exact ⟨hn, hr, he⟩
    · rw [List.concat_eq_append, ← List.cons_append, ← List.append_assoc] at e
      obtain ⟨e1, e2⟩ := List.append_inj' e rfl
      exact h.2 g1 g' g3 e1
theorem Good.to {E : Nat → List Nat} {gs : List (List Nat)} (h : Good E gs) {a b : Nat} (hw : Rc E a b) :
    ∀ g1 g g2, gs = g1 ++ g :: g2 → a ∈ g → b ∈ (g1 ++ [g]).flatten := by
  induction hw with
  | refl a => intro g1 g g2 _ ha; simp [ha]
  | @step a b c hb hc ih =>
    intro g1 g g2 e ha
    rcases (h.2 g1 g g2 e).2.2 a ha b hb with hb | hb
    · exact ih g1 g g2 e hb
    · obtain ⟨x, hx, hbx⟩ := List.mem_flatten.1 hb
      obtain ⟨y1, y2, rfl⟩ := List.append_of_mem hx
      have := ih y1 x (y2 ++ g :: g2) (by rw [e]; simp) hbx
      simp only [List.flatten_append, List.flatten_cons, List.flatten_nil, List.append_nil, List.mem_append] at this ⊢
      rcases this with h | h
      · exact Or.inl (Or.inl h)
      · exact Or.inl (Or.inr (Or.inl h))
theorem nodup_split {gs : List (List Nat)} (h : gs.flatten.Nodup) {g1 g2 : List (List Nat)} {g : List Nat} (e : gs = g1 ++ g :: g2) {a : Nat} (ha : a ∈ g) : a ∉ g1.flatten ∧ a ∉ g2.flatten := by
  subst e
  rw [List.flatten_append, List.flatten_cons, List.nodup_append, List.nodup_append] at h
  refine ⟨fun h1 => h.2.2 a h1 a (by simp [ha]) rfl, fun h1 => h.2.1.2.2 a ha a h1 rfl⟩
theorem Good.same {E : Nat → List Nat} {gs : List (List Nat)} (h : Good E gs) {g : List Nat} (hg : g ∈ gs) {a b : Nat} (ha : a ∈ g) (hab : Rc E a b) (hba : Rc E b a) (hb : b ∈ gs.flatten) : b ∈ g := by
  obtain ⟨g1, g2, e⟩ := List.append_of_mem hg
  have h1 := h.to hab g1 g g2 e ha
  simp only [List.flatten_append, List.flatten_cons, List.flatten_nil, List.append_nil, List.mem_append] at h1
  rcases h1 with h1 | h1
  · obtain ⟨x, hx, hbx⟩ := List.mem_flatten.1 h1
    obtain ⟨y1, y2, rfl⟩ := List.append_of_mem hx
    have h2 := h.to hba y1 x (y2 ++ g :: g2) (by rw [e]; simp) hbx
    have := (nodup_split h.1 e ha).1
    simp only [List.flatten_append, List.flatten_cons, List.flatten_nil, List.append_nil, List.mem_append] at h2 this
    rcases h2 with h2 | h2
    · exact absurd (Or.inl h2) this
    · exact absurd (Or.inr (Or.inl h2)) this
  · exact h1
abbrev Sc := Nat × Nat × List Nat
def opOf : List Sc → List Nat
  | [] => []
  | (n, _, r) :: t => opOf t ++ n :: r
structure Sec (E : Nat → List Nat) (low : Nat → Nat) (op : List Nat) (D : Nat → Prop) (b n k : Nat) (r : List Nat) : Prop where
  le : k ≤ (E n).length
  top : low n ≤ b + 1
  lo : ∀ v ∈ r, low n ≤ low v
  pos : ∀ v ∈ n :: r, 0 < low v
  at_ : ∀ v ∈ r, ∀ i, op[i]? = some v → low v ≤ i
  rc : ∀ v ∈ r, Rc E n v
  to : ∀ v ∈ n :: r, ∃ u, op[low v - 1]? = some u ∧ Rc E v u
  ed : ∀ v ∈ r, ∀ m ∈ E v, D m ∨ ∃ i, op[i]? = some m ∧ low n ≤ i + 1
  en : ∀ j m, j < k → (E n)[j]? = some m → D m ∨ ∃ i, op[i]? = some m ∧ low n ≤ i + 1
def OK (E : Nat → List Nat) (low : Nat → Nat) (op : List Nat) (D : Nat → Prop) : List Sc → Prop
  | [] => True
  | (n, k, r) :: t => Sec E low op D (opOf t).length n k r ∧ (∀ u k' r' t', t = (u, k', r') :: t' → Rc E u n) ∧ OK E low op D t
theorem mem_opOf_len {t : List Sc} {n k : Nat} {r : List Nat} : (opOf ((n, k, r) :: t)).length = (opOf t).length + 1 + r.length := by simp [opOf]; omega
theorem OK.mono {E : Nat → List Nat} {low low' : Nat → Nat} {op op' : List Nat} {D D' : Nat → Prop} : ∀ (t : List Sc), OK E low op D t →
    (∀ v ∈ opOf t, low' v = low v) → (∀ i v : Nat, op[i]? = some v → op'[i]? = some v ∨ D' v) → (∀ i v : Nat, op'[i]? = some v → v ∈ opOf t → op[i]? = some v) → (∀ i : Nat, i < (opOf t).length → op'[i]? = op[i]?) → op.Nodup → (∀ v : Nat, D v → D' v) →
    (∀ i : Nat, i < (opOf t).length → op[i]? = (opOf t)[i]?) → OK E low' op' D' t
  | [], _, _, _, _, _, _, _, _ => trivial
  | (n, k, r) :: t, ⟨s, hu, ht⟩, hl, ho, hb, hi, nd, hD, hp => by
    have hn : low' n = low n := hl n (by simp [opOf])
    have hr : ∀ v ∈ r, low' v = low v := fun v hv => hl v (by simp [opOf, hv])
    have hnr : ∀ v ∈ n :: r, low' v = low v := fun v hv => hl v (by simp only [opOf, List.mem_append]; exact Or.inr hv)
    refine ⟨⟨s.le, by rw [hn]; exact s.top, fun v hv => by rw [hn, hr v hv]; exact s.lo v hv, fun v hv => by rw [hnr v hv]; exact s.pos v hv, ?_, s.rc, ?_, ?_, ?_⟩, hu, ?_⟩
    · intro v hv i h
      rw [hr v hv]
      exact s.at_ v hv i (hb i v h (by simp [opOf, hv]))
    · intro v hv
      obtain ⟨u, h1, h2⟩ := s.to v hv
      refine ⟨u, ?_, h2⟩
      rw [hnr v hv, hi _ ?_, h1]
      rw [mem_opOf_len]
      have hp' := s.pos v hv
      rcases List.mem_cons.1 hv with rfl | hv
      · have := s.top; omega
      · have hv2 : v ∈ opOf ((n, k, r) :: t) := by simp [opOf, hv]
        obtain ⟨i, hi1, hi2⟩ := List.getElem_of_mem hv2
        have := s.at_ v hv i (by rw [hp i hi1, List.getElem?_eq_getElem hi1, hi2])
        rw [mem_opOf_len] at hi1
        omega
    · intro v hv m hm
      rcases s.ed v hv m hm with h | ⟨i, h1, h2⟩
      · exact Or.inl (hD m h)
      · rcases ho i m h1 with h | h
        · exact Or.inr ⟨i, h, by rw [hn]; exact h2⟩
        · exact Or.inl h
    · intro j m hj hm
      rcases s.en j m hj hm with h | ⟨i, h1, h2⟩
      · exact Or.inl (hD m h)
      · rcases ho i m h1 with h | h
        · exact Or.inr ⟨i, h, by rw [hn]; exact h2⟩
        · exact Or.inl h
    · refine OK.mono t ht (fun v hv => hl v (by simp [opOf, hv])) ho (fun i v h hv => hb i v h (by simp [opOf, hv])) (fun i h => hi i (by rw [mem_opOf_len]; omega)) nd hD ?_
      intro i h
      rw [hp i (by rw [mem_opOf_len]; omega)]
      simp only [opOf]
      rw [List.getElem?_append_left h]
end Go.V.Dig
set_option linter.unusedVariables false
namespace Go.V.Dig
def upd (f : Nat → Nat) (i x : Nat) : Nat → Nat := fun j => if j = i then x else f j
theorem upd_same (f : Nat → Nat) (i x : Nat) : upd f i x i = x := by simp [upd]
theorem upd_ne {f : Nat → Nat} {i x j : Nat} (h : j ≠ i) : upd f i x j = f j := by simp [upd, h]
structure Inv (E : Nat → List Nat) (N : Nat) (low : Nat → Nat) (S : List Sc) (gs : List (List Nat)) : Prop where
  ok : OK E low (opOf S) (· ∈ gs.flatten) S
  nd : (opOf S ++ gs.flatten).Nodup
  lt : ∀ v ∈ opOf S ++ gs.flatten, v < N
  un : ∀ v, v < N → (low v = 0 ↔ v ∉ opOf S ++ gs.flatten)
  dn : ∀ v ∈ gs.flatten, low v = N + 1
  good : Good E gs
theorem nd_sub : ∀ (l m : List Nat), l.Nodup → (∀ v ∈ l, v ∈ m) → l.length ≤ m.length
  | [], _, _, _ => Nat.zero_le _
  | a :: l, m, h, hs => by
    have ha := hs a (by simp)
    rw [List.nodup_cons] at h
    have := nd_sub l (m.erase a) h.2 (fun v hv => (List.mem_erase_of_ne (fun e : v = a => h.1 (e ▸ hv))).2 (hs v (by simp [hv])))
    rw [List.length_erase_of_mem ha] at this
    have := List.length_pos_of_mem ha
    simp only [List.length_cons]; omega
theorem nd_len {l : List Nat} {N : Nat} (h1 : l.Nodup) (h2 : ∀ v ∈ l, v < N) : l.length ≤ N := by
  have := nd_sub l (List.range N) h1 (fun v hv => List.mem_range.2 (h2 v hv))
  simpa using this
variable {E : Nat → List Nat} {N : Nat} {low : Nat → Nat} {S t : List Sc} {gs : List (List Nat)} {D : Nat → Prop} {op : List Nat}
theorem nodup_at {l : List Nat} (h : l.Nodup) {i j : Nat} {v : Nat} (h1 : l[i]? = some v) (h2 : l[j]? = some v) : i = j := by
  obtain ⟨a, h1⟩ := List.getElem?_eq_some_iff.1 h1
  obtain ⟨b, h2⟩ := List.getElem?_eq_some_iff.1 h2
  exact (List.getElem_inj h).1 (h1.trans h2.symm)
theorem OK.to : ∀ (S : List Sc), OK E low op D S → ∀ v ∈ opOf S, 0 < low v ∧ ∃ u, op[low v - 1]? = some u ∧ Rc E v u
  | [], _, v, hv => by simp [opOf] at hv
  | (n, k, r) :: t, ⟨s, _, h⟩, v, hv => by
    simp only [opOf, List.mem_append] at hv
    rcases hv with hv | hv
    · exact OK.to t h v hv
    · exact ⟨s.pos v hv, s.to v hv⟩
theorem OK.at_le : ∀ (S : List Sc), OK E low op D S → op.Nodup → (∀ i : Nat, i < (opOf S).length → op[i]? = (opOf S)[i]?) → ∀ v ∈ opOf S, ∀ i : Nat, op[i]? = some v → low v ≤ i + 1
  | [], _, _, _, v, hv => by simp [opOf] at hv
  | (n, k, r) :: t, ⟨s, _, h⟩, nd, hp, v, hv => by
    intro i hi
    simp only [opOf, List.mem_append] at hv
    rcases hv with hv | hv
    · refine OK.at_le t h nd (fun j hj => ?_) v hv i hi
      rw [hp j (by rw [mem_opOf_len]; omega)]
      simp only [opOf]
      rw [List.getElem?_append_left hj]
    · rcases List.mem_cons.1 hv with rfl | hv
      · have h1 : op[(opOf t).length]? = some v := by
          rw [hp _ (by rw [mem_opOf_len]; omega)]
          simp [opOf]
        have := nodup_at nd hi h1
        have := s.top
        omega
      · have := s.at_ v hv i hi
        omega
theorem Inv.ndo (h : Inv E N low S gs) : (opOf S).Nodup := (List.nodup_append.1 h.nd).1
theorem Inv.len (h : Inv E N low S gs) : (opOf S).length ≤ N := nd_len h.ndo fun v hv => h.lt v (by simp [hv])
theorem Inv.seen (h : Inv E N low S gs) {v : Nat} (hv : v < N) (hl : low v ≠ 0) : v ∈ opOf S ∨ v ∈ gs.flatten := by
  have := mt (h.un v hv).2 hl
  simp only [List.mem_append] at this
  exact Classical.byContradiction fun e => this e
theorem Inv.root (h : Inv E N low [] gs) {m : Nat} (hm : m < N) (h0 : low m = 0) : Inv E N (upd low m 1) [(m, 0, [])] gs := by
  have hx := (h.un m hm).1 h0
  simp only [opOf, List.nil_append] at hx
  have hne : ∀ v, v ∈ gs.flatten → v ≠ m := fun v hv e => hx (e ▸ hv)
  refine ⟨⟨⟨by simp, by simp [opOf, upd_same], by simp, ?_, by simp, by simp, ?_, by simp, by simp⟩, by simp, trivial⟩, ?_, ?_, ?_, ?_, h.good⟩
  · intro v hv
    simp only [List.mem_singleton] at hv
    rw [hv, upd_same]; omega
  · intro v hv
    simp only [List.mem_singleton] at hv
    subst hv
    exact ⟨v, by simp [upd_same, opOf], .refl v⟩
  · have := h.nd
    simp only [opOf, List.nil_append, List.singleton_append, List.nodup_cons] at this ⊢
    exact ⟨hx, this⟩
  · intro v hv
    simp only [opOf, List.nil_append, List.singleton_append, List.mem_cons] at hv
    rcases hv with rfl | hv
    · exact hm
    · exact h.lt v (by simpa [opOf] using hv)
  · intro v hv
    simp only [opOf, List.nil_append, List.singleton_append, List.mem_cons]
    by_cases e : v = m
    · subst e; simp [upd_same]
    · rw [upd_ne e, h.un v hv]; simp [opOf, e]
  · intro v hv
    rw [upd_ne (hne v hv)]
    exact h.dn v hv
theorem Inv.push {n k m : Nat} {r : List Nat} (h : Inv E N low ((n, k, r) :: t) gs) (hk : (E n)[k]? = some m) (hm : m < N) (h0 : low m = 0) :
    Inv E N (upd low m ((opOf ((n, k, r) :: t)).length + 1)) ((m, 0, []) :: (n, k + 1, r) :: t) gs := by
  have hx := (h.un m hm).1 h0
  have hxo : m ∉ opOf ((n, k, r) :: t) := fun e => hx (by simp only [List.mem_append]; exact Or.inl e)
  have hxg : m ∉ gs.flatten := fun e => hx (by simp only [List.mem_append]; exact Or.inr e)
  have ho : opOf ((m, 0, []) :: (n, k + 1, r) :: t) = opOf ((n, k, r) :: t) ++ [m] := rfl
  have hmono := OK.mono (low' := upd low m ((opOf ((n, k, r) :: t)).length + 1)) (op' := opOf ((n, k, r) :: t) ++ [m]) (D' := (· ∈ gs.flatten)) _ h.ok
    (fun v hv => upd_ne fun e => hxo (e ▸ hv))
    (fun i v hi => Or.inl (by rw [List.getElem?_append_left (by obtain ⟨a, _⟩ := List.getElem?_eq_some_iff.1 hi; exact a)]; exact hi))
    (fun i v hi hv => by
      by_cases hl : i < (opOf ((n, k, r) :: t)).length
      · rwa [List.getElem?_append_left hl] at hi
      · rw [List.getElem?_append_right (by omega)] at hi
        have hi := List.mem_of_getElem? hi
        simp only [List.mem_singleton] at hi
        exact absurd (hi ▸ hv) hxo)
    (fun i hi => List.getElem?_append_left hi) h.ndo (fun _ h => h) (fun _ _ => rfl)
  obtain ⟨s, hu, ht⟩ := hmono
  have hle : k < (E n).length := (List.getElem?_eq_some_iff.1 hk).1
  refine ⟨⟨⟨by simp, ?_, by simp, ?_, by simp, by simp, ?_, by simp, by simp⟩, ?_, ⟨⟨hle, s.top, s.lo, s.pos, s.at_, s.rc, s.to, s.ed, ?_⟩, hu, ht⟩⟩, ?_, ?_, ?_, ?_, h.good⟩
  · rw [upd_same]; exact Nat.le_refl _
  · intro v hv
    simp only [List.mem_singleton] at hv
    rw [hv, upd_same]; omega
  · intro v hv
    simp only [List.mem_singleton] at hv
    subst hv
    refine ⟨v, ?_, .refl v⟩
    rw [upd_same, ho]
    simp
  · intro u k' r' t' e
    cases e
    exact Rc.one (List.mem_of_getElem? hk)
  · intro j v hj hv
    by_cases e : j = k
    · subst e
      rw [hk] at hv
      cases hv
      refine Or.inr ⟨(opOf ((n, j, r) :: t)).length, by rw [ho, List.getElem?_append_right (Nat.le_refl _)]; simp, ?_⟩
      have h1 := s.top
      have h2 : (opOf ((n, j, r) :: t)).length = (opOf t).length + 1 + r.length := mem_opOf_len
      omega
    · exact s.en j v (by omega) hv
  · rw [ho]
    have := h.nd
    rw [List.append_assoc, List.nodup_append] at *
    refine ⟨this.1, ?_, ?_⟩
    · simp only [List.singleton_append, List.nodup_cons]
      exact ⟨hxg, this.2.1⟩
    · intro a ha b hb e
      simp only [List.singleton_append, List.mem_cons] at hb
      rcases hb with rfl | hb
      · exact hxo (e ▸ ha)
      · exact this.2.2 a ha b hb e
  · intro v hv
    rw [ho] at hv
    simp only [List.mem_append, List.mem_singleton] at hv
    rcases hv with (hv | rfl) | hv
    · exact h.lt v (by simp only [List.mem_append]; exact Or.inl hv)
    · exact hm
    · exact h.lt v (by simp only [List.mem_append]; exact Or.inr hv)
  · intro v hv
    rw [ho]
    by_cases e : v = m
    · subst e; simp [upd_same]
    · rw [upd_ne e, h.un v hv]; simp [e]
  · intro v hv
    have e : v ≠ m := fun e => hxg (e ▸ hv)
    rw [upd_ne e]
    exact h.dn v hv
theorem Inv.lown {n k : Nat} {r : List Nat} (h : Inv E N low ((n, k, r) :: t) gs) : n ∉ opOf t ∧ n ∉ r ∧ n ∉ gs.flatten ∧ (∀ v ∈ r, v ∉ opOf t) := by
  have := h.nd
  simp only [opOf, List.nodup_append, List.nodup_cons, List.mem_append, List.mem_cons] at this
  obtain ⟨⟨h1, h2, h3⟩, h4, h5⟩ := this
  exact ⟨fun e => h3 n e n (Or.inl rfl) rfl, h2.1, fun e => h5 n (Or.inr (Or.inl rfl)) n e rfl, fun v hv e => h3 v e v (Or.inr hv) rfl⟩
theorem Inv.look {n k m : Nat} {r : List Nat} (h : Inv E N low ((n, k, r) :: t) gs) (hk : (E n)[k]? = some m) (hm : m < N) (h0 : low m ≠ 0) :
    Inv E N (upd low n (min (low n) (low m))) ((n, k + 1, r) :: t) gs := by
  obtain ⟨x1, x2, x3, x4⟩ := h.lown
  obtain ⟨s, hu, ht⟩ := h.ok
  have hle : k < (E n).length := (List.getElem?_eq_some_iff.1 hk).1
  have hr : ∀ v ∈ r, v ≠ n := fun v hv e => x2 (e ▸ hv)
  have hlen := h.len
  rw [mem_opOf_len] at hlen
  have htop := s.top
  have hpn := s.pos n (by simp)
  have hmin : upd low n (min (low n) (low m)) n ≤ low n := by rw [upd_same]; omega
  have hdone : m ∈ gs.flatten → min (low n) (low m) = low n := fun e => by rw [h.dn m e]; omega
  have hmono := OK.mono (low' := upd low n (min (low n) (low m))) (op' := opOf ((n, k, r) :: t)) (D' := (· ∈ gs.flatten)) _ ht
    (fun v hv => upd_ne fun e => x1 (e ▸ hv)) (fun i v hi => Or.inl hi) (fun i v hi _ => hi) (fun i hi => rfl) h.ndo (fun _ h => h)
    (fun i hi => by simp only [opOf]; rw [List.getElem?_append_left hi])
  refine ⟨⟨⟨hle, by omega, ?_, ?_, ?_, s.rc, ?_, ?_, ?_⟩, hu, hmono⟩, h.nd, h.lt, ?_, ?_, h.good⟩
  · intro v hv
    rw [upd_ne (hr v hv)]
    exact Nat.le_trans hmin (s.lo v hv)
  · intro v hv
    by_cases e : v = n
    · subst e; rw [upd_same]; omega
    · rw [upd_ne e]; exact s.pos v hv
  · intro v hv
    rw [upd_ne (hr v hv)]
    exact s.at_ v hv
  · intro v hv
    by_cases e : v = n
    · subst e
      rw [upd_same]
      by_cases hc : low v ≤ low m
      · rw [Nat.min_eq_left hc]; exact s.to v (by simp)
      · rw [Nat.min_eq_right (by omega)]
        rcases h.seen hm h0 with hs | hs
        · obtain ⟨_, u, h1, h2⟩ := OK.to _ h.ok m hs
          exact ⟨u, h1, .step (List.mem_of_getElem? hk) h2⟩
        · have := hdone hs; omega
    · rw [upd_ne e]; exact s.to v hv
  · intro v hv x hx
    rcases s.ed v hv x hx with h1 | ⟨i, h1, h2⟩
    · exact Or.inl h1
    · exact Or.inr ⟨i, h1, Nat.le_trans hmin h2⟩
  · intro j x hj hx
    by_cases e : j = k
    · subst e
      rw [hk] at hx; cases hx
      rcases h.seen hm h0 with hs | hs
      · obtain ⟨i, hi1, hi2⟩ := List.getElem_of_mem hs
        have hi3 : (opOf ((n, j, r) :: t))[i]? = some m := by rw [List.getElem?_eq_getElem hi1, hi2]
        refine Or.inr ⟨i, hi3, ?_⟩
        have := OK.at_le _ h.ok h.ndo (fun _ _ => rfl) m hs i hi3
        rw [upd_same]; omega
      · exact Or.inl hs
    · rcases s.en j x (by omega) hx with h1 | ⟨i, h1, h2⟩
      · exact Or.inl h1
      · exact Or.inr ⟨i, h1, Nat.le_trans hmin h2⟩
  · intro v hv
    by_cases e : v = n
    · subst e
      rw [upd_same]
      have h1 : v ∈ opOf ((v, k + 1, r) :: t) ++ gs.flatten := by simp [opOf]
      constructor
      · intro h2; omega
      · intro h2; exact absurd h1 h2
    · rw [upd_ne e]; exact h.un v hv
  · intro v hv
    have e : v ≠ n := fun e => x3 (e ▸ hv)
    rw [upd_ne e]
    exact h.dn v hv
theorem Inv.merge {n k u ku : Nat} {r ru : List Nat} (h : Inv E N low ((n, k, r) :: (u, ku, ru) :: t) gs) (hk : k = (E n).length) (hne : low n ≠ (opOf ((u, ku, ru) :: t)).length + 1) :
    Inv E N (upd low u (min (low u) (low n))) ((u, ku, ru ++ n :: r) :: t) gs := by
  obtain ⟨x1, x2, x3, x4⟩ := h.lown
  obtain ⟨s, hu, s2, hu2, ht⟩ := h.ok
  have ho : opOf ((u, ku, ru ++ n :: r) :: t) = opOf ((n, k, r) :: (u, ku, ru) :: t) := by simp [opOf]
  have hru : u ∉ opOf t ∧ u ∉ ru ∧ u ≠ n ∧ u ∉ r ∧ u ∉ gs.flatten := by
    have := h.nd
    simp only [opOf, List.nodup_append, List.nodup_cons, List.mem_append, List.mem_cons] at this
    obtain ⟨⟨⟨h1, h2, h3⟩, h4, h5⟩, h6, h7⟩ := this
    exact ⟨fun e => h3 u e u (Or.inl rfl) rfl, h2.1, h5 u (Or.inr (Or.inl rfl)) n (Or.inl rfl), fun e => h5 u (Or.inr (Or.inl rfl)) u (Or.inr e) rfl, fun e => h7 u (Or.inl (Or.inr (Or.inl rfl))) u e rfl⟩
  obtain ⟨y1, y2, y3, y4, y5⟩ := hru
  have hmin : upd low u (min (low u) (low n)) u ≤ low u := by rw [upd_same]; omega
  have hmin2 : upd low u (min (low u) (low n)) u ≤ low n := by rw [upd_same]; omega
  have hlow : ∀ v, v ≠ u → upd low u (min (low u) (low n)) v = low v := fun v e => upd_ne e
  have hn : upd low u (min (low u) (low n)) n = low n := hlow n (Ne.symm y3)
  have hr : ∀ v ∈ r, upd low u (min (low u) (low n)) v = low v := fun v hv => hlow v fun e => y4 (e ▸ hv)
  have hru : ∀ v ∈ ru, upd low u (min (low u) (low n)) v = low v := fun v hv => hlow v fun e => y2 (e ▸ hv)
  have hpn := s.pos n (by simp)
  have hpu := s2.pos u (by simp)
  have hmono := OK.mono (low' := upd low u (min (low u) (low n))) (op' := opOf ((n, k, r) :: (u, ku, ru) :: t)) (D' := (· ∈ gs.flatten)) _ ht
    (fun v hv => upd_ne fun e => y1 (e ▸ hv)) (fun i v hi => Or.inl hi) (fun i v hi _ => hi) (fun i hi => rfl) h.ndo (fun _ h => h)
    (fun i hi => by simp only [opOf]; rw [List.append_assoc, List.getElem?_append_left hi])
  have hposn : (opOf ((n, k, r) :: (u, ku, ru) :: t))[(opOf ((u, ku, ru) :: t)).length]? = some n := by simp only [opOf]; simp
  refine ⟨?_, by rw [ho]; exact h.nd, by rw [ho]; exact h.lt, ?_, ?_, h.good⟩
  · rw [ho]
    refine ⟨⟨s2.le, Nat.le_trans hmin s2.top, ?_, ?_, ?_, ?_, ?_, ?_, ?_⟩, hu2, hmono⟩
    · intro v hv
      simp only [List.mem_append, List.mem_cons] at hv
      rcases hv with hv | rfl | hv
      · rw [hru v hv]; exact Nat.le_trans hmin (s2.lo v hv)
      · rw [hn]; exact hmin2
      · rw [hr v hv]; exact Nat.le_trans hmin2 (s.lo v hv)
    · intro v hv
      by_cases e : v = u
      · subst e; rw [upd_same]; omega
      · rw [hlow v e]
        simp only [List.mem_append, List.mem_cons] at hv
        rcases hv with hv | hv | rfl | hv
        · exact absurd hv e
        · exact s2.pos v (by simp [hv])
        · exact hpn
        · exact s.pos v (by simp [hv])
    · intro v hv i hi
      simp only [List.mem_append, List.mem_cons] at hv
      rcases hv with hv | rfl | hv
      · rw [hru v hv]; exact s2.at_ v hv i hi
      · rw [hn]
        have := nodup_at h.ndo hi hposn
        have := s.top
        omega
      · rw [hr v hv]; exact s.at_ v hv i hi
    · intro v hv
      have h1 := hu u ku ru t rfl
      simp only [List.mem_append, List.mem_cons] at hv
      rcases hv with hv | rfl | hv
      · exact s2.rc v hv
      · exact h1
      · exact h1.trans (s.rc v hv)
    · intro v hv
      by_cases e : v = u
      · subst e
        rw [upd_same]
        by_cases hc : low v ≤ low n
        · rw [Nat.min_eq_left hc]; exact s2.to v (by simp)
        · rw [Nat.min_eq_right (by omega)]
          obtain ⟨x, h1, h2⟩ := s.to n (by simp)
          exact ⟨x, h1, (hu v ku ru t rfl).trans h2⟩
      · rw [hlow v e]
        simp only [List.mem_append, List.mem_cons] at hv
        rcases hv with hv | hv | rfl | hv
        · exact absurd hv e
        · exact s2.to v (by simp [hv])
        · exact s.to v (by simp)
        · exact s.to v (by simp [hv])
    · intro v hv x hx
      simp only [List.mem_append, List.mem_cons] at hv
      rcases hv with hv | rfl | hv
      · rcases s2.ed v hv x hx with h1 | ⟨i, h1, h2⟩
        · exact Or.inl h1
        · exact Or.inr ⟨i, h1, Nat.le_trans hmin h2⟩
      · obtain ⟨j, hj1, hj2⟩ := List.getElem_of_mem hx
        rcases s.en j x (by omega) (by rw [List.getElem?_eq_getElem hj1, hj2]) with h1 | ⟨i, h1, h2⟩
        · exact Or.inl h1
        · exact Or.inr ⟨i, h1, Nat.le_trans hmin2 h2⟩
      · rcases s.ed v hv x hx with h1 | ⟨i, h1, h2⟩
        · exact Or.inl h1
        · exact Or.inr ⟨i, h1, Nat.le_trans hmin2 h2⟩
    · intro j x hj hx
      rcases s2.en j x hj hx with h1 | ⟨i, h1, h2⟩
      · exact Or.inl h1
      · exact Or.inr ⟨i, h1, Nat.le_trans hmin h2⟩
  · intro v hv
    rw [ho]
    by_cases e : v = u
    · subst e
      rw [upd_same]
      have h1 : v ∈ opOf ((n, k, r) :: (v, ku, ru) :: t) ++ gs.flatten := by simp [opOf]
      constructor
      · intro h2; omega
      · intro h2; exact absurd h1 h2
    · rw [hlow v e]; exact h.un v hv
  · intro v hv
    rw [hlow v fun e => y5 (e ▸ hv)]
    exact h.dn v hv
end Go.V.Dig
set_option linter.unusedVariables false
namespace Go.V.Dig
variable {E : Nat → List Nat} {N : Nat} {low : Nat → Nat} {S t : List Sc} {gs : List (List Nat)}
theorem Inv.lowu {n k u ku : Nat} {r ru : List Nat} (h : Inv E N low ((n, k, r) :: (u, ku, ru) :: t) gs) (hl : low n = (opOf ((u, ku, ru) :: t)).length + 1) : min (low u) (low n) = low u := by
  obtain ⟨s, hu, s2, hu2, ht⟩ := h.ok
  have := s2.top
  rw [mem_opOf_len] at hl
  omega
theorem Inv.pop {n k : Nat} {r : List Nat} (h : Inv E N low ((n, k, r) :: t) gs) (hk : k = (E n).length) (hl : low n = (opOf t).length + 1) :
    Inv E N (fun v => if v ∈ n :: r then N + 1 else low v) t (gs ++ [n :: r]) := by
  obtain ⟨s, hu, ht⟩ := h.ok
  have hnd := h.nd
  simp only [opOf, List.nodup_append, List.mem_append] at hnd
  obtain ⟨⟨h1, h2, h3⟩, h4, h5⟩ := hnd
  have hop : opOf ((n, k, r) :: t) = opOf t ++ n :: r := rfl
  have hin : ∀ (i m : Nat), (opOf ((n, k, r) :: t))[i]? = some m → low n ≤ i + 1 → m ∈ n :: r := by
    intro i m hi hle
    rw [hop, List.getElem?_append_right (by omega)] at hi
    exact List.mem_of_getElem? hi
  have back : ∀ p : Nat, ∀ i : Nat, i < p → ∀ v : Nat, v ∈ n :: r → (opOf ((n, k, r) :: t))[i]? = some v → Rc E v n := by
    intro p
    induction p with
    | zero => intro i hi; omega
    | succ p ih =>
      intro i hi v hv hiv
      rcases List.mem_cons.1 hv with rfl | hr
      · exact .refl _
      · have a1 := s.at_ v hr i hiv
        have a2 := s.lo v hr
        obtain ⟨u, b1, b2⟩ := s.to v hv
        have a3 := s.pos v hv
        exact b2.trans (ih (low v - 1) (by omega) u (hin _ u b1 (by omega)) b1)
  have back : ∀ v ∈ n :: r, Rc E v n := by
    intro v hv
    obtain ⟨i, hi1, hi2⟩ := List.getElem_of_mem (show v ∈ opOf ((n, k, r) :: t) by rw [hop]; exact List.mem_append_right _ hv)
    exact back (i + 1) i (by omega) v hv (by rw [List.getElem?_eq_getElem hi1, hi2])
  have fwd : ∀ v ∈ n :: r, Rc E n v := by
    intro v hv
    rcases List.mem_cons.1 hv with rfl | hr
    · exact .refl _
    · exact s.rc v hr
  have hg : Good E (gs ++ [n :: r]) := by
    refine h.good.snoc (by simp) h2 (fun a ha hb => h5 a (Or.inr ha) a hb rfl) (fun a ha b hb => (back a ha).trans (fwd b hb)) ?_
    intro a ha b hb
    rcases List.mem_cons.1 ha with rfl | hr
    · obtain ⟨j, hj1, hj2⟩ := List.getElem_of_mem hb
      rcases s.en j b (by omega) (by rw [List.getElem?_eq_getElem hj1, hj2]) with h1 | ⟨i, h1, h2⟩
      · exact Or.inr h1
      · exact Or.inl (hin i b h1 h2)
    · rcases s.ed a hr b hb with h1 | ⟨i, h1, h2⟩
      · exact Or.inr h1
      · exact Or.inl (hin i b h1 h2)
  have hdis : ∀ v ∈ opOf t, v ∉ n :: r := fun v hv e => h3 v hv v e rfl
  have hfl : ∀ v, v ∈ (gs ++ [n :: r]).flatten ↔ v ∈ gs.flatten ∨ v ∈ n :: r := by intro v; rw [List.flatten_append, List.mem_append, List.flatten_singleton]
  have hmono := OK.mono (low' := fun v => if v ∈ n :: r then N + 1 else low v) (op' := opOf t) (D' := (· ∈ (gs ++ [n :: r]).flatten)) _ ht
    (fun v hv => by simp only [if_neg (hdis v hv)])
    (fun i v hi => by
      by_cases hb : i < (opOf t).length
      · rw [hop, List.getElem?_append_left hb] at hi
        exact Or.inl hi
      · rw [hop, List.getElem?_append_right (by omega)] at hi
        exact Or.inr ((hfl v).2 (Or.inr (List.mem_of_getElem? hi))))
    (fun i v hi _ => by
      rw [hop, List.getElem?_append_left (List.getElem?_eq_some_iff.1 hi).1]
      exact hi)
    (fun i hi => by rw [hop, List.getElem?_append_left hi]) h.ndo (fun v hv => (hfl v).2 (Or.inl hv))
    (fun i hi => by rw [hop, List.getElem?_append_left hi])
  refine ⟨hmono, ?_, ?_, ?_, ?_, hg⟩
  · rw [List.nodup_append]
    refine ⟨h1, hg.1, ?_⟩
    intro a ha b hb e
    subst e
    rcases (hfl a).1 hb with hb | hb
    · exact h5 a (Or.inl ha) a hb rfl
    · exact hdis a ha hb
  · intro v hv
    rw [List.mem_append, hfl] at hv
    refine h.lt v ?_
    rw [hop, List.mem_append, List.mem_append]
    rcases hv with hv | hv | hv
    · exact Or.inl (Or.inl hv)
    · exact Or.inr hv
    · exact Or.inl (Or.inr hv)
  · intro v hv
    rw [List.mem_append, hfl]
    by_cases e : v ∈ n :: r
    · simp only [if_pos e]
      constructor
      · intro h; omega
      · intro h; exact absurd (Or.inr (Or.inr e)) h
    · simp only [if_neg e]
      rw [h.un v hv, hop, List.mem_append, List.mem_append]
      constructor
      · intro a b
        rcases b with b | b | b
        · exact a (Or.inl (Or.inl b))
        · exact a (Or.inr b)
        · exact e b
      · intro a b
        rcases b with (b | b) | b
        · exact a (Or.inl b)
        · exact e b
        · exact a (Or.inr (Or.inl b))
  · intro v hv
    rcases (hfl v).1 hv with hv | hv
    · by_cases e : v ∈ n :: r
      · simp only [if_pos e]
      · simp only [if_neg e]; exact h.dn v hv
    · simp only [if_pos hv]
theorem Inv.start (E : Nat → List Nat) (N : Nat) : Inv E N (fun _ => 0) [] [] := ⟨trivial, by simp [opOf], by simp [opOf], by simp [opOf], by simp, Good.nil E⟩
def todo (E : Nat → List Nat) (N : Nat) (low : Nat → Nat) (S : List Sc) : Nat :=
  ((List.range N).map fun v => if low v = 0 then (E v).length + 2 else 0).sum + (S.map fun s => (E s.1).length + 1 - s.2.1).sum
theorem sum_le {l : List Nat} {f g : Nat → Nat} (h : ∀ v ∈ l, f v ≤ g v) : (l.map f).sum ≤ (l.map g).sum := by
  induction l with
  | nil => simp
  | cons a l ih =>
    have h1 := h a (by simp)
    have h2 := ih fun v hv => h v (by simp [hv])
    simp only [List.map_cons, List.sum_cons]; omega
theorem sum_lt {l : List Nat} {f g : Nat → Nat} (h : ∀ v ∈ l, f v ≤ g v) {a d : Nat} (ha : a ∈ l) (hd : f a + d ≤ g a) : (l.map f).sum + d ≤ (l.map g).sum := by
  induction l with
  | nil => simp at ha
  | cons b l ih =>
    simp only [List.map_cons, List.sum_cons]
    rcases List.mem_cons.1 ha with rfl | ha
    · have := sum_le (l := l) fun v hv => h v (by simp [hv])
      omega
    · have h1 := h b (by simp)
      have h2 := ih (fun v hv => h v (by simp [hv])) ha
      omega
theorem todo_push {n k m : Nat} {r : List Nat} (h : Inv E N low ((n, k, r) :: t) gs) (hk : (E n)[k]? = some m) (hm : m < N) (h0 : low m = 0) (x : Nat) (hx : x ≠ 0) :
    todo E N (upd low m x) ((m, 0, []) :: (n, k + 1, r) :: t) < todo E N low ((n, k, r) :: t) := by
  have hle : k < (E n).length := (List.getElem?_eq_some_iff.1 hk).1
  have := sum_lt (l := List.range N) (f := fun v => if upd low m x v = 0 then (E v).length + 2 else 0) (g := fun v => if low v = 0 then (E v).length + 2 else 0) (a := m) (d := (E m).length + 2)
    (fun v _ => by
      by_cases e : v = m
      · subst e; simp [upd_same, hx]
      · rw [upd_ne e]; exact Nat.le_refl _) (List.mem_range.2 hm) (by simp [upd_same, hx, h0])
  unfold todo
  simp only [List.map_cons, List.sum_cons]
  omega
theorem todo_same {low' : Nat → Nat} (h : ∀ v, v < N → (low' v = 0 ↔ low v = 0)) : ((List.range N).map fun v => if low' v = 0 then (E v).length + 2 else 0).sum = ((List.range N).map fun v => if low v = 0 then (E v).length + 2 else 0).sum := by
  congr 1
  refine List.map_congr_left fun v hv => ?_
  have := h v (List.mem_range.1 hv)
  by_cases e : low v = 0
  · simp [e, this.2 e]
  · simp [e, mt this.1 e]
end Go.V.Dig
set_option linter.unusedVariables false
namespace Go.Proofs.YtcapljamcepmkaaDoor
open Go.V
def ann_presagelaw12_lent : Ann := { rngs := [], loops := [(3, [(3, (.one .slice)), (4, (.one (.int .i64)))])], joins := [], blocks := [] }
set_option maxRecDepth 100000 in
def vc_presagelaw12_lent (a : Option Addr) (b c : Nat) (w : World) (R : Value → WP) : Prop :=  ∃ (x1 : lP [(3, shS), (4, shI)]), ∃ (x2 : lN [(3, shS), (4, shI)]), x1 none 0 0 0 w ∧ ∀ (I1 : Nat → Value) (o1 : Option Addr) (k1 k2 : Nat) (n1 : Int) (w1 : World), x1 o1 k1 k2 n1 w1 → br (decide (n1 < (↑b : Int))) (new w1 (oC [] 3) fun k3 w2 => idx a b n1 1 fun a1 => ∃ o2 k4 k5, World.cell? w2 a1 = some (vS o2 k4 k5) ∧ rS (apB 24 (Array.mk [vS (some (aM k3)) 0 0, vS o2 k4 k5])) w2 fun v1 w3 => ∃ o3 k6 k7, v1 = vS o3 k6 k7 ∧ new w3 (oC [vS o3 k6 k7] 24) fun k8 w4 => rS (apB 28 (Array.mk [vS o1 k1 k2, vS (some (aM k8)) 1 1])) w4 fun v2 w5 => ∃ o4 k9 k10, v2 = vS o4 k9 k10 ∧ inI (n1 + 1) ∧ x1 o4 k9 k10 (n1 + 1) w5 ∧ x2 o4 k9 k10 (n1 + 1) w5 < x2 o1 k1 k2 n1 w1) (R (vS o1 k1 k2) w1)
set_option maxRecDepth 100000 in
theorem run_presagelaw12_lent (a : Option Addr) (b c : Nat) (w : World) (R : Value → WP) (h : vc_presagelaw12_lent a b c w R) : Run Tryd.prog 18 [(.slice a b c)] w R := rv Tryd.func18 ann_presagelaw12_lent (by kernel_rfl) h

def ann_digraph_Components : Ann := { rngs := [], loops := [], joins := [], blocks := [] }
set_option maxRecDepth 100000 in
def vc_digraph_Components (a : Option Addr) (b c : Nat) (w : World) (R : Value → WP) : Prop :=  rE 41 [vS a b c] w fun v1 w1 => ∃ b1, v1 = vB b1 ∧ br (!b1) (R (vT (Array.mk [vS none 0 0, iI 1])) w1) (new w1 (oC [vS none 0 0] 28) fun k1 w2 => rE 42 [vS a b c, Value.func (Fn.func 43) (Array.mk []) (Array.mk [vP (some (aM k1))])] w2 fun v2 w3 => v2 = vT (Array.mk []) ∧ ∃ o1 k2 k3, World.cell? w3 (aM k1) = some (vS o1 k2 k3) ∧ rE 45 [vS o1 k2 k3, Value.func (Fn.func 46) (Array.mk []) (Array.mk [])] w3 fun v3 w4 => v3 = vT (Array.mk []) ∧ ∃ o2 k4 k5, World.cell? w4 (aM k1) = some (vS o2 k4 k5) ∧ R (vT (Array.mk [vS o2 k4 k5, iI 0])) w4)
set_option maxRecDepth 100000 in
theorem run_digraph_Components (a : Option Addr) (b c : Nat) (w : World) (R : Value → WP) (h : vc_digraph_Components a b c w R) : Run Tryd.prog 19 [(.slice a b c)] w R := rv Tryd.func19 ann_digraph_Components (by kernel_rfl) h

def ann_presagelaw12_awake : Ann := { rngs := [], loops := [], joins := [], blocks := [] }
set_option maxRecDepth 100000 in
def vc_presagelaw12_awake  (w : World) (R : Value → WP) : Prop :=  new w (oC [iI 1] 3) fun k1 w1 => new w1 (oC [iI 2] 3) fun k2 w2 => new w2 (oC [iI 1] 3) fun k3 w3 => new w3 (oC [vS (some (aM k1)) 1 1, vS (some (aM k2)) 1 1, vS (some (aM k3)) 1 1, vS none 0 0] 24) fun k4 w4 => rE 19 [vS (some (aM k4)) 4 4] w4 fun v1 w5 => ∃ o1 k5 k6 n1, v1 = vT (Array.mk [vS o1 k5 k6, iI n1]) ∧ new w5 (oC [iI 1] 3) fun k7 w6 => new w6 (oC [iI 2] 3) fun k8 w7 => new w7 (oC [iI 1] 3) fun k9 w8 => new w8 (oC [vS (some (aM k7)) 1 1, vS (some (aM k8)) 1 1, vS (some (aM k9)) 1 1, vS none 0 0] 24) fun k10 w9 => new w9 (oC [iI 5] 3) fun k11 w10 => new w10 (oC [iI 7, iI 6] 3) fun k12 w11 => new w11 (oC [iI 8] 3) fun k13 w12 => new w12 (oC [vS (some (aM k11)) 1 1, vS (some (aM k12)) 2 2, vS none 0 0, vS (some (aM k13)) 1 1] 24) fun k14 w13 => rE 23 [vS (some (aM k10)) 4 4, vS (some (aM k14)) 4 4] w13 fun v2 w14 => ∃ o2 k15 k16 n2, v2 = vT (Array.mk [vS o2 k15 k16, iI n2]) ∧ br (n1 == 0) (br (n2 == 0) (new w14 (oC [iI 0] 3) fun k17 w15 => new w15 (oC [iI 1, iI 2] 3) fun k18 w16 => new w16 (oC [iI 3] 3) fun k19 w17 => new w17 (oC [vS (some (aM k17)) 1 1, vS (some (aM k18)) 2 2, vS (some (aM k19)) 1 1] 24) fun k20 w18 => rE 21 [vS o1 k5 k6, vS (some (aM k20)) 3 3] w18 fun v3 w19 => ∃ b1, v3 = vB b1 ∧ br b1 (new w19 (oC [iI 5, iI 6, iI 7] 3) fun k21 w20 => new w20 (oC [iI 6, iI 7] 3) fun k22 w21 => new w21 (oC [iI 6, iI 7] 3) fun k23 w22 => new w22 (oC [iI 8] 3) fun k24 w23 => new w23 (oC [vS (some (aM k21)) 3 3, vS (some (aM k22)) 2 2, vS (some (aM k23)) 2 2, vS (some (aM k24)) 1 1] 24) fun k25 w24 => rE 21 [vS o2 k15 k16, vS (some (aM k25)) 4 4] w24 fun v4 w25 => ∃ b2, v4 = vB b2 ∧ R (vB b2) w25) (R (vB false) w19)) (R (vB false) w14)) (R (vB false) w14)
set_option maxRecDepth 100000 in
theorem run_presagelaw12_awake  (w : World) (R : Value → WP) (h : vc_presagelaw12_awake  w R) : Run Tryd.prog 22 [] w R := rv Tryd.func22 ann_presagelaw12_awake (by kernel_rfl) h

def ann_digraph_Solve : Ann := { rngs := [], loops := [(4, [(22, (.one (.int .i64)))])], joins := [(2, [(19, (.one .bool))])], blocks := [] }
set_option maxRecDepth 100000 in
def vc_digraph_Solve (a : Option Addr) (b c : Nat) (d : Option Addr) (e f : Nat) (w : World) (R : Value → WP) : Prop :=  new w (oC [vS a b c] 28) fun k1 w1 => new w1 (oC [vS d e f] 28) fun k2 w2 => ∃ (x1 : lP [(19, shB)]), (∃ o1 k3 k4, World.cell? w2 (aM k1) = some (vS o1 k3 k4) ∧ rE 41 [vS o1 k3 k4] w2 fun v1 w3 => ∃ b1, v1 = vB b1 ∧ br (!b1) (x1 true w3) (∃ o2 k5 k6, World.cell? w3 (aM k2) = some (vS o2 k5 k6) ∧ ∃ o3 k7 k8, World.cell? w3 (aM k1) = some (vS o3 k7 k8) ∧ x1 ((↑k5 : Int) != (↑k7 : Int)) w3)) ∧ ∀ (I1 : Nat → Value) (b2 : Bool) (w4 : World), x1 b2 w4 → br b2 (R (vT (Array.mk [vS none 0 0, iI 1])) w4) (∃ o4 k9 k10, World.cell? w4 (aM k2) = some (vS o4 k9 k10) ∧ ∃ (x2 : lP [(22, shI)]), ∃ (x3 : lN [(22, shI)]), x2 0 w4 ∧ ∀ (I2 : Nat → Value) (n1 : Int) (w5 : World), x2 n1 w5 → br (decide (n1 < (↑k9 : Int))) (idx o4 k9 n1 1 fun a1 => ∃ o5 k11 k12, World.cell? w5 a1 = some (vS o5 k11 k12) ∧ rE 49 [vS o5 k11 k12, Value.func (Fn.func 50) (Array.mk []) (Array.mk [])] w5 fun v2 w6 => ∃ b3, v2 = vB b3 ∧ br b3 (R (vT (Array.mk [vS none 0 0, iI 1])) w6) (inI (n1 + 1) ∧ x2 (n1 + 1) w6 ∧ x3 (n1 + 1) w6 < x3 n1 w5)) (∃ o6 k13 k14, World.cell? w5 (aM k1) = some (vS o6 k13 k14) ∧ mkOk (↑k13 : Int) (↑k13 : Int) 8 ∧ new w5 (Obj.cells (Array.mk (reps (Int.toNat (↑k13 : Int)) [vP none])) 67) fun k15 w7 => new w7 (oC [vS none 0 0] 64) fun k16 w8 => st1 w8 (aM k16) (vS (some (aM k15)) (Int.toNat (↑k13 : Int)) (Int.toNat (↑k13 : Int))) fun w9 => ∃ o7 k17 k18, World.cell? w9 (aM k1) = some (vS o7 k17 k18) ∧ mkOk (↑k17 : Int) (↑k17 : Int) 24 ∧ new w9 (Obj.cells (Array.mk (reps (Int.toNat (↑k17 : Int)) [vS none 0 0])) 24) fun k19 w10 => new w10 (oC [vS none 0 0] 28) fun k20 w11 => st1 w11 (aM k20) (vS (some (aM k19)) (Int.toNat (↑k17 : Int)) (Int.toNat (↑k17 : Int))) fun w12 => ∃ o8 k21 k22, World.cell? w12 (aM k1) = some (vS o8 k21 k22) ∧ rE 42 [vS o8 k21 k22, Value.func (Fn.func 51) (Array.mk []) (Array.mk [vP (some (aM k16)), vP (some (aM k2)), vP (some (aM k1)), vP (some (aM k20))])] w12 fun v3 w13 => v3 = vT (Array.mk []) ∧ ∃ o9 k23 k24, World.cell? w13 (aM k20) = some (vS o9 k23 k24) ∧ R (vT (Array.mk [vS o9 k23 k24, iI 0])) w13))
set_option maxRecDepth 100000 in
theorem run_digraph_Solve (a : Option Addr) (b c : Nat) (d : Option Addr) (e f : Nat) (w : World) (R : Value → WP) (h : vc_digraph_Solve a b c d e f w R) : Run Tryd.prog 23 [(.slice a b c), (.slice d e f)] w R := rv Tryd.func23 ann_digraph_Solve (by kernel_rfl) h

def ann_presagelaw12_pick : Ann := { rngs := [], loops := [], joins := [], blocks := [] }
set_option maxRecDepth 100000 in
def vc_presagelaw12_pick (a b : Int) (w : World) (R : Value → WP) : Prop :=  br (decide (a < 0)) (inI (a + 1) ∧ inI (0 - (a + 1)) ∧ nz b ∧ R (iI (Int.tmod (0 - (a + 1)) b)) w) (nz b ∧ R (iI (Int.tmod a b)) w)
set_option maxRecDepth 100000 in
theorem run_presagelaw12_pick (a b : Int) (w : World) (R : Value → WP) (h : vc_presagelaw12_pick a b w R) : Run Tryd.prog 25 [(.int .i64 a), (.int .i64 b)] w R := rv Tryd.func25 ann_presagelaw12_pick (by kernel_rfl) h

def ann_digraph_right : Ann := { rngs := [], loops := [], joins := [], blocks := [] }
set_option maxRecDepth 100000 in
def vc_digraph_right (a : Option Addr) (b c : Nat) (w : World) (R : Value → WP) : Prop :=  new w (oC [vS a b c] 28) fun k1 w1 => ∃ o1 k2 k3, World.cell? w1 (aM k1) = some (vS o1 k2 k3) ∧ rE 68 [vS o1 k2 k3, Value.func (Fn.func 69) (Array.mk []) (Array.mk [vP (some (aM k1))])] w1 fun v1 w2 => ∃ b1, v1 = vB b1 ∧ R (vB !b1) w2
set_option maxRecDepth 100000 in
theorem run_digraph_right (a : Option Addr) (b c : Nat) (w : World) (R : Value → WP) (h : vc_digraph_right a b c w R) : Run Tryd.prog 41 [(.slice a b c)] w R := rv Tryd.func41 ann_digraph_right (by kernel_rfl) h

def ann_digraph_each : Ann := { rngs := [], loops := [(5, [(26, (.one (.int .i64)))]), (12, []), (14, []), (30, [(170, (.one (.int .i64)))])], joins := [(26, [])], blocks := [] }
set_option maxRecDepth 100000 in
def vc_digraph_each (a : Option Addr) (b c : Nat) (d : FuncId) (e : List Value) (w : World) (R : Value → WP) : Prop :=  mkOk (↑b : Int) (↑b : Int) 8 ∧ new w (Obj.cells (Array.mk (reps (Int.toNat (↑b : Int)) [iI 0])) 3) fun k1 w1 => new w1 (oC [vS none 0 0] 24) fun k2 w2 => st1 w2 (aM k2) (vS (some (aM k1)) (Int.toNat (↑b : Int)) (Int.toNat (↑b : Int))) fun w3 => inI ((↑b : Int) + 1) ∧ new w3 (oC [vS none 0 0] 24) fun k3 w4 => new w4 (oC [vS none 0 0] 101) fun k4 w5 => ∃ (x1 : lP [(26, shI)]), ∃ (x2 : lN [(26, shI)]), x1 0 w5 ∧ ∀ (I1 : Nat → Value) (n1 : Int) (w6 : World), x1 n1 w6 → br (decide (n1 < (↑b : Int))) (∃ o1 k5 k6, World.cell? w6 (aM k2) = some (vS o1 k5 k6) ∧ idx o1 k5 n1 1 fun a1 => ∃ n2, World.cell? w6 a1 = some (iI n2) ∧ br (decide (0 < n2)) (inI (n1 + 1) ∧ x1 (n1 + 1) w6 ∧ x2 (n1 + 1) w6 < x2 n1 w6) (new w6 (Obj.map (Array.mk []) 0) fun k7 w7 => ∃ o2 k8 k9, World.cell? w7 (aM k3) = some (vS o2 k8 k9) ∧ inI ((↑k8 : Int) + 1) ∧ RunS Proofs.Tryd.prog (Instr.mapUpdate 105 (Value.map (some k7)) (iI n1) (iI ((↑k8 : Int) + 1))) w7 fun (x3 : Unit) (w8 : World) => rE 71 [iI n1, vP (some (aM k3)), vP (some (aM k2)), vP (some (aM k4))] w8 fun v1 w9 => v1 = vT (Array.mk []) ∧ ∃ (x4 : lP []), ∃ (x5 : lN []), x4 w9 ∧ ∀ (I2 : Nat → Value) (w10 : World), x4 w10 → ∃ o3 k10 k11, World.cell? w10 (aM k4) = some (vS o3 k10 k11) ∧ br (decide (0 < (↑k10 : Int))) (∃ o4 k12 k13, World.cell? w10 (aM k4) = some (vS o4 k12 k13) ∧ ∃ o5 k14 k15, World.cell? w10 (aM k4) = some (vS o5 k14 k15) ∧ inI ((↑k14 : Int) - 1) ∧ idx o4 k12 ((↑k14 : Int) - 1) 2 fun a2 => ∃ (x6 : lP []), ∃ (x7 : lN []), x6 w10 ∧ ∀ (I3 : Nat → Value) (w11 : World), x6 w11 → ∀ w12, drawn w11 w12 → ∃ (I4 : World → Prop), I4 w12 ∧ ∃ n3, (∀ w13, I4 w13 → World.cell? w13 (Addr.add a2 1) = some (iI n3)) ∧ ∃ n4, (∀ w14, I4 w14 → World.cell? w14 a2 = some (iI n4)) ∧ idx a b n4 1 fun a3 => ∃ o6 k16 k17, (∀ w15, I4 w15 → World.cell? w15 a3 = some (vS o6 k16 k17)) ∧ br (decide (n3 < (↑k16 : Int))) (∀ w16, drawn w12 w16 → ∃ (I5 : World → Prop), I5 w16 ∧ ∃ n5, (∀ w17, I5 w17 → World.cell? w17 a2 = some (iI n5)) ∧ idx a b n5 1 fun a4 => ∃ o7 k18 k19, (∀ w18, I5 w18 → World.cell? w18 a4 = some (vS o7 k18 k19)) ∧ ∃ n6, (∀ w19, I5 w19 → World.cell? w19 (Addr.add a2 1) = some (iI n6)) ∧ idx o7 k18 n6 1 fun a5 => ∃ n7, (∀ w20, I5 w20 → World.cell? w20 a5 = some (iI n7)) ∧ ∃ n8, World.cell? w16 (Addr.add a2 1) = some (iI n8) ∧ inI (n8 + 1) ∧ st1 w16 (Addr.add a2 1) (iI (n8 + 1)) fun w21 => ∃ o8 k20 k21, World.cell? w21 (aM k2) = some (vS o8 k20 k21) ∧ idx o8 k20 n7 1 fun a6 => ∃ n9, World.cell? w21 a6 = some (iI n9) ∧ br (n9 == 0) (∃ o9 k22 k23, World.cell? w21 (aM k3) = some (vS o9 k22 k23) ∧ inI ((↑k22 : Int) + 1) ∧ RunS Proofs.Tryd.prog (Instr.mapUpdate 105 (Value.map (some k7)) (iI n7) (iI ((↑k22 : Int) + 1))) w21 fun (x8 : Unit) (w22 : World) => rE 71 [iI n7, vP (some (aM k3)), vP (some (aM k2)), vP (some (aM k4))] w22 fun v2 w23 => v2 = vT (Array.mk []) ∧ x4 w23 ∧ x5 w23 < x5 w10) (∀ w24, drawn w21 w24 → ∃ (I6 : World → Prop), I6 w24 ∧ ∃ o10 k24 k25, (∀ w25, I6 w25 → World.cell? w25 (aM k2) = some (vS o10 k24 k25)) ∧ ∃ n10, (∀ w26, I6 w26 → World.cell? w26 a2 = some (iI n10)) ∧ ∃ o11 k26 k27, (∀ w27, I6 w27 → World.cell? w27 (aM k2) = some (vS o11 k26 k27)) ∧ ∃ n11, (∀ w28, I6 w28 → World.cell? w28 a2 = some (iI n11)) ∧ idx o11 k26 n11 1 fun a7 => ∃ n12, (∀ w29, I6 w29 → World.cell? w29 a7 = some (iI n12)) ∧ ∃ o12 k28 k29, (∀ w30, I6 w30 → World.cell? w30 (aM k2) = some (vS o12 k28 k29)) ∧ idx o12 k28 n7 1 fun a8 => ∃ n13, (∀ w31, I6 w31 → World.cell? w31 a8 = some (iI n13)) ∧ idx o10 k24 n10 1 fun a9 => st1 w24 a9 (iI (if n13 < n12 then n13 else n12)) fun w32 => x6 w32 ∧ x7 w32 < x7 w11)) (∃ n14, World.cell? w12 a2 = some (iI n14) ∧ ∃ o13 k30 k31, World.cell? w12 (aM k4) = some (vS o13 k30 k31) ∧ ∃ o14 k32 k33, World.cell? w12 (aM k4) = some (vS o14 k32 k33) ∧ inI ((↑k32 : Int) - 1) ∧ slc o13 k30 k31 none (some ((↑k32 : Int) - 1)) none 2 fun (o15 : Option Addr) (k34 k35 : Nat) => st1 w12 (aM k4) (vS o15 k34 k35) fun w33 => ∃ (x9 : lP []), (∃ o16 k36 k37, World.cell? w33 (aM k4) = some (vS o16 k36 k37) ∧ br (decide (0 < (↑k36 : Int))) (∃ o17 k38 k39, World.cell? w33 (aM k4) = some (vS o17 k38 k39) ∧ ∃ o18 k40 k41, World.cell? w33 (aM k4) = some (vS o18 k40 k41) ∧ inI ((↑k40 : Int) - 1) ∧ idx o17 k38 ((↑k40 : Int) - 1) 2 fun a10 => ∃ n15, World.cell? w33 a10 = some (iI n15) ∧ ∀ w34, drawn w33 w34 → ∃ (I7 : World → Prop), I7 w34 ∧ ∃ o19 k42 k43, (∀ w35, I7 w35 → World.cell? w35 (aM k2) = some (vS o19 k42 k43)) ∧ ∃ o20 k44 k45, (∀ w36, I7 w36 → World.cell? w36 (aM k2) = some (vS o20 k44 k45)) ∧ idx o20 k44 n15 1 fun a11 => ∃ n16, (∀ w37, I7 w37 → World.cell? w37 a11 = some (iI n16)) ∧ ∃ o21 k46 k47, (∀ w38, I7 w38 → World.cell? w38 (aM k2) = some (vS o21 k46 k47)) ∧ idx o21 k46 n14 1 fun a12 => ∃ n17, (∀ w39, I7 w39 → World.cell? w39 a12 = some (iI n17)) ∧ idx o19 k42 n15 1 fun a13 => st1 w34 a13 (iI (if n17 < n16 then n17 else n16)) fun w40 => x9 w40) (x9 w33)) ∧ ∀ (I8 : Nat → Value) (w41 : World), x9 w41 → ∀ w42, drawn w41 w42 → ∃ (I9 : World → Prop), I9 w42 ∧ ∃ o22 k48 k49, (∀ w43, I9 w43 → World.cell? w43 (aM k2) = some (vS o22 k48 k49)) ∧ idx o22 k48 n14 1 fun a14 => ∃ n18, (∀ w44, I9 w44 → World.cell? w44 a14 = some (iI n18)) ∧ RunS Proofs.Tryd.prog (Instr.lookup 105 (Value.map (some k7)) (iI n14) false) w42 fun v3 w45 => ∃ n19, v3 = iI n19 ∧ I9 w45 ∧ br (n18 == n19) (∃ o23 k50 k51, World.cell? w45 (aM k3) = some (vS o23 k50 k51) ∧ RunS Proofs.Tryd.prog (Instr.lookup 105 (Value.map (some k7)) (iI n14) false) w45 fun v4 w46 => ∃ n20, v4 = iI n20 ∧ inI (n20 - 1) ∧ slc o23 k50 k51 (some (n20 - 1)) none none 1 fun (o24 : Option Addr) (k52 k53 : Nat) => rE 55 [vS o24 k52 k53] w46 fun v5 w47 => ∃ o25 k54 k55, v5 = vS o25 k54 k55 ∧ ∃ o26 k56 k57, World.cell? w47 (aM k3) = some (vS o26 k56 k57) ∧ RunS Proofs.Tryd.prog (Instr.lookup 105 (Value.map (some k7)) (iI n14) false) w47 fun v6 w48 => ∃ n21, v6 = iI n21 ∧ inI (n21 - 1) ∧ slc o26 k56 k57 none (some (n21 - 1)) none 1 fun (o27 : Option Addr) (k58 k59 : Nat) => st1 w48 (aM k3) (vS o27 k58 k59) fun w49 => ∃ (x10 : lP [(170, shI)]), ∃ (x11 : lN [(170, shI)]), x10 0 w49 ∧ ∀ (I10 : Nat → Value) (n22 : Int) (w50 : World), x10 n22 w50 → br (decide (n22 < (↑k54 : Int))) (idx o25 k54 n22 1 fun a15 => ∃ n23, World.cell? w50 a15 = some (iI n23) ∧ ∃ o28 k60 k61, World.cell? w50 (aM k2) = some (vS o28 k60 k61) ∧ idx o28 k60 n23 1 fun a16 => st1 w50 a16 (iI ((↑b : Int) + 1)) fun w51 => inI (n22 + 1) ∧ x10 (n22 + 1) w51 ∧ x11 (n22 + 1) w51 < x11 n22 w50) (ifT (Proofs.YtcapljamcepmkaaDoor.Fn d) (rE d (vS o25 k54 k55 :: e) w50 fun v7 w52 => v7 = vT (Array.mk []) ∧ x4 w52 ∧ x5 w52 < x5 w10))) (x4 w45 ∧ x5 w45 < x5 w10))) (inI (n1 + 1) ∧ x1 (n1 + 1) w10 ∧ x2 (n1 + 1) w10 < x2 n1 w6))) (R (vT (Array.mk [])) w6)
set_option maxRecDepth 100000 in
theorem run_digraph_each (a : Option Addr) (b c : Nat) (d : FuncId) (e : List Value) (w : World) (R : Value → WP) (h : vc_digraph_each a b c d e w R) : Run Tryd.prog 42 [(.slice a b c), (.func (.func d) #[] ⟨e⟩)] w R := rv Tryd.func42 ann_digraph_each (by kernel_rfl) h

abbrev n_digraph_Components_S1 : FuncId := 43
def ann_digraph_Components_S1 : Ann := { rngs := [], loops := [], joins := [], blocks := [] }
set_option maxRecDepth 100000 in
def vc_digraph_Components_S1 (a : Option Addr) (b c : Nat) (d : Addr) (w : World) (R : Value → WP) : Prop :=  rE 44 [vS a b c] w fun v1 w1 => v1 = vT (Array.mk []) ∧ ∃ o1 k1 k2, World.cell? w1 d = some (vS o1 k1 k2) ∧ new w1 (oC [vS a b c] 24) fun k3 w2 => rS (apB 28 (Array.mk [vS o1 k1 k2, vS (some (aM k3)) 1 1])) w2 fun v2 w3 => ∃ o2 k4 k5, v2 = vS o2 k4 k5 ∧ st1 w3 d (vS o2 k4 k5) fun w4 => R (vT (Array.mk [])) w4
set_option maxRecDepth 100000 in
theorem run_digraph_Components_S1 (a : Option Addr) (b c : Nat) (d : Addr) (w : World) (R : Value → WP) (h : vc_digraph_Components_S1 a b c d w R) : Run Tryd.prog 43 [(.slice a b c), (.pointer (some d))] w R := rv Tryd.func43 ann_digraph_Components_S1 (by kernel_rfl) h

def ann_digraph_Components_S2 : Ann := { rngs := [], loops := [], joins := [], blocks := [] }
set_option maxRecDepth 100000 in
def vc_digraph_Components_S2 (a : Option Addr) (b c : Nat) (d : Option Addr) (e f : Nat) (w : World) (R : Value → WP) : Prop :=  ∀ w1, drawn w w1 → ∃ (I1 : World → Prop), I1 w1 ∧ idx a b 0 1 fun a1 => ∃ n1, (∀ w2, I1 w2 → World.cell? w2 a1 = some (iI n1)) ∧ idx d e 0 1 fun a2 => ∃ n2, (∀ w3, I1 w3 → World.cell? w3 a2 = some (iI n2)) ∧ inI (n1 - n2) ∧ R (iI (n1 - n2)) w1
set_option maxRecDepth 100000 in
theorem run_digraph_Components_S2 (a : Option Addr) (b c : Nat) (d : Option Addr) (e f : Nat) (w : World) (R : Value → WP) (h : vc_digraph_Components_S2 a b c d e f w R) : Run Tryd.prog 46 [(.slice a b c), (.slice d e f)] w R := rv Tryd.func46 ann_digraph_Components_S2 (by kernel_rfl) h

def ann_digraph_Solve_S1 : Ann := { rngs := [], loops := [], joins := [], blocks := [] }
set_option maxRecDepth 100000 in
def vc_digraph_Solve_S1 (a : Int) (w : World) (R : Value → WP) : Prop :=  br (decide (a < 0)) (R (vB true) w) (R (vB (decide (1024 ≤ a))) w)
set_option maxRecDepth 100000 in
theorem run_digraph_Solve_S1 (a : Int) (w : World) (R : Value → WP) (h : vc_digraph_Solve_S1 a w R) : Run Tryd.prog 50 [(.int .i64 a)] w R := rv Tryd.func50 ann_digraph_Solve_S1 (by kernel_rfl) h

abbrev n_digraph_Solve_S2 : FuncId := 51
def ann_digraph_Solve_S2 : Ann := { rngs := [], loops := [(2, [(19, (.one (.int .i64)))]), (7, [(30, (.one (.int .i64)))]), (11, [(45, (.one (.int .i64)))]), (19, [(68, (.one (.int .i64)))])], joins := [], blocks := [] }
set_option maxRecDepth 100000 in
def vc_digraph_Solve_S2 (a : Option Addr) (b c : Nat) (d e f g : Addr) (w : World) (R : Value → WP) : Prop :=  rE 52 [iI 1024, vS none 0 0] w fun v1 w1 => ∃ o1, v1 = vP o1 ∧ ∃ (x1 : lP [(19, shI)]), ∃ (x2 : lN [(19, shI)]), x1 0 w1 ∧ ∀ (I1 : Nat → Value) (n1 : Int) (w2 : World), x1 n1 w2 → br (decide (n1 < (↑b : Int))) (idx a b n1 1 fun a1 => ∃ n2, World.cell? w2 a1 = some (iI n2) ∧ ∃ o2 k1 k2, World.cell? w2 d = some (vS o2 k1 k2) ∧ idx o2 k1 n2 1 fun a2 => st1 w2 a2 (vP o1) fun w3 => inI (n1 + 1) ∧ x1 (n1 + 1) w3 ∧ x2 (n1 + 1) w3 < x2 n1 w2) (∃ (x3 : lP [(30, shI)]), ∃ (x4 : lN [(30, shI)]), x3 0 w2 ∧ ∀ (I2 : Nat → Value) (n3 : Int) (w4 : World), x3 n3 w4 → br (decide (n3 < (↑b : Int))) (idx a b n3 1 fun a3 => ∃ n4, World.cell? w4 a3 = some (iI n4) ∧ ∃ o3 k3 k4, World.cell? w4 e = some (vS o3 k3 k4) ∧ idx o3 k3 n4 1 fun a4 => ∃ o4 k5 k6, World.cell? w4 a4 = some (vS o4 k5 k6) ∧ rE 53 [vP o1, vS o4 k5 k6] w4 fun v2 w5 => ∃ n5, v2 = iI n5 ∧ ∃ o5 k7 k8, World.cell? w5 f = some (vS o5 k7 k8) ∧ idx o5 k7 n4 1 fun a5 => ∃ o6 k9 k10, World.cell? w5 a5 = some (vS o6 k9 k10) ∧ ∃ (x5 : lP [(45, shI)]), ∃ (x6 : lN [(45, shI)]), x5 0 w5 ∧ ∀ (I3 : Nat → Value) (n6 : Int) (w6 : World), x5 n6 w6 → br (decide (n6 < (↑k9 : Int))) (idx o6 k9 n6 1 fun a6 => ∃ n7, World.cell? w6 a6 = some (iI n7) ∧ ∃ o7 k11 k12, World.cell? w6 d = some (vS o7 k11 k12) ∧ idx o7 k11 n7 1 fun a7 => ∃ o8, World.cell? w6 a7 = some (vP o8) ∧ ptrB Proofs.YtcapljamcepmkaaDoor.Ty (fun (x7 : Sem Value) (I4 : Value → Prop) => ∃ v3, Sem.run Proofs.Tryd.prog x7 w6 = Result.ok v3 w6 ∧ I4 v3) BinOp.neq 67 (Operand.tmp 52) (Operand.tmp 53) o8 o1 fun b1 => br b1 (∃ o9 k13 k14, World.cell? w6 d = some (vS o9 k13 k14) ∧ idx o9 k13 n7 1 fun a8 => ∃ o10, World.cell? w6 a8 = some (vP o10) ∧ new w6 (oC [vP o10] 67) fun k15 w7 => rE 54 [vP o1, vS (some (aM k15)) 1 1] w7 fun v4 w8 => ∃ n8, v4 = iI n8 ∧ inI (n6 + 1) ∧ x5 (n6 + 1) w8 ∧ x6 (n6 + 1) w8 < x6 n6 w6) (inI (n6 + 1) ∧ x5 (n6 + 1) w6 ∧ x6 (n6 + 1) w6 < x6 n6 w6)) (inI (n3 + 1) ∧ x3 (n3 + 1) w6 ∧ x4 (n3 + 1) w6 < x4 n3 w4)) (rE 35 [vP o1] w4 fun v5 w9 => ∃ o11 k16 k17, v5 = vS o11 k16 k17 ∧ ∃ (x8 : lP [(68, shI)]), ∃ (x9 : lN [(68, shI)]), x8 0 w9 ∧ ∀ (I5 : Nat → Value) (n9 : Int) (w10 : World), x8 n9 w10 → br (decide (n9 < (↑b : Int))) (idx a b n9 1 fun a9 => ∃ n10, World.cell? w10 a9 = some (iI n10) ∧ ∀ w11, drawn w10 w11 → ∃ (I6 : World → Prop), I6 w11 ∧ ∃ o12 k18 k19, (∀ w12, I6 w12 → World.cell? w12 g = some (vS o12 k18 k19)) ∧ rE 55 [vS o11 k16 k17] w11 fun v6 w13 => ∃ o13 k20 k21, v6 = vS o13 k20 k21 ∧ I6 w13 ∧ idx o12 k18 n10 1 fun a10 => st1 w13 a10 (vS o13 k20 k21) fun w14 => inI (n9 + 1) ∧ x8 (n9 + 1) w14 ∧ x9 (n9 + 1) w14 < x9 n9 w10) (R (vT (Array.mk [])) w10)))
set_option maxRecDepth 100000 in
theorem run_digraph_Solve_S2 (a : Option Addr) (b c : Nat) (d e f g : Addr) (w : World) (R : Value → WP) (h : vc_digraph_Solve_S2 a b c d e f g w R) : Run Tryd.prog 51 [(.slice a b c), (.pointer (some d)), (.pointer (some e)), (.pointer (some f)), (.pointer (some g))] w R := rv Tryd.func51 ann_digraph_Solve_S2 (by kernel_rfl) h

def ann_slices_ContainsFunc_LLint_int_ : Ann := { rngs := [], loops := [], joins := [], blocks := [] }
set_option maxRecDepth 100000 in
def vc_slices_ContainsFunc_LLint_int_ (a : Option Addr) (b c : Nat) (d : FuncId) (e : List Value) (w : World) (R : Value → WP) : Prop :=  rE 90 [vS a b c, Value.func (Fn.func d) (Array.mk []) (Array.mk e)] w fun v1 w1 => ∃ n1, v1 = iI n1 ∧ R (vB (decide (0 ≤ n1))) w1
set_option maxRecDepth 100000 in
theorem run_slices_ContainsFunc_LLint_int_ (a : Option Addr) (b c : Nat) (d : FuncId) (e : List Value) (w : World) (R : Value → WP) (h : vc_slices_ContainsFunc_LLint_int_ a b c d e w R) : Run Tryd.prog 68 [(.slice a b c), (.func (.func d) #[] ⟨e⟩)] w R := rv Tryd.func68 ann_slices_ContainsFunc_LLint_int_ (by kernel_rfl) h

def ann_digraph_right_S1 : Ann := { rngs := [], loops := [], joins := [], blocks := [] }
set_option maxRecDepth 100000 in
def vc_digraph_right_S1 (a : Option Addr) (b c : Nat) (d : Addr) (w : World) (R : Value → WP) : Prop :=  rE 49 [vS a b c, Value.func (Fn.func 70) (Array.mk []) (Array.mk [vP (some d)])] w fun v1 w1 => ∃ b1, v1 = vB b1 ∧ R (vB b1) w1
set_option maxRecDepth 100000 in
theorem run_digraph_right_S1 (a : Option Addr) (b c : Nat) (d : Addr) (w : World) (R : Value → WP) (h : vc_digraph_right_S1 a b c d w R) : Run Tryd.prog 69 [(.slice a b c), (.pointer (some d))] w R := rv Tryd.func69 ann_digraph_right_S1 (by kernel_rfl) h

def ann_digraph_right_S1_S1 : Ann := { rngs := [], loops := [], joins := [], blocks := [] }
set_option maxRecDepth 100000 in
def vc_digraph_right_S1_S1 (a : Int) (b : Addr) (w : World) (R : Value → WP) : Prop :=  br (decide (a < 0)) (R (vB true) w) (∃ o1 k1 k2, World.cell? w b = some (vS o1 k1 k2) ∧ R (vB (decide ((↑k1 : Int) ≤ a))) w)
set_option maxRecDepth 100000 in
theorem run_digraph_right_S1_S1 (a : Int) (b : Addr) (w : World) (R : Value → WP) (h : vc_digraph_right_S1_S1 a b w R) : Run Tryd.prog 70 [(.int .i64 a), (.pointer (some b))] w R := rv Tryd.func70 ann_digraph_right_S1_S1 (by kernel_rfl) h

def ann_digraph_each_S1 : Ann := { rngs := [], loops := [], joins := [], blocks := [] }
set_option maxRecDepth 100000 in
def vc_digraph_each_S1 (a : Int) (b c d : Addr) (w : World) (R : Value → WP) : Prop :=  ∃ o1 k1 k2, World.cell? w b = some (vS o1 k1 k2) ∧ new w (oC [iI a] 3) fun k3 w1 => rS (apB 24 (Array.mk [vS o1 k1 k2, vS (some (aM k3)) 1 1])) w1 fun v1 w2 => ∃ o2 k4 k5, v1 = vS o2 k4 k5 ∧ st1 w2 b (vS o2 k4 k5) fun w3 => ∃ o3 k6 k7, World.cell? w3 c = some (vS o3 k6 k7) ∧ ∃ o4 k8 k9, World.cell? w3 b = some (vS o4 k8 k9) ∧ idx o3 k6 a 1 fun a1 => st1 w3 a1 (iI (↑k8 : Int)) fun w4 => ∃ o5 k10 k11, World.cell? w4 d = some (vS o5 k10 k11) ∧ new w4 (oC [iI a, iI 0] 103) fun k12 w5 => rS (apB 101 (Array.mk [vS o5 k10 k11, vS (some (aM k12)) 1 1])) w5 fun v2 w6 => ∃ o6 k13 k14, v2 = vS o6 k13 k14 ∧ st1 w6 d (vS o6 k13 k14) fun w7 => R (vT (Array.mk [])) w7
set_option maxRecDepth 100000 in
theorem run_digraph_each_S1 (a : Int) (b c d : Addr) (w : World) (R : Value → WP) (h : vc_digraph_each_S1 a b c d w R) : Run Tryd.prog 71 [(.int .i64 a), (.pointer (some b)), (.pointer (some c)), (.pointer (some d))] w R := rv Tryd.func71 ann_digraph_each_S1 (by kernel_rfl) h

def ann_slices_IndexFunc_LLint_int_ : Ann := { rngs := [], loops := [(2, [(8, (.one (.int .i64)))])], joins := [], blocks := [] }
set_option maxRecDepth 100000 in
def vc_slices_IndexFunc_LLint_int_ (a : Option Addr) (b c : Nat) (d : FuncId) (e : List Value) (w : World) (R : Value → WP) : Prop :=  ∃ (x1 : lP [(8, shI)]), ∃ (x2 : lN [(8, shI)]), x1 0 w ∧ ∀ (I1 : Nat → Value) (n1 : Int) (w1 : World), x1 n1 w1 → br (decide (n1 < (↑b : Int))) (idx a b n1 1 fun a1 => ∃ o1 k1 k2, World.cell? w1 a1 = some (vS o1 k1 k2) ∧ ifT (Proofs.YtcapljamcepmkaaDoor.Fn d) (rE d (vS o1 k1 k2 :: e) w1 fun v1 w2 => ∃ b1, v1 = vB b1 ∧ br b1 (R (iI n1) w2) (inI (n1 + 1) ∧ x1 (n1 + 1) w2 ∧ x2 (n1 + 1) w2 < x2 n1 w1))) (R (iI (-1)) w1)
set_option maxRecDepth 100000 in
theorem run_slices_IndexFunc_LLint_int_ (a : Option Addr) (b c : Nat) (d : FuncId) (e : List Value) (w : World) (R : Value → WP) (h : vc_slices_IndexFunc_LLint_int_ a b c d e w R) : Run Tryd.prog 90 [(.slice a b c), (.func (.func d) #[] ⟨e⟩)] w R := rv Tryd.func90 ann_slices_IndexFunc_LLint_int_ (by kernel_rfl) h

end Go.Proofs.YtcapljamcepmkaaDoor
set_option linter.unusedVariables false
namespace Go.V
def frv (l : List (Nat × Nat)) : List Value := l.flatMap fun x => [.int .i64 (x.1 : Int), .int .i64 (x.2 : Int)]
theorem frv_len : ∀ l, (frv l).length = l.length * 2
  | [] => rfl
  | x :: l => by
    have := frv_len l
    unfold frv at this ⊢
    rw [List.flatMap_cons, List.length_append, this]; simp; omega
theorem frv_snoc (l : List (Nat × Nat)) (a b : Nat) : frv l ++ [Value.int .i64 (a : Int), .int .i64 (b : Int)] = frv (l ++ [(a, b)]) := by simp [frv]
theorem ivn_setN (xs : List Nat) (i v : Nat) : (ivn xs).set i (.int .i64 (v : Int)) = ivn (xs.set i v) := by simp [ivn, List.map_set]
theorem ivn_snoc (xs : List Nat) (v : Nat) : ivn xs ++ [.int .i64 (v : Int)] = ivn (xs ++ [v]) := by simp [ivn]
end Go.V
namespace Go.Proofs.YtcapljamcepmkaaDoor
open Go.V
variable {w : World} {L : List Asn}
abbrev seaL (ko kl kw bl N : Nat) (oa : Option Addr) (oc : Nat) (wa : Option Addr) (wc : Nat) (op low : List Nat) (wk : List (Nat × Nat)) : List Asn :=
  [cel ko [.slice oa op.length oc], own 1 oa op.length oc (ivn op), cel kl [.slice (some ⟨bl, 0, none⟩) N N], cel bl (ivn low), cel kw [.slice wa wk.length wc], own 2 wa wk.length wc (frv wk)]
theorem d_enter {ko kl kw bl N n : Nat} {oa : Option Addr} {oc : Nat} {wa : Option Addr} {wc : Nat} {op low : List Nat} {wk : List (Nat × Nat)}
    (h : St w (seaL ko kl kw bl N oa oc wa wc op low wk ++ L)) (hN : low.length = N) (hn : n < N) (ho : op.length < N) (hw : wk.length < N) (hb : N * 24 ≤ 140737488355328) :
    rE 71 [.int .i64 (n : Int), .pointer (some (aM ko)), .pointer (some (aM kl)), .pointer (some (aM kw))] w fun v w' => v = .tuple (Array.mk []) ∧
      ∃ oa oc wa wc, St w' (seaL ko kl kw bl N oa oc wa wc (op ++ [n]) (low.set n (op.length + 1)) (wk ++ [(n, 0)]) ++ L) := by
  refine run_digraph_each_S1 (n : Int) (aM ko) (aM kl) (aM kw) w _ ?_
  refine ⟨_, _, _, (rdCel 0 h.l).cell0 (sub.refl _), newC_i h fun k3 w1 h => ?_⟩
  refine (app_one tyOk (rfl : kdOfT Ty _ = .slice _) (rfl : kdOfT Ty _ = .slice _) rfl rfl rfl (h.pick 7 [0, 2, 1, 3, 4, 5, 6]) rfl (by simp [oneC]) (by show (op.length + 1) * 8 ≤ _; omega) (by omega)).mono ?_
  rintro _ w2 ⟨oa', oc', rfl, h⟩
  rw [ivn_snoc] at h
  refine ⟨_, _, _, rfl, st1_i (h.pick 7 [2, 0, 3, 4, 5, 6]) (by simp) fun w3 h => ?_⟩
  refine ⟨_, _, _, (rdCel 2 h.l).cell0 (sub.refl _), _, _, _, (rdCel 0 h.l).cell0 (sub.refl _), idx_i rfl hn ?_⟩
  rw [add_lit0]
  refine st1_i (h.pick 6 [3, 0, 1, 2, 4, 5]) (by simp [ivn]; omega) fun w4 h => ?_
  refine ⟨_, _, _, (rdCel 4 h.l).cell0 (sub.refl _), newC_i h fun k12 w5 h => ?_⟩
  refine (app_one tyOk (rfl : kdOfT Ty _ = .slice _) (rfl : kdOfT Ty _ = .slice _) rfl rfl rfl (h.pick 7 [0, 6, 1, 2, 3, 4, 5]) rfl (by simp [oneC]) (by show (wk.length + 1) * 16 ≤ _; omega) (by omega)).mono ?_
  rintro _ w6 ⟨wa', wc', rfl, h⟩
  refine ⟨_, _, _, rfl, st1_i (h.pick 7 [6, 0, 2, 3, 4, 5]) (by simp) fun w7 h => ⟨rfl, oa', oc', wa', wc', ?_⟩⟩
  have l1 : (op ++ [n]).length = op.length + 1 := by simp
  have l2 : (wk ++ [(n, 0)]).length = wk.length + 1 := by simp
  unfold seaL
  rw [l1, l2, ← ivn_setN, ← frv_snoc]
  exact h.pick 6 [3, 4, 5, 2, 0, 1]
end Go.Proofs.YtcapljamcepmkaaDoor
set_option linter.unusedVariables false
namespace Go.V
theorem ex_min {X : Type} (P : X → Prop) (f : X → Nat) (h : ∃ x, P x) : ∃ x, P x ∧ ∀ y, P y → f x ≤ f y := by
  obtain ⟨x, hx⟩ := h
  generalize hn : f x = n
  induction n using Nat.strongRecOn generalizing x with
  | ind n ih =>
    by_cases hm : ∃ y, P y ∧ f y < n
    · obtain ⟨y, hy, hl⟩ := hm
      exact ih (f y) hl y hy rfl
    · exact ⟨x, hx, fun y hy => by rw [hn]; exact Nat.le_of_not_lt fun hl => hm ⟨y, hy, hl⟩⟩
open Classical in
noncomputable def mea {X : Type} (P : X → World → Prop) (f : X → Nat) (w : World) : Nat := if h : ∃ x, P x w then f (ex_min (fun x => P x w) f h).choose else 0
theorem mea_get {X : Type} {P : X → World → Prop} {f : X → Nat} {w : World} (h : ∃ x, P x w) : ∃ x, P x w ∧ f x = mea P f w := by
  have := (ex_min (fun x => P x w) f h).choose_spec
  refine ⟨_, this.1, ?_⟩
  unfold mea; rw [dif_pos h]
theorem mea_le {X : Type} {P : X → World → Prop} {f : X → Nat} {w : World} {x : X} (hx : P x w) : mea P f w ≤ f x := by
  have h : ∃ x, P x w := ⟨x, hx⟩
  have := (ex_min (fun x => P x w) f h).choose_spec
  unfold mea; rw [dif_pos h]; exact this.2 x hx
section
variable {w : World} {L : List Asn}
theorem own_cut {sz l c k : Nat} {a : Option Addr} {vs : List Value} (h : St w (own sz a l c vs :: L)) (hk : k ≤ l) : St w (own sz (slP a 0 c sz) k c (vs.take (k * sz)) :: L) := by
  rcases own_cases h with ⟨rfl, rfl, rfl, rfl⟩ | ⟨b, pre, cs, post, rfl, hc, h1, h2, h3⟩
  · have : k = 0 := by omega
    subst this
    have : slP none 0 0 sz = none := by simp [slP]
    rw [this]; simpa using h
  · have e : slP (some (⟨b, pre.length, none⟩ : Addr)) 0 c sz = some ⟨b, pre.length, none⟩ := by
      unfold slP; split
      · rfl
      · simp [mulS_eq, add_lit]
    have hle : k * sz ≤ l * sz := Nat.mul_le_mul_right _ hk
    rw [e]
    refine own_some' (cs := vs.drop (k * sz) ++ cs) (post := post) ?_ ?_ ?_ (by omega)
    · have e2 : vs.take (k * sz) ++ (vs.drop (k * sz) ++ cs ++ post) = vs ++ (cs ++ post) := by
        rw [← List.append_assoc, ← List.append_assoc, List.take_append_drop, List.append_assoc]
      rw [e2]; exact hc
    · rw [List.length_take]; omega
    · rw [← List.append_assoc, List.take_append_drop]; exact h2
theorem frv_get {l : List (Nat × Nat)} : ∀ {i n k : Nat}, l[i]? = some (n, k) → (frv l)[i * 2]? = some (.int .i64 (n : Int)) ∧ (frv l)[i * 2 + 1]? = some (.int .i64 (k : Int)) := by
  induction l with
  | nil => intro i n k h; simp at h
  | cons x l ih =>
    intro i n k h
    have e : frv (x :: l) = Value.int .i64 (x.1 : Int) :: Value.int .i64 (x.2 : Int) :: frv l := rfl
    rw [e]
    cases i with
    | zero => simp at h; subst h; simp
    | succ i =>
      simp only [List.getElem?_cons_succ] at h
      have := ih h
      rw [show (i + 1) * 2 = i * 2 + 1 + 1 from by omega, show i * 2 + 1 + 1 + 1 = (i * 2 + 1) + 1 + 1 from rfl]
      simpa using this
theorem frv_set1 {l : List (Nat × Nat)} : ∀ {i n k : Nat} (k' : Nat), l[i]? = some (n, k) → (frv l).set (i * 2 + 1) (.int .i64 (k' : Int)) = frv (l.set i (n, k')) := by
  induction l with
  | nil => intro i n k k' h; simp at h
  | cons x l ih =>
    intro i n k k' h
    have e : frv (x :: l) = Value.int .i64 (x.1 : Int) :: Value.int .i64 (x.2 : Int) :: frv l := rfl
    rw [e]
    cases i with
    | zero => simp at h; subst h; rfl
    | succ i =>
      simp only [List.getElem?_cons_succ] at h
      rw [show (i + 1) * 2 + 1 = (i * 2 + 1) + 1 + 1 from by omega, List.set_cons_succ, List.set_cons_succ, ih k' h]; rfl
theorem St.bring {M Q L : List Asn} (h : St w (M ++ (Q ++ L))) : St w (Q ++ (M ++ L)) := h.perm (by
  rw [← List.append_assoc, ← List.append_assoc]; exact List.perm_append_comm.append_right L)
theorem ivn_eq (xs : List Nat) : ivn xs = iv (xs.map Int.ofNat) := by simp [ivn, iv]
end
def wkOf (S : List Dig.Sc) : List (Nat × Nat) := (S.map fun s => (s.1, s.2.1)).reverse
theorem wkOf_cons (n k : Nat) (r : List Nat) (t : List Dig.Sc) : wkOf ((n, k, r) :: t) = wkOf t ++ [(n, k)] := by simp [wkOf]
theorem wkOf_len : ∀ (S : List Dig.Sc), (wkOf S).length ≤ (Dig.opOf S).length
  | [] => by simp [wkOf, Dig.opOf]
  | (n, k, r) :: t => by
    have := wkOf_len t
    rw [wkOf_cons, Dig.mem_opOf_len, List.length_append]; simp; omega
def lf (low : List Nat) (v : Nat) : Nat := low.getD v 0
theorem lf_set {low : List Nat} {i x : Nat} (h : i < low.length) : lf (low.set i x) = Dig.upd (lf low) i x := by
  funext j
  unfold lf Dig.upd
  rw [List.getD_eq_getElem?_getD, List.getElem?_set]
  by_cases e : j = i
  · subst e; simp [h]
  · rw [if_neg (fun h => e h.symm), if_neg e]; exact (List.getD_eq_getElem?_getD).symm
theorem lf_get {low : List Nat} {i : Nat} (h : i < low.length) : low[i]? = some (lf low i) := by
  unfold lf; rw [List.getD_eq_getElem?_getD, List.getElem?_eq_getElem h]; rfl
theorem ivn_get' {low : List Nat} {i x : Nat} (h : low[i]? = some x) : (ivn low)[i]? = some (.int .i64 (x : Int)) := by simp [ivn, h]
def MapOk (mp : List (Int × Value)) : List Dig.Sc → Prop
  | [] => True
  | (n, _, _) :: t => assoc (n : Int) mp = some (.int .i64 (((Dig.opOf t).length + 1 : Nat) : Int)) ∧ MapOk mp t
theorem MapOk.put {mp : List (Int × Value)} {m : Nat} {v : Value} : ∀ (S : List Dig.Sc), MapOk mp S → (∀ s ∈ S, s.1 ≠ m) → MapOk (aput (m : Int) v mp) S
  | [], _, _ => trivial
  | (n, k, r) :: t, ⟨h1, h2⟩, hn => by
    refine ⟨?_, MapOk.put t h2 fun s hs => hn s (by simp [hs])⟩
    have := hn (n, k, r) (by simp)
    rw [assoc_put, if_neg (by simp at this ⊢; omega)]
    exact h1
theorem sc_mem {S : List Dig.Sc} : ∀ s ∈ S, s.1 ∈ Dig.opOf S := by
  induction S with
  | nil => intro s hs; simp at hs
  | cons x t ih =>
    obtain ⟨n, k, r⟩ := x
    intro s hs
    rcases List.mem_cons.1 hs with rfl | hs
    · simp [Dig.opOf]
    · simp [Dig.opOf, ih s hs]
end Go.V
set_option linter.unusedVariables false
namespace Go.V
def En (es : List (List Int)) (n : Nat) : List Nat := (es.getD n []).map Int.toNat
def RightP (es : List (List Int)) : Prop := ∀ l ∈ es, ∀ x ∈ l, 0 ≤ x ∧ x < (es.length : Int)
theorem en_get {es : List (List Int)} {n : Nat} {l : List Int} (h : es[n]? = some l) : En es n = l.map Int.toNat := by
  unfold En; rw [List.getD_eq_getElem?_getD, h]; rfl
theorem en_lt {es : List (List Int)} (hR : RightP es) {n m : Nat} (h : m ∈ En es n) : m < es.length := by
  unfold En at h
  rw [List.getD_eq_getElem?_getD] at h
  cases hl : es[n]? with
  | none => rw [hl] at h; simp at h
  | some l =>
    rw [hl] at h
    obtain ⟨x, hx, rfl⟩ := List.mem_map.1 h
    have := hR l (List.mem_of_getElem? hl) x hx
    omega
theorem slc_hiN {a : Option Addr} {len cap hi sz : Nat} {k : Option Addr → Nat → Nat → Prop} (h1 : hi ≤ cap) (hk : k (slP a 0 cap sz) hi cap) : slc a len cap none (some (hi : Int)) none sz k :=
  ⟨.inl rfl, .inr ⟨by show (0 : Int) ≤ (hi : Int); omega, by show (hi : Int) ≤ (cap : Int); omega⟩, ⟨by decide, by show (0 : Int) ≤ (hi : Int); omega⟩, by simpa using hk⟩
theorem drawn_hp {w w' : World} (h : drawn w w') : hp w' = hp w := by rw [show w' = _ from h]; rfl
def lowUp (low : List Nat) (n : Nat) : List Dig.Sc → List Nat
  | [] => low
  | (u, _, _) :: _ => low.set u (min (lf low u) (lf low n))
def setAll (x : Nat) (low : List Nat) (g : List Nat) : List Nat := g.foldl (fun l m => l.set m x) low
theorem setAll_len (x : Nat) : ∀ (g low : List Nat), (setAll x low g).length = low.length
  | [], _ => rfl
  | m :: g, low => by show (setAll x (low.set m x) g).length = _; rw [setAll_len x g]; simp
theorem setAll_snoc (x : Nat) (low g : List Nat) (m : Nat) : setAll x low (g ++ [m]) = (setAll x low g).set m x := by simp [setAll]
theorem lf_setAll (x : Nat) : ∀ (g low : List Nat), (∀ m ∈ g, m < low.length) → lf (setAll x low g) = fun v => if v ∈ g then x else lf low v
  | [], _, _ => by funext v; simp [setAll]
  | m :: g, low, h => by
    have := lf_setAll x g (low.set m x) (fun y hy => by rw [List.length_set]; exact h y (by simp [hy]))
    show lf (setAll x (low.set m x) g) = _
    rw [this, lf_set (h m (by simp))]
    funext v
    by_cases e : v ∈ g
    · simp [e]
    · by_cases e2 : v = m
      · subst e2; simp [e, Dig.upd]
      · simp [e, e2, Dig.upd]
structure WD where
  S : List Dig.Sc
  low : List Nat
  gs : List (List Nat)
  mp : List (Int × Value)
  oa : Option Addr
  oc : Nat
  wa : Option Addr
  wc : Nat
end Go.V
namespace Go.Proofs.YtcapljamcepmkaaDoor
open Go.V
variable {w : World} {L : List Asn} {es : List (List Int)} {a : Option Addr} {N c l : Nat} {d : FuncId} {e : List Value} {Q : List (List Nat) → List Asn}
theorem y_CloneI {xs : List Int} (hr : rdS (hp w) xs a l) (hb : xs.length * 8 ≤ 140737488355328) (hb2 : xs.length ≤ 9223372036854775807) : Run Tryd.prog n_slices_Clone_int_int_ [.slice a l c] w fun v w' => ∃ o c', v = .slice o xs.length c' ∧ St w' (own 1 o xs.length c' (iv xs) :: all w) := by
  refine run_slices_Clone_int_int_ _ _ _ w _ ?_
  have hl := hr.1
  cases a with
  | none =>
    have h0 : xs = [] := by
      cases xs with
      | nil => rfl
      | cons t ts => obtain ⟨ad, _, e, _⟩ := hr.2 0 t rfl; cases e
    subst h0
    exact ⟨none, 0, rfl, own_nil 1 (St.all w)⟩
  | some ad =>
    refine newC_i (St.all w) fun b w1 h1 => ?_
    have h2 : St w1 (own 1 (some ⟨b, 0, none⟩) 0 0 [] :: all w) := own_some (cs := []) h1 rfl rfl (Nat.le_refl _)
    have hr := hr.mono h1.gone1
    refine (app_own' tyOk (rfl : kdOfT Ty _ = .slice _) rfl rfl rfl h2 (n := l) (news := iv xs) (src_slice tyOk (rfl : kdOfT Ty _ = .slice _) (by rw [iv_len, hl, Nat.mul_one]) (by
        rcases hr.iv with h0 | ⟨ad', e, hc⟩
        · exact .inl (by have := congrArg List.length h0; rw [iv_len, hl] at this; exact this)
        · cases e; exact .inr ⟨ad, rfl, fun j u hj => cellH_w (hc j u hj)⟩) (by
      intro u hu
      obtain ⟨t, _, rfl⟩ := List.mem_map.1 hu
      rfl)) (by show (0 + l) * 8 ≤ _; omega) (by omega)).mono ?_
    rintro _ w2 ⟨a', c', rfl, h3⟩
    rw [Nat.zero_add, ← hl] at h3 ⊢
    rw [List.nil_append] at h3
    exact ⟨_, _, _, rfl, a', c', rfl, h3⟩
def WDI (ko kl kw bl km N fr : Nat) (es : List (List Int)) (Q : List (List Nat) → List Asn) (L : List Asn) (x : WD) (w : World) : Prop :=
  x.low.length = N ∧ Dig.Inv (En es) N (lf x.low) x.S x.gs ∧ (∀ v, v ≤ fr → lf x.low v ≠ 0) ∧ MapOk x.mp x.S ∧
    St w (seaL ko kl kw bl N x.oa x.oc x.wa x.wc (Dig.opOf x.S) x.low (wkOf x.S) ++ (mapA km x.mp :: (Q x.gs ++ L)))
def DoneC (d : FuncId) (e : List Value) (es : List (List Int)) (Q : List (List Nat) → List Asn) : Prop :=
  ∀ (gs : List (List Nat)) (g : List Nat) (F : List Asn) (w : World) (o : Option Addr) (gc : Nat), Dig.Good (En es) (gs ++ [g]) → (∀ v ∈ (gs ++ [g]).flatten, v < es.length) →
    St w (own 1 o g.length gc (ivn g) :: (Q gs ++ F)) → rE d (.slice o g.length gc :: e) w fun v w' => v = .tuple (Array.mk []) ∧ St w' (Q (gs ++ [g]) ++ F)
theorem d_each (hfl : Fn d = true) (hD : DoneC d e es Q) (hE : ∀ gs h, starL (Q gs ++ L) h → rdS h es a N) (hR : RightP es) (hB : ∀ l ∈ es, l.length * 8 ≤ 140737488355328) (hb : N * 24 ≤ 140737488355328) (h : St w (Q [] ++ L)) :
    rE 42 [.slice a N c, .func (.func d) (Array.mk []) ⟨e⟩] w fun v w' => v = .tuple (Array.mk []) ∧ ∃ gs, Dig.Good (En es) gs ∧ (∀ v, v ∈ gs.flatten ↔ v < N) ∧ St w' (Q gs ++ L) := by
  refine run_digraph_each a N c d e w _ ?_
  have hN : es.length = N := (hE [] _ h.l).1
  refine ⟨⟨by omega, rfl, by omega⟩, newC_i h fun bl w1 h => newC_i h fun kl w2 h => st1_i h (by simp) fun w3 h => ⟨⟨by omega, by omega⟩, newC_i h fun ko w4 h => newC_i h fun kw w5 h => ?_⟩⟩
  have h : St w5 (seaL ko kl kw bl N none 0 none 0 [] (List.replicate N 0) [] ++ (Q [] ++ L)) := by
    have e1 : reps (Int.toNat (N : Int)) [iI 0] = ivn (List.replicate N 0) := by rw [reps_one]; simp [ivn]
    rw [e1] at h
    have h := own_nil 2 (own_nil 1 h)
    exact h.pick 6 [3, 1, 4, 5, 2, 0]
  refine ⟨fun z w' => ∃ k : Nat, z = k ∧ k ≤ N ∧ ∃ gs low oa oc wa wc, low.length = N ∧ Dig.Inv (En es) N (lf low) [] gs ∧ (∀ v, v < k → lf low v ≠ 0) ∧ St w' (seaL ko kl kw bl N oa oc wa wc [] low [] ++ (Q gs ++ L)),
    fun z _ => N - z.toNat, ⟨0, rfl, Nat.zero_le _, [], List.replicate N 0, none, 0, none, 0, by simp, ?_, fun v hv => by omega, h⟩, ?_⟩
  · have : lf (List.replicate N 0) = fun _ => 0 := by
      funext v; unfold lf; rw [List.getD_eq_getElem?_getD, List.getElem?_replicate]; split <;> rfl
    rw [this]; exact Dig.Inv.start _ _
  rintro _ z w6 ⟨k, rfl, hk, gs, low, oa, oc, wa, wc, hl, hI, hs, h⟩
  refine br_intro (fun h1 => ?_) fun h1 => ?_
  rotate_left
  · have h1 : k = N := by have := of_decide_eq_false h1; omega
    subst h1
    refine ⟨rfl, gs, hI.good, fun v => ⟨fun hv => hI.lt v (by simpa [Dig.opOf] using hv), fun hv => ?_⟩, ?_⟩
    · have := hI.seen hv (hs v hv)
      simpa [Dig.opOf] using this
    · exact h.tail.tail.tail.tail.tail.tail
  have h1 : k < N := by have := of_decide_eq_true h1; omega
  refine ⟨_, _, _, (rdCel 2 h.l).cell0 (sub.refl _), idx_i rfl h1 ⟨_, (rdCel 3 h.l).cell (sub.refl _) (j := k) (ivn_get' (lf_get (by omega))), ?_⟩⟩
  refine br_intro (fun h2 => ?_) fun h2 => ?_
  · have h2 := of_decide_eq_true h2
    refine ⟨⟨by omega, by omega⟩, ⟨k + 1, rfl, h1, gs, low, oa, oc, wa, wc, hl, hI, fun v hv => ?_, h⟩, msr h1⟩
    by_cases ev : v = k
    · subst ev; omega
    · exact hs v (by omega)
  have h2 : lf low k = 0 := by have := of_decide_eq_false h2; omega
  refine new_i h fun km w7 h => ?_
  have h := mapA_new (κ := Int) h
  refine ⟨_, _, _, (rdCel 1 h.l).cell0 (sub.refl _), ⟨by simp, by simp⟩, (map_update (κ := Int) tyOk (rfl : kdOfT Ty _ = .map _ _) und_int h (k : Int) _).mono ?_⟩
  rintro _ w8 h
  refine (d_enter (n := k) (h.pick 7 [1, 2, 3, 4, 5, 6, 0]) hl h1 (by simp; omega) (by simp; omega) hb).mono ?_
  rintro _ w9 ⟨rfl, oa, oc, wa, wc, h⟩
  refine ⟨rfl, fun w' => ∃ x, WDI ko kl kw bl km N k es Q L x w', fun w' => mea (WDI ko kl kw bl km N k es Q L) (fun x => Dig.todo (En es) N (lf x.low) x.S) w', ?_, ?_⟩
  · refine ⟨⟨[(k, 0, [])], low.set k 1, gs, _, oa, oc, wa, wc⟩, by simp [hl], ?_, ?_, ?_, h⟩
    · show Dig.Inv _ _ (lf (low.set k 1)) _ _
      rw [lf_set (by omega)]
      exact hI.root h1 h2
    · intro v hv
      show lf (low.set k 1) v ≠ 0
      rw [lf_set (by omega)]
      by_cases ev : v = k
      · subst ev; rw [Dig.upd_same]; omega
      · rw [Dig.upd_ne ev]; exact hs v (by omega)
    · exact ⟨by show assoc _ [(_, _)] = _; simp [assoc, Dig.opOf], trivial⟩
  intro _ w10 hw
  obtain ⟨⟨S, low2, gs2, mp, oa, oc, wa, wc⟩, ⟨hl2, hI2, hs2, hM, h⟩, hm⟩ := mea_get hw
  simp only at hl2 hI2 hs2 hM h hm
  refine ⟨_, _, _, (rdCel 4 h.l).cell0 (sub.refl _), ?_⟩
  refine br_intro (fun h3 => ?_) fun h3 => ?_
  rotate_left
  · have h3 := of_decide_eq_false h3
    cases S with
    | cons x t => obtain ⟨n, j, r⟩ := x; rw [wkOf_cons] at h3; simp at h3
    | nil =>
      refine ⟨⟨by omega, by omega⟩, ⟨k + 1, rfl, h1, gs2, low2, oa, oc, wa, wc, hl2, hI2, fun v hv => hs2 v (by omega), ?_⟩, msr h1⟩
      exact h.pick 7 [0, 1, 2, 3, 4, 5]
  cases S with
  | nil => have h3 := of_decide_eq_true h3; simp [wkOf] at h3
  | cons x t =>
  obtain ⟨n, k0, r⟩ := x
  have hlen := hI2.len
  have hwk := wkOf_len ((n, k0, r) :: t)
  have hw1 : (wkOf ((n, k0, r) :: t)).length = (wkOf t).length + 1 := by rw [wkOf_cons]; simp
  have hnN : n < N := hI2.lt n (by simp [Dig.opOf])
  obtain ⟨wad, hwa, _⟩ := own_cell (h.pick 7 [5, 0, 1, 2, 3, 4, 6]) (j := (wkOf t).length * 2) (frv_get (i := (wkOf t).length) (n := n) (k := k0) (by rw [wkOf_cons]; simp)).1
  refine ⟨_, _, _, (rdCel 4 h.l).cell0 (sub.refl _), _, _, _, (rdCel 4 h.l).cell0 (sub.refl _), ⟨by omega, by omega⟩, ?_⟩
  have ei : ((wkOf ((n, k0, r) :: t)).length : Int) - 1 = ((wkOf t).length : Int) := by omega
  rw [ei]
  refine idx_n hwa (by omega) ?_
  rw [mulS_eq]
  -- the steps of one node
  let P2 : Nat × List Nat → World → Prop := fun p w' => p.2.length = N ∧ Dig.Inv (En es) N (lf p.2) ((n, p.1, r) :: t) gs2 ∧ (∀ v, v ≤ k → lf p.2 v ≠ 0) ∧ Dig.todo (En es) N (lf p.2) ((n, p.1, r) :: t) ≤ mea (WDI ko kl kw bl km N k es Q L) (fun x => Dig.todo (En es) N (lf x.low) x.S) w10 ∧
    St w' (seaL ko kl kw bl N oa oc wa wc (Dig.opOf ((n, p.1, r) :: t)) p.2 (wkOf ((n, p.1, r) :: t)) ++ (mapA km mp :: (Q gs2 ++ L)))
  refine ⟨fun w' => ∃ p, P2 p w', fun w' => mea P2 (fun p => (En es n).length - p.1) w', ⟨(k0, low2), hl2, hI2, hs2, by rw [← hm]; exact Nat.le_refl _, h⟩, ?_⟩
  intro _ w11 hw
  obtain ⟨⟨j, low3⟩, ⟨hl3, hI3, hs3, ht3, h⟩, hm3⟩ := mea_get (f := fun p => (En es n).length - p.1) hw
  simp only at hl3 hI3 hs3 ht3 h hm3
  intro w12 hd
  have h := h.eq (drawn_hp hd)
  obtain ⟨el, hel⟩ : ∃ el, es[n]? = some el := ⟨es[n]'(by omega), List.getElem?_eq_getElem _⟩
  have hen := en_get hel
  have rE0 : rdS (hp w12) es a N := hE gs2 _ h.tail.tail.tail.tail.tail.tail.tail.l
  obtain ⟨el', ead, ev, hel', hea, hrow, o6, l6, c6, rfl, hle6, hrd6⟩ := rE0.get (i := n) hnN
  rw [hel] at hel'; cases hel'
  rw [mulS_eq, show n * Rep.n (List Int) = n from Nat.mul_one n] at hrow
  have hel6 : el.length = l6 := hrd6.1
  have henl : (En es n).length = l6 := by rw [hen, List.length_map]; exact hel6
  have hjle : j ≤ (En es n).length := hI3.ok.1.le
  have hBl := hB el (List.mem_of_getElem? hel)
  have hwt : (wkOf ((n, j, r) :: t))[(wkOf t).length]? = some (n, j) := by rw [wkOf_cons]; simp
  have hwl : (wkOf ((n, j, r) :: t)).length = (wkOf t).length + 1 := by rw [wkOf_cons]; simp
  obtain ⟨wad', hwa', hc1⟩ := own_cell (h.pick 7 [5, 0, 1, 2, 3, 4, 6]) (frv_get hwt).1
  obtain ⟨wad'', hwa'', hc2⟩ := own_cell (h.pick 7 [5, 0, 1, 2, 3, 4, 6]) (frv_get hwt).2
  rw [hwa] at hwa' hwa''
  cases hwa'; cases hwa''
  rw [← add_add] at hc2
  have cw : ∀ {u : World} {ad : Addr} {v : Value}, hp u = hp w12 → w12.cell? ad = some v → u.cell? ad = some v := fun hu h => by rw [cell_hp hu]; exact h
  refine ⟨fun u => hp u = hp w12, rfl, (j : Int), fun u hu => cw hu hc2, (n : Int), fun u hu => cw hu hc1, idx_i hea hnN ⟨o6, l6, c6, fun u hu => cw hu (hrow.cell0 (sub.refl _)), ?_⟩⟩
  refine br_intro (fun h4 => ?_) fun h4 => ?_
  · have h4 : j < l6 := by have := of_decide_eq_true h4; omega
    intro w16 hd2
    have h := h.eq (drawn_hp hd2)
    have e16 := drawn_hp hd2
    obtain ⟨mI, hmI⟩ : ∃ mI, el[j]? = some mI := ⟨el[j]'(by omega), List.getElem?_eq_getElem _⟩
    obtain ⟨m, rfl⟩ : ∃ m : Nat, mI = (m : Int) := ⟨mI.toNat, by have := hR el (List.mem_of_getElem? hel) mI (List.mem_of_getElem? hmI); omega⟩
    have hmE : (En es n)[j]? = some m := by rw [hen, List.getElem?_map, hmI]; rfl
    have hmN : m < N := by have := en_lt hR (List.mem_of_getElem? hmE); omega
    obtain ⟨ead5, hea5, hc5⟩ := hrd6.at hmI
    have cw : ∀ {u : World} {ad : Addr} {v : Value}, hp u = hp w16 → w12.cell? ad = some v → u.cell? ad = some v := fun hu h => cw (hu.trans e16) h
    refine ⟨fun u => hp u = hp w16, rfl, (n : Int), fun u hu => cw hu hc1, idx_i hea hnN ⟨o6, l6, c6, fun u hu => cw hu (hrow.cell0 (sub.refl _)), (j : Int), fun u hu => cw hu hc2, idx_i hea5 h4 ⟨(m : Int), fun u hu => hc5 u (by rw [hu, e16]; exact sub.refl _), (j : Int), cw rfl hc2, ⟨by omega, by omega⟩, ?_⟩⟩⟩
    rw [add_add]
    refine own_st1 (h.pick 7 [5, 0, 1, 2, 3, 4, 6]) hwa (by rw [frv_len]; omega) fun w21 h => ?_
    have ej : ((j : Int) + 1) = ((j + 1 : Nat) : Int) := by omega
    rw [ej, frv_set1 (j + 1) hwt] at h
    have h : St w21 (seaL ko kl kw bl N oa oc wa wc (Dig.opOf ((n, j + 1, r) :: t)) low3 (wkOf ((n, j + 1, r) :: t)) ++ (mapA km mp :: (Q gs2 ++ L))) := by
      have e1 : (wkOf ((n, j, r) :: t)).set (wkOf t).length (n, j + 1) = wkOf ((n, j + 1, r) :: t) := by rw [wkOf_cons, wkOf_cons, List.set_append_right _ _ (Nat.le_refl _)]; simp
      have e2 : (wkOf ((n, j + 1, r) :: t)).length = (wkOf ((n, j, r) :: t)).length := by rw [hwl, wkOf_cons]; simp
      rw [e1] at h
      unfold seaL
      rw [e2]
      exact h.pick 7 [1, 2, 3, 4, 5, 0, 6]
    have hlen3 := hI3.len
    have hmE2 : lf low3 m = 0 → m ∉ Dig.opOf ((n, j, r) :: t) := fun h0 hm => (hI3.un m hmN).1 h0 (by simp only [List.mem_append]; exact Or.inl hm)
    refine ⟨_, _, _, (rdCel 2 h.l).cell0 (sub.refl _), idx_i rfl hmN ⟨_, (rdCel 3 h.l).cell (sub.refl _) (j := m) (ivn_get' (lf_get (by omega))), ?_⟩⟩
    refine br_intro (fun h5 => ?_) fun h5 => ?_
    · have h5 : lf low3 m = 0 := by have := eq_of_beq h5; omega
      have hop : (Dig.opOf ((n, j + 1, r) :: t)).length < N := by
        have h6 := hI3.push hmE hmN h5
        have h7 := h6.len
        have e1 : Dig.opOf ((m, 0, []) :: (n, j + 1, r) :: t) = Dig.opOf ((n, j + 1, r) :: t) ++ [m] := rfl
        rw [e1, List.length_append] at h7; simp at h7; omega
      have hwl2 := wkOf_len ((n, j + 1, r) :: t)
      refine ⟨_, _, _, (rdCel 0 h.l).cell0 (sub.refl _), ⟨by omega, by omega⟩, (map_update (κ := Int) tyOk (rfl : kdOfT Ty _ = .map _ _) und_int (h.pick 7 [6, 0, 1, 2, 3, 4, 5]) (m : Int) _).mono ?_⟩
      rintro _ w22 h
      refine (d_enter (n := m) (h.pick 7 [1, 2, 3, 4, 5, 6, 0]) hl3 hmN hop (by omega) hb).mono ?_
      rintro _ w23 ⟨rfl, oa', oc', wa', wc', h⟩
      have hnew : WDI ko kl kw bl km N k es Q L ⟨(m, 0, []) :: (n, j + 1, r) :: t, low3.set m ((Dig.opOf ((n, j + 1, r) :: t)).length + 1), gs2, aput (m : Int) (.int .i64 (((Dig.opOf ((n, j + 1, r) :: t)).length : Int) + 1)) mp, oa', oc', wa', wc'⟩ w23 := by
        refine ⟨by simp [hl3], ?_, ?_, ⟨?_, ?_⟩, ?_⟩
        · show Dig.Inv _ _ (lf (low3.set m _)) _ _
          rw [lf_set (by omega)]
          exact hI3.push hmE hmN h5
        · intro v hv
          show lf (low3.set m _) v ≠ 0
          rw [lf_set (by omega)]
          by_cases ev : v = m
          · subst ev; rw [Dig.upd_same]; omega
          · rw [Dig.upd_ne ev]; exact hs3 v hv
        · show assoc _ (aput _ _ _) = _
          rw [assoc_put, if_pos rfl]; rfl
        · exact MapOk.put ((n, j + 1, r) :: t) hM fun s hs e => hmE2 h5 (by rw [← e]; exact sc_mem (S := (n, j + 1, r) :: t) s hs)
        · have e1 : wkOf ((m, 0, []) :: (n, j + 1, r) :: t) = wkOf ((n, j + 1, r) :: t) ++ [(m, 0)] := wkOf_cons _ _ _ _
          show St w23 (seaL _ _ _ _ _ _ _ _ _ (Dig.opOf ((n, j + 1, r) :: t) ++ [m]) _ (wkOf ((m, 0, []) :: (n, j + 1, r) :: t)) ++ _)
          rw [e1]
          exact h
      refine ⟨rfl, ⟨_, hnew⟩, ?_⟩
      have l1 := mea_le (f := fun x => Dig.todo (En es) N (lf x.low) x.S) hnew
      have l2 := Dig.todo_push hI3 hmE hmN h5 ((Dig.opOf ((n, j + 1, r) :: t)).length + 1) (by omega)
      simp only at l1
      rw [lf_set (by omega)] at l1
      exact Nat.lt_of_le_of_lt l1 (Nat.lt_of_lt_of_le l2 ht3)
    · have h5 : lf low3 m ≠ 0 := fun e => by rw [e] at h5; simp at h5
      intro w24 hd3
      have h := h.eq (drawn_hp hd3)
      have cL : ∀ u, hp u = hp w24 → u.cell? (aM kl) = some (.slice (some (aM bl)) N N) := fun u hu => by rw [cell_hp hu]; exact (rdCel 2 h.l).cell0 (sub.refl _)
      have cI : ∀ u, hp u = hp w24 → ∀ v, v < N → u.cell? ((aM bl).add v) = some (.int .i64 (lf low3 v : Int)) := fun u hu v hv => by rw [cell_hp hu]; exact (rdCel 3 h.l).cell (sub.refl _) (j := v) (ivn_get' (lf_get (by omega)))
      have e24 := drawn_hp hd3
      have hwt2 : (wkOf ((n, j + 1, r) :: t))[(wkOf t).length]? = some (n, j + 1) := by rw [wkOf_cons]; simp
      obtain ⟨wad3, hwa3, hc3⟩ := own_cell (h.pick 7 [5, 0, 1, 2, 3, 4, 6]) (frv_get hwt2).1
      rw [hwa] at hwa3; cases hwa3
      refine ⟨fun u => hp u = hp w24, rfl, _, _, _, cL, (n : Int), fun u hu => by rw [cell_hp hu]; exact hc3, _, _, _, cL, (n : Int), fun u hu => by rw [cell_hp hu]; exact hc3, idx_i rfl hnN ⟨_, fun u hu => cI u hu n hnN, _, _, _, cL, idx_i rfl hmN ⟨_, fun u hu => cI u hu m hmN, idx_i rfl hnN ?_⟩⟩⟩
      rw [add_lit0]
      have emin : (if (lf low3 m : Int) < (lf low3 n : Int) then (lf low3 m : Int) else (lf low3 n : Int)) = ((min (lf low3 n) (lf low3 m) : Nat) : Int) := by split <;> omega
      rw [emin]
      refine st1_i (h.pick 7 [3, 0, 1, 2, 4, 5, 6]) (by simp [ivn]; omega) fun w32 h => ?_
      rw [ivn_setN] at h
      have hnew : P2 (j + 1, low3.set n (min (lf low3 n) (lf low3 m))) w32 := by
        have eset := lf_set (low := low3) (i := n) (x := min (lf low3 n) (lf low3 m)) (by omega)
        have hlook := hI3.look hmE hmN h5
        refine ⟨by simp [hl3], ?_, ?_, ?_, h.pick 7 [1, 2, 3, 0, 4, 5, 6]⟩
        · show Dig.Inv _ _ (lf (low3.set n _)) _ _
          rw [eset]; exact hlook
        · intro v hv
          show lf (low3.set n _) v ≠ 0
          rw [eset]
          by_cases ev : v = n
          · subst ev; rw [Dig.upd_same]
            have := hI3.ok.1.pos v (by simp)
            omega
          · rw [Dig.upd_ne ev]; exact hs3 v hv
        · show Dig.todo _ _ (lf (low3.set n _)) _ ≤ _
          rw [eset]
          refine Nat.le_trans ?_ ht3
          unfold Dig.todo
          rw [Dig.todo_same (low := lf low3)]
          · simp only [List.map_cons, List.sum_cons]; omega
          · intro v hv
            by_cases ev : v = n
            · subst ev; rw [Dig.upd_same]
              have := hI3.ok.1.pos v (by simp)
              constructor <;> intro <;> omega
            · rw [Dig.upd_ne ev]
      refine ⟨⟨_, hnew⟩, ?_⟩
      have l1 := mea_le (f := fun p => (En es n).length - p.1) hnew
      have l2 : (En es n).length - (j + 1) < (En es n).length - j := by omega
      exact Nat.lt_of_le_of_lt l1 (Nat.lt_of_lt_of_le l2 (Nat.le_of_eq hm3))
  · have h4 : j = (En es n).length := by have := of_decide_eq_false h4; omega
    have hlen3 := hI3.len
    refine ⟨(n : Int), hc1, _, _, _, (rdCel 4 h.l).cell0 (sub.refl _), _, _, _, (rdCel 4 h.l).cell0 (sub.refl _), ⟨by omega, by omega⟩, ?_⟩
    have ei : ((wkOf ((n, j, r) :: t)).length : Int) - 1 = ((wkOf t).length : Int) := by omega
    have hwle := own_le (h.pick 7 [5, 0, 1, 2, 3, 4, 6])
    rw [ei]
    refine slc_hiN (by omega) (st1_i (h.pick 7 [4, 0, 1, 2, 3, 5, 6]) (by simp) fun w33 h => ?_)
    have h := own_cut (h.pick 7 [5, 0, 1, 2, 3, 4, 6]) (k := (wkOf t).length) (by omega)
    have etk : (frv (wkOf ((n, j, r) :: t))).take ((wkOf t).length * 2) = frv (wkOf t) := by
      rw [wkOf_cons, ← frv_snoc, ← frv_len, List.take_left']
      rfl
    rw [etk] at h
    have h : St w33 (seaL ko kl kw bl N oa oc (slP wa 0 wc 2) wc (Dig.opOf ((n, j, r) :: t)) low3 (wkOf t) ++ (mapA km mp :: (Q gs2 ++ L))) := h.pick 7 [2, 3, 4, 5, 1, 0, 6]
    -- the one below takes over
    refine ⟨fun w' => St w' (seaL ko kl kw bl N oa oc (slP wa 0 wc 2) wc (Dig.opOf ((n, j, r) :: t)) (lowUp low3 n t) (wkOf t) ++ (mapA km mp :: (Q gs2 ++ L))), ⟨_, _, _, (rdCel 4 h.l).cell0 (sub.refl _), ?_⟩, ?_⟩
    · refine br_intro (fun h5 => ?_) fun h5 => ?_
      rotate_left
      · have h5 := of_decide_eq_false h5
        cases t with
        | nil => exact h
        | cons x t => obtain ⟨u, ku, ru⟩ := x; rw [wkOf_cons] at h5; simp at h5
      · cases t with
        | nil => have h5 := of_decide_eq_true h5; simp [wkOf] at h5
        | cons x t =>
        obtain ⟨u, ku, ru⟩ := x
        have huN : u < N := hI3.lt u (by simp [Dig.opOf])
        have hwu : (wkOf ((u, ku, ru) :: t))[(wkOf t).length]? = some (u, ku) := by rw [wkOf_cons]; simp
        have hwul : (wkOf ((u, ku, ru) :: t)).length = (wkOf t).length + 1 := by rw [wkOf_cons]; simp
        obtain ⟨wad4, hwa4, hc4⟩ := own_cell (h.pick 7 [5, 0, 1, 2, 3, 4, 6]) (frv_get hwu).1
        have ei2 : ((wkOf ((u, ku, ru) :: t)).length : Int) - 1 = ((wkOf t).length : Int) := by omega
        refine ⟨_, _, _, (rdCel 4 h.l).cell0 (sub.refl _), _, _, _, (rdCel 4 h.l).cell0 (sub.refl _), ⟨by omega, by omega⟩, ?_⟩
        rw [ei2]
        refine idx_n hwa4 (by omega) ?_
        rw [mulS_eq]
        refine ⟨(u : Int), hc4, ?_⟩
        intro w34 hd5
        have h := h.eq (drawn_hp hd5)
        have cL : ∀ v, hp v = hp w34 → v.cell? (aM kl) = some (.slice (some (aM bl)) N N) := fun u hu => by rw [cell_hp hu]; exact (rdCel 2 h.l).cell0 (sub.refl _)
        have cI : ∀ u, hp u = hp w34 → ∀ v, v < N → u.cell? ((aM bl).add v) = some (.int .i64 (lf low3 v : Int)) := fun u hu v hv => by rw [cell_hp hu]; exact (rdCel 3 h.l).cell (sub.refl _) (j := v) (ivn_get' (lf_get (by omega)))
        refine ⟨fun u => hp u = hp w34, rfl, _, _, _, cL, _, _, _, cL, idx_i rfl huN ⟨_, fun v hv => cI v hv u huN, _, _, _, cL, idx_i rfl hnN ⟨_, fun v hv => cI v hv n hnN, idx_i rfl huN ?_⟩⟩⟩
        rw [add_lit0]
        have emin : (if (lf low3 n : Int) < (lf low3 u : Int) then (lf low3 n : Int) else (lf low3 u : Int)) = ((min (lf low3 u) (lf low3 n) : Nat) : Int) := by split <;> omega
        rw [emin]
        refine st1_i (h.pick 7 [3, 0, 1, 2, 4, 5, 6]) (by simp [ivn]; omega) fun w40 h => ?_
        rw [ivn_setN] at h
        exact h.pick 7 [1, 2, 3, 0, 4, 5, 6]
    · intro _ w41 h w42 hd4
      have h := h.eq (drawn_hp hd4)
      obtain ⟨nx1, nx2, nx3, nx4⟩ := hI3.lown
      have hlu : (lowUp low3 n t).length = N := by cases t <;> simp [lowUp, hl3]
      have hlun : lf (lowUp low3 n t) n = lf low3 n := by
        cases t with
        | nil => rfl
        | cons x t =>
          obtain ⟨u, ku, ru⟩ := x
          have huN : u < N := hI3.lt u (by simp [Dig.opOf])
          show lf (low3.set u _) n = _
          rw [lf_set (by omega), Dig.upd_ne]
          intro e
          exact nx1 (by rw [e]; simp [Dig.opOf])
      obtain ⟨ma1, ma2⟩ := hM
      have lk := fun {w' : World} {L' : List Asn} (h : St w' (mapA km mp :: L')) => map_lookup (κ := Int) (P := Tryd.prog) (z := .int .i64 0) tyOk (rfl : kdOfT Ty 105 = .map _ _) und_int rfl rfl h (n : Int)
      rw [ma1] at lk
      have cL : ∀ v, hp v = hp w42 → v.cell? (aM kl) = some (.slice (some (aM bl)) N N) := fun u hu => by rw [cell_hp hu]; exact (rdCel 2 h.l).cell0 (sub.refl _)
      have cI : ∀ u, hp u = hp w42 → ∀ v, v < N → u.cell? ((aM bl).add v) = some (.int .i64 (lf (lowUp low3 n t) v : Int)) := fun u hu v hv => by rw [cell_hp hu]; exact (rdCel 3 h.l).cell (sub.refl _) (j := v) (ivn_get' (lf_get (by omega)))
      refine ⟨fun u => hp u = hp w42, rfl, _, _, _, cL, idx_i rfl hnN ⟨_, fun v hv => cI v hv n hnN, (lk (h.pick 7 [6, 0, 1, 2, 3, 4, 5])).mono ?_⟩⟩
      rintro _ w45 ⟨rfl, rfl⟩
      refine ⟨_, rfl, rfl, ?_⟩
      rw [hlun]
      have hop : (Dig.opOf ((n, j, r) :: t)).length = (Dig.opOf t).length + 1 + r.length := Dig.mem_opOf_len
      refine br_intro (fun h6 => ?_) fun h6 => ?_
      · have h6 : lf low3 n = (Dig.opOf t).length + 1 := by have := eq_of_beq h6; omega
        have hP := hI3.pop h4 h6
        have hgN : ∀ v ∈ n :: r, v < N := fun v hv => hI3.lt v (by simp only [Dig.opOf, List.mem_append]; exact Or.inl (Or.inr hv))
        have hlowU : lowUp low3 n t = low3 ∨ lf (lowUp low3 n t) = lf low3 := by
          cases t with
          | nil => exact .inl rfl
          | cons x t =>
            obtain ⟨u, ku, ru⟩ := x
            have huN : u < N := hI3.lt u (by simp [Dig.opOf])
            right
            show lf (low3.set u _) = _
            rw [lf_set (by omega), hI3.lowu h6]
            funext v; unfold Dig.upd; split
            · rename_i e; rw [e]
            · rfl
        have hlowU : lf (lowUp low3 n t) = lf low3 := by rcases hlowU with e | e <;> rw [e]
        have hole := own_le (h.pick 7 [1, 0, 2, 3, 4, 5, 6])
        refine ⟨_, _, _, (rdCel 0 h.l).cell0 (sub.refl _), (lk (h.pick 7 [6, 0, 1, 2, 3, 4, 5])).mono ?_⟩
        rintro _ w46 ⟨rfl, rfl⟩
        have eb : ((((Dig.opOf t).length + 1 : Nat) : Int) - 1) = ((Dig.opOf t).length : Int) := by omega
        refine ⟨_, rfl, ⟨by omega, by omega⟩, ?_⟩
        rw [eb]
        have hrO : rdS (hp w46) ((Dig.opOf ((n, j, r) :: t)).map Int.ofNat) oa (Dig.opOf ((n, j, r) :: t)).length := rdI_of (by simp) (by rw [← ivn_eq]; exact rdOv 1 h.l)
        have hrG := hrO.drop (k := (Dig.opOf t).length) (m := oc) (by omega) hole
        have hdr : ((Dig.opOf ((n, j, r) :: t)).map Int.ofNat).drop (Dig.opOf t).length = (n :: r).map Int.ofNat := by
          rw [← List.map_drop]; congr 1; show (Dig.opOf t ++ n :: r).drop _ = _; rw [List.drop_left']; rfl
        rw [hdr] at hrG
        have hgl : (Dig.opOf ((n, j, r) :: t)).length - (Dig.opOf t).length = (n :: r).length := by rw [hop]; simp; omega
        refine slc_from (by omega) hole ((y_CloneI hrG (by simp; omega) (by simp; omega)).mono ?_)
        rintro _ w47 ⟨o25, c25, rfl, h47⟩
        have h := h47.on1 h
        have elg : ((n :: r).map Int.ofNat).length = (n :: r).length := by simp
        rw [elg, ← ivn_eq] at h
        refine ⟨_, _, _, by rw [elg], _, _, _, (rdCel 1 h.l).cell0 (sub.refl _), (lk (h.pick 8 [7, 0, 1, 2, 3, 4, 5, 6])).mono ?_⟩
        rintro _ w48 ⟨rfl, rfl⟩
        refine ⟨_, rfl, ⟨by omega, by omega⟩, ?_⟩
        rw [eb]
        refine slc_hiN (by omega) (st1_i (h.pick 8 [1, 0, 2, 3, 4, 5, 6, 7]) (by simp) fun w49 h => ?_)
        have h := own_cut (h.pick 8 [2, 0, 1, 3, 4, 5, 6, 7]) (k := (Dig.opOf t).length) (by omega)
        have etk : (ivn (Dig.opOf ((n, j, r) :: t))).take ((Dig.opOf t).length * 1) = ivn (Dig.opOf t) := by
          show (ivn (Dig.opOf t ++ n :: r)).take _ = _
          unfold ivn
          rw [List.map_append, List.take_left']
          simp
        rw [etk] at h
        have h : St w49 (own 1 o25 (n :: r).length c25 (ivn (n :: r)) :: (seaL ko kl kw bl N (slP oa 0 oc 1) oc (slP wa 0 wc 2) wc (Dig.opOf t) (lowUp low3 n t) (wkOf t) ++ (mapA km mp :: (Q gs2 ++ L)))) := h.pick 8 [2, 1, 0, 3, 4, 5, 6, 7]
        refine ⟨fun z w' => ∃ i : Nat, z = i ∧ i ≤ (n :: r).length ∧ St w' (own 1 o25 (n :: r).length c25 (ivn (n :: r)) :: (seaL ko kl kw bl N (slP oa 0 oc 1) oc (slP wa 0 wc 2) wc (Dig.opOf t) (setAll (N + 1) (lowUp low3 n t) ((n :: r).take i)) (wkOf t) ++ (mapA km mp :: (Q gs2 ++ L)))),
          fun z _ => (n :: r).length - z.toNat, ⟨0, rfl, Nat.zero_le _, h⟩, ?_⟩
        rintro _ z w50 ⟨i, rfl, hi, h⟩
        refine br_intro (fun h7 => ?_) fun h7 => ?_
        · have h7 : i < (n :: r).length := by have := of_decide_eq_true h7; omega
          obtain ⟨v, hv⟩ : ∃ v, (n :: r)[i]? = some v := ⟨(n :: r)[i], List.getElem?_eq_getElem _⟩
          have hvN := hgN v (List.mem_of_getElem? hv)
          obtain ⟨gad, hga, hgc⟩ := own_cell h (ivn_get' hv)
          refine idx_i hga h7 ⟨_, hgc, _, _, _, (rdCel 3 h.l).cell0 (sub.refl _), idx_i rfl hvN ?_⟩
          rw [add_lit0]
          have eN : ((N : Int) + 1) = ((N + 1 : Nat) : Int) := by omega
          rw [eN]
          refine st1_i (h.pick 8 [4, 0, 1, 2, 3, 5, 6, 7]) (by simp [ivn, setAll_len]; omega) fun w51 h => ⟨⟨by simp at h7 hi ⊢; omega, by simp at h7 hi ⊢; omega⟩, ⟨i + 1, rfl, h7, ?_⟩, msr h7⟩
          rw [ivn_setN] at h
          rw [List.take_add_one, hv, Option.toList_some, setAll_snoc]
          exact h.pick 8 [1, 2, 3, 4, 0, 5, 6, 7]
        · have h7 : i = (n :: r).length := by have := of_decide_eq_false h7; omega
          subst h7
          rw [List.take_length] at h
          refine ifT_iff.2 ⟨hfl, ?_⟩
          let M' := seaL ko kl kw bl N (slP oa 0 oc 1) oc (slP wa 0 wc 2) wc (Dig.opOf t) (setAll (N + 1) (lowUp low3 n t) (n :: r)) (wkOf t) ++ [mapA km mp]
          have hp1 : (M' ++ (Q gs2 ++ L)).Perm (Q gs2 ++ (M' ++ L)) := by
            rw [← List.append_assoc, ← List.append_assoc]; exact List.perm_append_comm.append_right L
          have h8 : St w50 (own 1 o25 (n :: r).length c25 (ivn (n :: r)) :: (Q gs2 ++ (M' ++ L))) := h.perm (List.Perm.cons _ hp1)
          have hrun := hD gs2 (n :: r) (M' ++ L) w50 o25 c25 hP.good (fun v hv => by rw [hN]; exact hP.lt v (List.mem_append_right _ hv)) h8
          refine hrun.mono ?_
          rintro _ w52 ⟨rfl, h⟩
          have elow : lf (setAll (N + 1) (lowUp low3 n t) (n :: r)) = fun v => if v ∈ n :: r then N + 1 else lf low3 v := by
            rw [lf_setAll _ _ _ (fun m hm => by rw [hlu]; exact hgN m hm), hlowU]
          have hnew : WDI ko kl kw bl km N k es Q L ⟨t, setAll (N + 1) (lowUp low3 n t) (n :: r), gs2 ++ [n :: r], mp, slP oa 0 oc 1, oc, slP wa 0 wc 2, wc⟩ w52 := by
            refine ⟨by show (setAll _ _ _).length = _; rw [setAll_len]; exact hlu, ?_, ?_, ma2, St.bring (M := Q (gs2 ++ [n :: r])) (Q := M') (L := L) h⟩
            · show Dig.Inv _ _ (lf (setAll _ _ _)) _ _
              rw [elow]; exact hP
            · intro v hv
              show lf (setAll _ _ _) v ≠ 0
              rw [elow]
              simp only
              split
              · omega
              · exact hs3 v hv
          refine ⟨rfl, ⟨_, hnew⟩, ?_⟩
          have l1 := mea_le (f := fun x => Dig.todo (En es) N (lf x.low) x.S) hnew
          refine Nat.lt_of_le_of_lt l1 (Nat.lt_of_lt_of_le ?_ ht3)
          show Dig.todo _ _ (lf (setAll _ _ _)) _ < _
          rw [elow]
          unfold Dig.todo
          rw [Dig.todo_same (low := lf low3)]
          · simp only [List.map_cons, List.sum_cons]; omega
          · intro v hv
            show (if v ∈ n :: r then N + 1 else lf low3 v) = 0 ↔ lf low3 v = 0
            split
            · rename_i e
              have h9 : lf low3 v ≠ 0 := fun h0 => (hI3.un v hv).1 h0 (by simp only [Dig.opOf, List.mem_append]; exact Or.inl (Or.inr e))
              constructor <;> intro <;> omega
            · exact Iff.rfl
      · have h6 : lf low3 n ≠ (Dig.opOf t).length + 1 := fun e => by rw [e] at h6; simp at h6
        cases t with
        | nil =>
          exfalso
          have h8 := hI3.ok.1.top
          have h9 := hI3.ok.1.pos n (by simp)
          simp [Dig.opOf] at h8 h6
          omega
        | cons x t =>
        obtain ⟨u, ku, ru⟩ := x
        have huN : u < N := hI3.lt u (by simp [Dig.opOf])
        have eset := lf_set (low := low3) (i := u) (x := min (lf low3 u) (lf low3 n)) (by omega)
        have hmg := hI3.merge h4 h6
        have hpu := hI3.ok.2.2.1.pos u (by simp)
        have hpn := hI3.ok.1.pos n (by simp)
        have hnew : WDI ko kl kw bl km N k es Q L ⟨(u, ku, ru ++ n :: r) :: t, lowUp low3 n ((u, ku, ru) :: t), gs2, mp, oa, oc, slP wa 0 wc 2, wc⟩ w45 := by
          refine ⟨hlu, ?_, ?_, ma2, ?_⟩
          · show Dig.Inv _ _ (lf (low3.set u _)) _ _
            rw [eset]; exact hmg
          · intro v hv
            show lf (low3.set u _) v ≠ 0
            rw [eset]
            by_cases ev : v = u
            · subst ev; rw [Dig.upd_same]; omega
            · rw [Dig.upd_ne ev]; exact hs3 v hv
          · have e1 : Dig.opOf ((u, ku, ru ++ n :: r) :: t) = Dig.opOf ((n, j, r) :: (u, ku, ru) :: t) := by simp [Dig.opOf]
            show St w45 (seaL _ _ _ _ _ _ _ _ _ (Dig.opOf ((u, ku, ru ++ n :: r) :: t)) _ _ ++ _)
            rw [e1]
            exact h
        refine ⟨⟨_, hnew⟩, ?_⟩
        have l1 := mea_le (f := fun x => Dig.todo (En es) N (lf x.low) x.S) hnew
        refine Nat.lt_of_le_of_lt l1 (Nat.lt_of_lt_of_le ?_ ht3)
        show Dig.todo _ _ (lf (low3.set u _)) _ < _
        rw [eset]
        unfold Dig.todo
        rw [Dig.todo_same (low := lf low3)]
        · simp only [List.map_cons, List.sum_cons]; omega
        · intro v hv
          by_cases ev : v = u
          · subst ev; rw [Dig.upd_same]
            constructor <;> intro <;> omega
          · rw [Dig.upd_ne ev]
end Go.Proofs.YtcapljamcepmkaaDoor
set_option maxRecDepth 100000
namespace Go.Proofs.YtcapljamcepmkaaDoor
open Go.Shelf Go.Proofs
def sortF_ren : Go.Shelf.Ren := ⟨fun | 6 => 45 | 15 => 73 | 14 => 74 | 28 => 100 | 29 => 101 | 20 => 102 | 21 => 103 | 22 => 104 | 23 => 105 | 24 => 106 | 25 => 107 | 26 => 108 | 27 => 109 | 46 => 124 | 47 => 119 | 48 => 120 | 49 => 125 | 50 => 126 | 57 => 133 | n => n, fun | 22 => 28 | 24 => 24 | 25 => 79 | 3 => 3 | 39 => 109 | 0 => 0 | 53 => 139 | 55 => 125 | 4 => 4 | 46 => 131 | 45 => 130 | 50 => 136 | 5 => 5 | 9 => 9 | 66 => 149 | 70 => 153 | 76 => 162 | 77 => 163 | n => n, fun | n => n⟩
theorem sortF : Go.Proofs.SlLaysF.n6 Tryd.prog sortF_ren := {
  mixed := by kernel_rfl,
  f6 := ⟨Tryd.f45.name, by decide, Tryd.func45.trans (congrArg some (by kernel_rfl))⟩,
  f14 := ⟨Tryd.f74.name, by decide, Tryd.func74.trans (congrArg some (by kernel_rfl))⟩,
  f15 := Tryd.func73.trans (congrArg some (by kernel_rfl)),
  f20 := ⟨Tryd.f102.name, by decide, Tryd.func102.trans (congrArg some (by kernel_rfl))⟩,
  f21 := ⟨Tryd.f103.name, by decide, Tryd.func103.trans (congrArg some (by kernel_rfl))⟩,
  f22 := ⟨Tryd.f104.name, by decide, Tryd.func104.trans (congrArg some (by kernel_rfl))⟩,
  f23 := ⟨Tryd.f105.name, by decide, Tryd.func105.trans (congrArg some (by kernel_rfl))⟩,
  f24 := ⟨Tryd.f106.name, by decide, Tryd.func106.trans (congrArg some (by kernel_rfl))⟩,
  f25 := ⟨Tryd.f107.name, by decide, Tryd.func107.trans (congrArg some (by kernel_rfl))⟩,
  f26 := ⟨Tryd.f108.name, by decide, Tryd.func108.trans (congrArg some (by kernel_rfl))⟩,
  f27 := ⟨Tryd.f109.name, by decide, Tryd.func109.trans (congrArg some (by kernel_rfl))⟩,
  f28 := Tryd.func100.trans (congrArg some (by kernel_rfl)),
  f29 := Tryd.func101.trans (congrArg some (by kernel_rfl)),
  f46 := ⟨Tryd.f124.name, by decide, Tryd.func124.trans (congrArg some (by kernel_rfl))⟩,
  f47 := Tryd.func119.trans (congrArg some (by kernel_rfl)),
  f48 := Tryd.func120.trans (congrArg some (by kernel_rfl)),
  f49 := ⟨Tryd.f125.name, by decide, Tryd.func125.trans (congrArg some (by kernel_rfl))⟩,
  f50 := ⟨Tryd.f126.name, by decide, Tryd.func126.trans (congrArg some (by kernel_rfl))⟩,
  f57 := ⟨Tryd.f133.name, by decide, Tryd.func133.trans (congrArg some (by kernel_rfl))⟩,
  t0 := Tryd.underlying0,
  a0 := Tryd.isAgg0,
  z0 := Tryd.sizeOf0,
  v0 := Tryd.zeroValue0,
  t3 := Tryd.underlying3,
  a3 := Tryd.isAgg3,
  z3 := Tryd.sizeOf3,
  v3 := Tryd.zeroValue3,
  t4 := Tryd.underlying4,
  a4 := Tryd.isAgg4,
  z4 := Tryd.sizeOf4,
  v4 := Tryd.zeroValue4,
  t5 := Tryd.underlying5,
  a5 := Tryd.isAgg5,
  z5 := Tryd.sizeOf5,
  v5 := Tryd.zeroValue5,
  t9 := Tryd.underlying9,
  a9 := Tryd.isAgg9,
  z9 := Tryd.sizeOf9,
  v9 := Tryd.zeroValue9,
  t22 := Tryd.underlying28,
  a22 := Tryd.isAgg28,
  z22 := Tryd.sizeOf28,
  v22 := Tryd.zeroValue28,
  a24 := Tryd.isAgg24,
  z24 := Tryd.sizeOf24,
  t25 := Tryd.underlying79,
  a25 := Tryd.isAgg79,
  z25 := Tryd.sizeOf79,
  v25 := Tryd.zeroValue79,
  t39 := Tryd.underlying109,
  a39 := Tryd.isAgg109,
  z39 := Tryd.sizeOf109,
  v39 := Tryd.zeroValue109,
  t45 := Tryd.underlying130,
  a45 := Tryd.isAgg130,
  z45 := Tryd.sizeOf130,
  v45 := Tryd.zeroValue130,
  t46 := Tryd.underlying131,
  a46 := Tryd.isAgg131,
  z46 := Tryd.sizeOf131,
  v46 := Tryd.zeroValue131,
  t50 := Tryd.underlying136,
  a50 := Tryd.isAgg136,
  z50 := Tryd.sizeOf136,
  v50 := Tryd.zeroValue136,
  t53 := Tryd.underlying139,
  a53 := Tryd.isAgg139,
  z53 := Tryd.sizeOf139,
  v53 := Tryd.zeroValue139,
  t55 := Tryd.underlying125,
  a55 := Tryd.isAgg125,
  z55 := Tryd.sizeOf125,
  v55 := Tryd.zeroValue125,
  t66 := Tryd.underlying149,
  a66 := Tryd.isAgg149,
  z66 := Tryd.sizeOf149,
  v66 := Tryd.zeroValue149,
  t70 := Tryd.underlying153,
  a70 := Tryd.isAgg153,
  z70 := Tryd.sizeOf153,
  v70 := Tryd.zeroValue153,
  t76 := Tryd.underlying162,
  a76 := Tryd.isAgg162,
  z76 := Tryd.sizeOf162,
  v76 := Tryd.zeroValue162,
  t77 := Tryd.underlying163,
  a77 := Tryd.isAgg163,
  z77 := Tryd.sizeOf163,
  v77 := Tryd.zeroValue163 }
def sortI_ren : Go.Shelf.Ren := ⟨fun | 189 => 44 | 125 => 73 | 257 => 72 | 128 => 100 | 129 => 101 | 294 => 91 | 295 => 92 | 296 => 93 | 297 => 94 | 298 => 95 | 299 => 96 | 216 => 97 | 300 => 98 | 301 => 99 | 328 => 118 | 329 => 119 | 330 => 120 | 331 => 121 | 332 => 122 | 215 => 123 | 343 => 132 | n => n, fun | 28 => 24 | 3 => 3 | 46 => 109 | 0 => 0 | 51 => 139 | 53 => 125 | 4 => 4 | 183 => 131 | 182 => 130 | 131 => 136 | 5 => 5 | 9 => 9 | 218 => 149 | 222 => 153 | 228 => 162 | 229 => 163 | n => n, fun | n => n⟩
theorem sortI : Go.Proofs.Lays.n189 Tryd.prog sortI_ren := {
  mixed := by kernel_rfl,
  f125 := Tryd.func73.trans (congrArg some (by kernel_rfl)),
  f128 := Tryd.func100.trans (congrArg some (by kernel_rfl)),
  f129 := Tryd.func101.trans (congrArg some (by kernel_rfl)),
  f189 := Tryd.func44.trans (congrArg some (by kernel_rfl)),
  f215 := Tryd.func123.trans (congrArg some (by kernel_rfl)),
  f216 := Tryd.func97.trans (congrArg some (by kernel_rfl)),
  f257 := Tryd.func72.trans (congrArg some (by kernel_rfl)),
  f294 := Tryd.func91.trans (congrArg some (by kernel_rfl)),
  f295 := Tryd.func92.trans (congrArg some (by kernel_rfl)),
  f296 := Tryd.func93.trans (congrArg some (by kernel_rfl)),
  f297 := Tryd.func94.trans (congrArg some (by kernel_rfl)),
  f298 := Tryd.func95.trans (congrArg some (by kernel_rfl)),
  f299 := Tryd.func96.trans (congrArg some (by kernel_rfl)),
  f300 := Tryd.func98.trans (congrArg some (by kernel_rfl)),
  f301 := Tryd.func99.trans (congrArg some (by kernel_rfl)),
  f328 := Tryd.func118.trans (congrArg some (by kernel_rfl)),
  f329 := Tryd.func119.trans (congrArg some (by kernel_rfl)),
  f330 := Tryd.func120.trans (congrArg some (by kernel_rfl)),
  f331 := Tryd.func121.trans (congrArg some (by kernel_rfl)),
  f332 := Tryd.func122.trans (congrArg some (by kernel_rfl)),
  f343 := Tryd.func132.trans (congrArg some (by kernel_rfl)),
  t0 := Tryd.underlying0,
  a0 := Tryd.isAgg0,
  z0 := Tryd.sizeOf0,
  v0 := Tryd.zeroValue0,
  t3 := Tryd.underlying3,
  a3 := Tryd.isAgg3,
  z3 := Tryd.sizeOf3,
  v3 := Tryd.zeroValue3,
  t4 := Tryd.underlying4,
  a4 := Tryd.isAgg4,
  z4 := Tryd.sizeOf4,
  v4 := Tryd.zeroValue4,
  t5 := Tryd.underlying5,
  a5 := Tryd.isAgg5,
  z5 := Tryd.sizeOf5,
  v5 := Tryd.zeroValue5,
  t9 := Tryd.underlying9,
  a9 := Tryd.isAgg9,
  z9 := Tryd.sizeOf9,
  v9 := Tryd.zeroValue9,
  t28 := Tryd.underlying24,
  a28 := Tryd.isAgg24,
  z28 := Tryd.sizeOf24,
  v28 := Tryd.zeroValue24,
  t46 := Tryd.underlying109,
  a46 := Tryd.isAgg109,
  z46 := Tryd.sizeOf109,
  v46 := Tryd.zeroValue109,
  t51 := Tryd.underlying139,
  a51 := Tryd.isAgg139,
  z51 := Tryd.sizeOf139,
  v51 := Tryd.zeroValue139,
  t53 := Tryd.underlying125,
  a53 := Tryd.isAgg125,
  z53 := Tryd.sizeOf125,
  v53 := Tryd.zeroValue125,
  t131 := Tryd.underlying136,
  a131 := Tryd.isAgg136,
  z131 := Tryd.sizeOf136,
  v131 := Tryd.zeroValue136,
  t182 := Tryd.underlying130,
  a182 := Tryd.isAgg130,
  z182 := Tryd.sizeOf130,
  v182 := Tryd.zeroValue130,
  t183 := Tryd.underlying131,
  a183 := Tryd.isAgg131,
  z183 := Tryd.sizeOf131,
  v183 := Tryd.zeroValue131,
  t218 := Tryd.underlying149,
  a218 := Tryd.isAgg149,
  z218 := Tryd.sizeOf149,
  v218 := Tryd.zeroValue149,
  t222 := Tryd.underlying153,
  a222 := Tryd.isAgg153,
  z222 := Tryd.sizeOf153,
  v222 := Tryd.zeroValue153,
  t228 := Tryd.underlying162,
  a228 := Tryd.isAgg162,
  z228 := Tryd.sizeOf162,
  v228 := Tryd.zeroValue162,
  t229 := Tryd.underlying163,
  a229 := Tryd.isAgg163,
  z229 := Tryd.sizeOf163,
  v229 := Tryd.zeroValue163 }
end Go.Proofs.YtcapljamcepmkaaDoor
set_option linter.unusedVariables false
namespace Go.V
open Go.Proofs Go.Sort
section
variable {α : Type} [Inhabited α] {w : World} {L : List Asn} {enc : α → Value} {blk : Nat} {d : Array α}
theorem heap_sort (w : World) (off m : Nat) (dk : Array α) (os : Array Obj) (b : Nat) (o : Obj) (h : w.heap[b]? = some o) :
    (sortWorld enc w blk off m dk os).heap[b]? = some (if blk = b then onCells (putCells enc off dk) o else o) := by
  have hb : b < w.heap.size := (Array.getElem?_eq_some_iff.1 h).1
  unfold sortWorld grow putRow mapBlock Sort.ahead
  simp only
  rw [Array.getElem?_append_left (by simpa using hb), Array.getElem?_modify]
  split
  · rw [h]; rfl
  · exact h
theorem Ev.sort (w : World) (off m : Nat) (dk : Array α) (os : Array Obj) : Ev w (sortWorld enc w blk off m dk os) := by
  refine ⟨rfl, rfl, rfl, ?_, ?_, ?_⟩
  · unfold sortWorld grow putRow mapBlock Sort.ahead; simp
  · intro b x h; rw [heap_sort w off m dk os b _ h]; split <;> rfl
  · intro b x h; rw [heap_sort w off m dk os b _ h]; split <;> rfl
theorem St.sort {cs : List Value} (h : St w (cel blk cs :: L)) (off m : Nat) (dk : Array α) (os : Array Obj) : St (sortWorld enc w blk off m dk os) (cel blk (putCells enc off dk ⟨cs⟩).toList :: L) := by
  obtain ⟨e, h⟩ := cel_ex.1 h
  have hg := h.get
  have hs : ∀ b o, hp w b = some o → b ≠ blk → hp (sortWorld enc w blk off m dk os) b = some o := fun b o hb hne => by
    have := heap_sort (enc := enc) (blk := blk) w off m dk os b o (hidD_some hb)
    rw [if_neg (Ne.symm hne)] at this
    unfold hp; rw [this]
    unfold hp at hb
    rw [hidD_some hb] at hb; exact hb
  have hblk : hp (sortWorld enc w blk off m dk os) blk = some (.cells (putCells enc off dk ⟨cs⟩) e (0, 0)) := by
    have := heap_sort (enc := enc) (blk := blk) w off m dk os blk _ hg
    rw [if_pos rfl] at this
    unfold hp; rw [this]; rfl
  refine cel_ex.2 ⟨e, ?_⟩
  have h1 := starL_blk_set (h := hp w) (h' := fun k => if k = blk then some (.cells (putCells enc off dk ⟨cs⟩) e (0, 0)) else hp w k) (o' := .cells (putCells enc off dk ⟨cs⟩) e (0, 0)) h (fun k hk => by simp [hk]) (by simp)
  refine starL_sub h1 fun k o hk => ?_
  split at hk
  · rename_i e'; subst e'; cases hk; exact hblk
  · rename_i hne; exact hs k o hk hne
theorem putCells_mid (pre post : List Value) (d d' : Array α) (hs : d'.size = d.size) : (putCells enc pre.length d' ⟨pre ++ (d.toList.map enc ++ post)⟩).toList = pre ++ (d'.toList.map enc ++ post) := by
  have l1 : (d.toList.map enc).length = d.size := by simp
  have l2 : (d'.toList.map enc).length = d.size := by simp [hs]
  apply List.ext_getElem?
  intro k
  simp only [putCells, Array.toList_mapIdx, List.getElem?_mapIdx]
  by_cases h1 : k < pre.length
  · rw [List.getElem?_append_left h1, List.getElem?_append_left h1, List.getElem?_eq_getElem h1, Option.map_some, if_neg (by omega)]
  · rw [List.getElem?_append_right (Nat.le_of_not_lt h1), List.getElem?_append_right (Nat.le_of_not_lt h1)]
    by_cases h2 : k - pre.length < d.size
    · rw [List.getElem?_append_left (l₁ := d.toList.map enc) (by omega), List.getElem?_append_left (l₁ := d'.toList.map enc) (by omega), List.getElem?_eq_getElem (l := d.toList.map enc) (by omega), List.getElem?_eq_getElem (l := d'.toList.map enc) (by omega)]
      simp only [Option.map_some]
      rw [if_pos ⟨by omega, by omega⟩, getElem!_pos d' _ (by omega)]
      simp
    · rw [List.getElem?_append_right (l₁ := d.toList.map enc) (by omega), List.getElem?_append_right (l₁ := d'.toList.map enc) (by omega), l1, l2]
      cases post[k - pre.length - d.size]? with
      | none => rfl
      | some v => rw [Option.map_some, if_neg (by omega)]
theorem own_row {a : Option Addr} {l c : Nat} (h : St w (own 1 a l c (d.toList.map enc) :: L)) (hl : 0 < l) :
    ∃ b off, a = some ⟨b, off, none⟩ ∧ l = d.size ∧ Holds enc w b off d ∧ b < w.heap.size ∧
      (∀ (m : Nat) (os : Array Obj) (d' : Array α), d'.size = d.size → St (sortWorld enc w b off m d' os) (own 1 a l c (d'.toList.map enc) :: L)) := by
  rcases own_cases h with ⟨_, h2, _⟩ | ⟨b, pre, cs, post, rfl, hc, h1, h2, h3⟩
  · omega
  · have hsz : l = d.size := by simp at h1; omega
    refine ⟨b, pre.length, rfl, hsz, ?_, ?_, ?_⟩
    · intro j hj
      refine ⟨?_, hc.frozen _ _⟩
      rw [hc.cell, List.getElem?_append_right (by omega), Nat.add_sub_cancel_left, List.getElem?_append_left (by simpa using hj), List.getElem?_map, List.getElem?_eq_getElem (by simpa using hj), getElem!_pos d j hj]
      simp
    · obtain ⟨e, h⟩ := cel_ex.1 hc
      exact (Array.getElem?_eq_some_iff.1 h.get).1
    · intro m os d' hs
      have h5 := hc.sort (enc := enc) pre.length m d' os
      rw [putCells_mid pre (cs ++ post) d d' hs] at h5
      refine own_some' h5 ?_ ?_ h3
      · simp [hs]; omega
      · simp at h2 ⊢; omega
end
end Go.V
namespace Go.Proofs.YtcapljamcepmkaaDoor
open Go.V Go.Sort Go.Shelf
variable {w : World} {L : List Asn}
theorem y_sortI {a : Option Addr} {l c : Nat} {zs : List Int} (h : St w (own 1 a l c (iv zs) :: L)) (hl : 0 < l) (hb : l < 4611686018427387904) :
    rE 44 [.slice a l c] w fun v w' => v = .tuple (Array.mk []) ∧ St w' (own 1 a l c (iv (zs.mergeSort fun x y => decide (x ≤ y))) :: L) := by
  obtain ⟨b, off, rfl, hsz, hH, hblk, hk⟩ := own_row (d := zs.toArray) (enc := Value.int .i64) (by simpa [iv] using h) hl
  simp only [List.size_toArray] at hsz
  subst hsz
  refine Calls.mono (Any.slices_Sort_int sortI b off c zs w hH hblk hb) ?_
  rintro e w' ⟨rfl, n, os, rfl⟩
  refine ⟨_, rfl, Ev.sort (enc := Value.int .i64) w off n _ os, rfl, ?_⟩
  have := hk n os (zs.mergeSort fun x y => decide (x ≤ y)).toArray (by simp)
  have e : (zs.mergeSort fun x y => decide (x ≤ y)).toArray.toList.map (Value.int .i64) = iv (zs.mergeSort fun x y => decide (x ≤ y)) := by simp [iv]
  rw [e] at this
  exact this
abbrev Ls := (Option Addr × Nat) × List Int
def slP' (p : Ls) : Value := .slice p.1.1 p.2.length p.1.2
def owP' (p : Ls) : Asn := own 1 p.1.1 p.2.length p.1.2 (iv p.2)
def hdP (p : Ls) : Int := p.2.headD 0
theorem St.perm2 {A : Asn} {M M' : List Asn} (h : St w (A :: sta M :: L)) (p : M.Perm M') : St w (A :: sta M' :: L) := by
  have h1 := St.flat.1 (h.pick 2 [1, 0])
  have h2 := h1.perm (p.append_right _)
  exact (St.flat.2 h2).pick 2 [1, 0]
theorem y_sortC {a : Option Addr} {l c : Nat} {ps : List Ls} (h : St w (own 1 a l c (ps.map slP') :: sta (ps.map owP') :: L)) (hn : ps ≠ []) (hne : ∀ p ∈ ps, p.2 ≠ []) (hr : ∀ p ∈ ps, ∀ x ∈ p.2, 0 ≤ x ∧ x < 4611686018427387904) (hb : l < 4611686018427387904) :
    rE 45 [.slice a l c, .func (.func 46) (Array.mk []) (Array.mk [])] w fun v w' => v = .tuple (Array.mk []) ∧
      ∃ ps' : List Ls, ps'.Perm ps ∧ ps'.Pairwise (fun p q => hdP p ≤ hdP q) ∧ St w' (own 1 a l c (ps'.map slP') :: sta (ps'.map owP') :: L) := by
  have hln := own_len h
  have hl : 0 < l := by
    have := List.length_pos_iff.2 hn
    simp at hln; omega
  obtain ⟨p0, hp0⟩ := List.exists_mem_of_ne_nil ps hn
  haveI : Inhabited {p // p ∈ ps} := ⟨⟨p0, hp0⟩⟩
  let enc : {p // p ∈ ps} → Value := fun p => slP' p.1
  let cf : {p // p ∈ ps} → {p // p ∈ ps} → Int := fun p q => hdP p.1 - hdP q.1
  have eM : ps.attach.toArray.toList.map enc = ps.map slP' := by
    show ps.attach.map (fun p => slP' p.1) = _
    rw [List.attach_map_val (f := slP')]
  obtain ⟨b, off, rfl, hsz, hH, hblk, hk⟩ := own_row (d := ps.attach.toArray) (enc := enc) (by rw [eM]; exact h) hl
  subst hsz
  have hlt : ∀ x y, ltOf cf x y = decide (hdP x.1 < hdP y.1) := fun x y => by
    unfold ltOf; show decide (hdP x.1 - hdP y.1 < 0) = _
    congr 1; simp only [eq_iff_iff]; omega
  have hO : SWO (ltOf cf) := ⟨fun x => by rw [hlt]; simp, fun x y z => by rw [hlt, hlt, hlt]; simp; omega, fun x y z => by rw [hlt, hlt, hlt]; simp; omega⟩
  have hcmp : CmpLays1 Tryd.prog 46 #[] enc cf b off ps.attach.toArray.size w := by
    intro m os dk hdk x y
    have hw := hk m os dk hdk
    have rd : ∀ p : {p // p ∈ ps}, ∃ ad, p.1.1.1 = some ad ∧ 0 < p.1.2.length ∧ ∀ w1, hp w1 = hp (sortWorld enc w b off m dk os) → w1.cell? (ad.add 0) = some (.int .i64 (hdP p.1)) := by
      intro p
      obtain ⟨g1, s1, ha⟩ := sta_nth (hw.pick 2 [1]) (A := owP' p.1) (List.mem_map_of_mem p.2)
      obtain ⟨z, zs, hz⟩ := List.exists_cons_of_ne_nil (hne p.1 p.2)
      rcases own_rdVh ha with e | ⟨ad, e, hc⟩
      · rw [hz] at e; simp [iv] at e
      · refine ⟨ad, e, by rw [hz]; simp, fun w1 h1 => ?_⟩
        have h2 := hc 0 (.int .i64 (hdP p.1)) (by unfold hdP; rw [hz]; simp [iv])
        exact cellH_w (cellH_sub (by rw [h1]; exact s1) h2)
    have hrun : Run Tryd.prog 46 [enc x, enc y] (sortWorld enc w b off m dk os) fun v w' => v = .int .i64 (cf x y) ∧ w' = (sortWorld enc w b off m dk os).drewN 1 := by
      refine run_digraph_Components_S2 _ _ _ _ _ _ _ _ ?_
      rintro w1 rfl
      obtain ⟨a1, e1, l1, c1⟩ := rd x
      obtain ⟨a2, e2, l2, c2⟩ := rd y
      have hb1 : ∀ p : {p // p ∈ ps}, 0 ≤ hdP p.1 ∧ hdP p.1 < 4611686018427387904 := fun p => by
        obtain ⟨z, zs, hz⟩ := List.exists_cons_of_ne_nil (hne p.1 p.2)
        have := hr p.1 p.2 z (by rw [hz]; simp)
        unfold hdP; rw [hz]; exact this
      have q1 := hb1 x
      have q2 := hb1 y
      refine ⟨fun u => u = (sortWorld enc w b off m dk os).drewN 1, rfl, a1, e1, by omega, by omega, hdP x.1, fun u hu => c1 u (by rw [hu]; rfl), a2, e2, by omega, by omega, hdP y.1, fun u hu => c2 u (by rw [hu]; rfl), ⟨by omega, by omega⟩, rfl, rfl⟩
    refine Calls.mono hrun ?_
    rintro e w' ⟨v, rfl, _, rfl, rfl⟩
    exact ⟨rfl, 1, #[], by rw [grow_empty]⟩
  have eg : ∀ args w, (callFunc 46 args).run Tryd.prog w = .ok (.enter 46 args) w := enters_of Tryd.func46 (by kernel_rfl) rfl
  refine Calls.mono (Any.slices_SortFunc sortF enc (fun _ => rfl) cf hO 46 #[] b off c _ w eg hcmp hH hblk hb) ?_
  rintro e w' ⟨rfl, d', n, os, hP, hS, rfl⟩
  refine ⟨_, rfl, Ev.sort (enc := enc) w off n _ os, rfl, d'.toList.map (·.1), ?_, ?_, ?_⟩
  · have := hP.2.2
    rw [Array.extract_size] at this
    have e2 : d'.extract 0 ps.attach.toArray.size = d' := by rw [← hP.1, Array.extract_size]
    rw [e2] at this
    have := this.map (·.1)
    have e3 : ps.attach.toArray.toList.map (·.1) = ps := List.attach_map_subtype_val ps
    rw [e3] at this
    exact this
  · rw [List.pairwise_iff_getElem]
    intro i j hi hj hij
    simp only [List.length_map, Array.length_toList] at hi hj
    have := hS i j (Nat.zero_le _) hij (by rw [← hP.1]; exact hj)
    rw [hlt, getElem!_pos d' j hj, getElem!_pos d' i hi] at this
    simp only [List.getElem_map, Array.getElem_toList]
    simpa using this
  · have h1 := hk n os d' hP.1
    have e4 : d'.toList.map enc = (d'.toList.map (·.1)).map slP' := by rw [List.map_map]; rfl
    rw [e4] at h1
    have := hP.2.2
    rw [Array.extract_size] at this
    have e2 : d'.extract 0 ps.attach.toArray.size = d' := by rw [← hP.1, Array.extract_size]
    rw [e2] at this
    have := this.map (·.1)
    have e3 : ps.attach.toArray.toList.map (·.1) = ps := List.attach_map_subtype_val ps
    rw [e3] at this
    exact St.perm2 h1 (this.symm.map owP')
end Go.Proofs.YtcapljamcepmkaaDoor
set_option linter.unusedVariables false
namespace Go.V
def rightB (es : List (List Int)) : Bool := !es.any fun l => l.any fun x => decide (x < 0) || decide ((es.length : Int) ≤ x)
theorem rightB_iff {es : List (List Int)} : rightB es = true ↔ RightP es := by
  unfold rightB RightP
  rw [Bool.not_eq_true', List.any_eq_false]
  constructor
  · intro h l hl x hx
    have := h l hl
    rw [Bool.not_eq_true, List.any_eq_false] at this
    have := this x hx
    simp at this; omega
  · intro h l hl
    rw [Bool.not_eq_true, List.any_eq_false]
    intro x hx
    have := h l hl x hx
    simp; omega
end Go.V
namespace Go.Proofs.YtcapljamcepmkaaDoor
open Go.V
variable {w : World} {a : Option Addr} {l c : Nat} {d : FuncId} {e : List Value}
theorem y_CtI {xs : List Int} {p : Int → Bool} (hfl : Fn d = true) (hr : rdS (hp w) xs a l) (hb : l ≤ 4611686018427387904)
    (hP : ∀ x ∈ xs, ∀ u, hp u = hp w → rE d (.int .i64 x :: e) u fun v u' => v = .bool (p x) ∧ hp u' = hp w) :
    rE 49 [.slice a l c, .func (.func d) (Array.mk []) ⟨e⟩] w fun v w' => v = .bool (xs.any p) ∧ hp w' = hp w := by
  refine run_slices_ContainsFunc_int_int_ _ _ _ _ _ w _ ?_
  have key : rE 38 [.slice a l c, .func (.func d) (Array.mk []) ⟨e⟩] w fun v w' => ∃ n : Int, v = .int .i64 n ∧ (xs.any p = decide (0 ≤ n)) ∧ hp w' = hp w := by
    refine run_slices_IndexFunc_int_int_ _ _ _ _ _ w _ ?_
    have hxl := hr.1
    refine ⟨fun z w' => ∃ j : Nat, z = j ∧ j ≤ l ∧ (∀ k ∈ xs.take j, p k = false) ∧ hp w' = hp w, fun z _ => l - z.toNat, ⟨0, rfl, Nat.zero_le _, fun k hk => by simp at hk, rfl⟩, ?_⟩
    rintro _ z w1 ⟨j, rfl, hj, hno, e1⟩
    refine br_intro (fun h1 => ?_) fun h1 => ?_
    rotate_left
    · have h1 : j = l := by have := of_decide_eq_false h1; omega
      rw [List.take_of_length_le (by omega)] at hno
      exact ⟨_, rfl, by rw [List.any_eq_false.2 fun x hx => by rw [hno x hx]; simp]; rfl, e1⟩
    have h1 : j < l := by have := of_decide_eq_true h1; omega
    obtain ⟨k, hk⟩ : ∃ k, xs[j]? = some k := ⟨xs[j]'(by omega), List.getElem?_eq_getElem _⟩
    obtain ⟨ad, had, hc⟩ := hr.at hk
    refine idx_i had h1 ⟨k, hc w1 (Gr.of_eq e1), ifT_iff.2 ⟨hfl, (hP k (List.mem_of_getElem? hk) w1 e1).mono ?_⟩⟩
    rintro _ w2 ⟨rfl, e2⟩
    refine ⟨_, rfl, br_intro (fun hb => ?_) fun hb => ?_⟩
    · exact ⟨_, rfl, by rw [List.any_eq_true.2 ⟨k, List.mem_of_getElem? hk, hb⟩]; exact (decide_eq_true (Int.natCast_nonneg j)).symm, e2⟩
    · refine ⟨⟨by omega, by omega⟩, ⟨j + 1, by simp, by omega, fun y hy => ?_, e2⟩, msr h1⟩
      rw [List.take_add_one, hk] at hy
      rcases List.mem_append.1 hy with hy | hy
      · exact hno y hy
      · simp at hy; subst hy; exact hb
  refine key.mono ?_
  rintro _ w' ⟨n, rfl, h1, h2⟩
  exact ⟨n, rfl, by rw [h1], h2⟩
theorem y_CtL {xs : List (List Int)} {p : List Int → Bool} (hfl : Fn d = true) (hr : rdS (hp w) xs a l) (hb : l ≤ 4611686018427387904)
    (hP : ∀ x ∈ xs, ∀ u o l c, hp u = hp w → rdS (hp w) x o l → rE d (.slice o l c :: e) u fun v u' => v = .bool (p x) ∧ hp u' = hp w) :
    rE 68 [.slice a l c, .func (.func d) (Array.mk []) ⟨e⟩] w fun v w' => v = .bool (xs.any p) ∧ hp w' = hp w := by
  refine run_slices_ContainsFunc_LLint_int_ _ _ _ _ _ w _ ?_
  have key : rE 90 [.slice a l c, .func (.func d) (Array.mk []) ⟨e⟩] w fun v w' => ∃ n : Int, v = .int .i64 n ∧ (xs.any p = decide (0 ≤ n)) ∧ hp w' = hp w := by
    refine run_slices_IndexFunc_LLint_int_ _ _ _ _ _ w _ ?_
    have hxl := hr.1
    refine ⟨fun z w' => ∃ j : Nat, z = j ∧ j ≤ l ∧ (∀ k ∈ xs.take j, p k = false) ∧ hp w' = hp w, fun z _ => l - z.toNat, ⟨0, rfl, Nat.zero_le _, fun k hk => by simp at hk, rfl⟩, ?_⟩
    rintro _ z w1 ⟨j, rfl, hj, hno, e1⟩
    refine br_intro (fun h1 => ?_) fun h1 => ?_
    rotate_left
    · have h1 : j = l := by have := of_decide_eq_false h1; omega
      rw [List.take_of_length_le (by omega)] at hno
      exact ⟨_, rfl, by rw [List.any_eq_false.2 fun x hx => by rw [hno x hx]; simp]; rfl, e1⟩
    have h1 : j < l := by have := of_decide_eq_true h1; omega
    obtain ⟨k, ad, vs, hk, had, hrow, o, l1, c1, rfl, hle, hrd⟩ := hr.get h1
    rw [mulS_eq, show j * Rep.n (List Int) = j from Nat.mul_one j] at hrow
    refine idx_i had h1 ⟨o, l1, c1, hrow.cell0 (Gr.of_eq e1), ifT_iff.2 ⟨hfl, (hP k (List.mem_of_getElem? hk) w1 o l1 c1 e1 hrd).mono ?_⟩⟩
    rintro _ w2 ⟨rfl, e2⟩
    refine ⟨_, rfl, br_intro (fun hb => ?_) fun hb => ?_⟩
    · exact ⟨_, rfl, by rw [List.any_eq_true.2 ⟨k, List.mem_of_getElem? hk, hb⟩]; exact (decide_eq_true (Int.natCast_nonneg j)).symm, e2⟩
    · refine ⟨⟨by omega, by omega⟩, ⟨j + 1, by simp, by omega, fun y hy => ?_, e2⟩, msr h1⟩
      rw [List.take_add_one, hk] at hy
      rcases List.mem_append.1 hy with hy | hy
      · exact hno y hy
      · simp at hy; subst hy; exact hb
  refine key.mono ?_
  rintro _ w' ⟨n, rfl, h1, h2⟩
  exact ⟨n, rfl, by rw [h1], h2⟩
theorem y_right {es : List (List Int)} (hr : rdS (hp w) es a l) (hb : l ≤ 4611686018427387904) (hB : ∀ x ∈ es, x.length ≤ 4611686018427387904) :
    rE 41 [.slice a l c] w fun v w' => v = .bool (rightB es) ∧ Gr w w' := by
  refine run_digraph_right _ _ _ w _ ?_
  have hl := hr.1
  refine newC_i (St.all w) fun k1 w1 h1 => ?_
  have g1 : Gr w w1 := h1.gone1
  have hcel := (rdCel 0 h1.l).cell0 (sub.refl _)
  refine ⟨_, _, _, hcel, (y_CtL (p := fun l => l.any fun x => decide (x < 0) || decide ((es.length : Int) ≤ x)) (d := 69) (e := [vP (some (aM k1))]) rfl (hr.mono g1) hb ?_).mono ?_⟩
  · intro x hx u o l' c' hu hrx
    refine run_digraph_right_S1 _ _ _ _ u _ ((y_CtI (p := fun x => decide (x < 0) || decide ((es.length : Int) ≤ x)) (d := 70) (e := [vP (some (aM k1))]) rfl (by rw [hu]; exact hrx) (by have := hrx.1; have := hB x hx; omega) ?_).mono ?_)
    · intro y hy u2 hu2
      refine run_digraph_right_S1_S1 _ _ u2 _ (br_intro (fun h => ?_) fun h => ?_)
      · exact ⟨by rw [show decide (y < 0) = true from h]; rfl, hu2⟩
      · refine ⟨_, _, _, by rw [cell_hp (hu2.trans hu)]; exact hcel, by rw [show decide (y < 0) = false from h, Bool.false_or, hl], hu2⟩
    · rintro _ w2 ⟨rfl, h2⟩
      exact ⟨_, rfl, rfl, h2.trans hu⟩
  · rintro _ w2 ⟨rfl, h2⟩
    exact ⟨_, rfl, rfl, g1.trans (Gr.of_eq h2)⟩
end Go.Proofs.YtcapljamcepmkaaDoor
set_option linter.unusedVariables false
namespace Go.V
def srt (g : List Nat) : List Int := (g.map Int.ofNat).mergeSort fun x y => decide (x ≤ y)
theorem srt_perm (g : List Nat) : (srt g).Perm (g.map Int.ofNat) := List.mergeSort_perm _ _
theorem srt_len (g : List Nat) : (srt g).length = g.length := by have := (srt_perm g).length_eq; simpa using this
theorem srt_sorted (g : List Nat) : (srt g).Pairwise fun x y => x ≤ y := by
  have := List.pairwise_mergeSort (le := fun x y : Int => decide (x ≤ y)) (by intro a b c; simp; omega) (by intro a b; simp; omega) (g.map Int.ofNat)
  exact this.imp fun h => of_decide_eq_true h
theorem srt_mem {g : List Nat} {x : Int} : x ∈ srt g ↔ ∃ v ∈ g, (v : Int) = x := by
  rw [(srt_perm g).mem_iff, List.mem_map]; rfl
theorem flat_len {gs : List (List Nat)} (h : ∀ g ∈ gs, g ≠ []) : gs.length ≤ gs.flatten.length := by
  induction gs with
  | nil => simp
  | cons g gs ih =>
    have h1 := ih fun x hx => h x (by simp [hx])
    have h2 := List.length_pos_iff.2 (h g (by simp))
    rw [List.flatten_cons, List.length_append, List.length_cons]; omega
theorem Dig.Good.ne {E : Nat → List Nat} {gs : List (List Nat)} (h : Dig.Good E gs) : ∀ g ∈ gs, g ≠ [] := fun g hg => by
  obtain ⟨g1, g2, e⟩ := List.append_of_mem hg
  exact (h.2 g1 g g2 e).1
theorem Dig.Good.len {E : Nat → List Nat} {gs : List (List Nat)} {N : Nat} (h : Dig.Good E gs) (hl : ∀ v ∈ gs.flatten, v < N) : gs.length ≤ N ∧ ∀ g ∈ gs, g.length ≤ N := by
  have h1 := flat_len h.ne
  have h2 := Dig.nd_len h.1 hl
  refine ⟨by omega, fun g hg => ?_⟩
  obtain ⟨g1, g2, e⟩ := List.append_of_mem hg
  rw [e] at h2; simp at h2; omega
end Go.V
namespace Go.Proofs.YtcapljamcepmkaaDoor
open Go.V
variable {w : World} {L : List Asn} {a : Option Addr} {N l c ko : Nat} {es : List (List Int)}
def compA (ko : Nat) (gs : List (List Nat)) : Asn := V.ex fun y : Option Addr × Nat × List Ls => sta [V.pu (y.2.2.map (·.2) = gs.map srt), cel ko [.slice y.1 y.2.2.length y.2.1], own 1 y.1 y.2.2.length y.2.1 (y.2.2.map slP'), sta (y.2.2.map owP')]
theorem compA_iff {gs : List (List Nat)} : St w (compA ko gs :: L) ↔ ∃ (o : Option Addr) (oc : Nat) (ps : List Ls), ps.map (·.2) = gs.map srt ∧ St w (cel ko [.slice o ps.length oc] :: own 1 o ps.length oc (ps.map slP') :: sta (ps.map owP') :: L) := by
  unfold compA
  rw [St.ex]
  constructor
  · rintro ⟨⟨o, oc, ps⟩, h⟩
    have h := St.flat.1 h
    have h := St.pu.1 h
    exact ⟨o, oc, ps, h.1, h.2⟩
  · rintro ⟨o, oc, ps, h1, h2⟩
    exact ⟨⟨o, oc, ps⟩, St.flat.2 (St.pu.2 ⟨h1, h2⟩)⟩
theorem done_C (hb : es.length * 24 ≤ 140737488355328) : DoneC n_digraph_Components_S1 [.pointer (some (aM ko))] es fun gs => [compA ko gs] := by
  intro gs g F w o gc hG hlt h
  obtain ⟨o1, oc, ps, hps, h⟩ := compA_iff.1 (h.pick 2 [1, 0])
  have hGl := hG.len hlt
  have hgl := hGl.2 g (by simp)
  have hgn := hG.ne g (by simp)
  have hpl : ps.length = gs.length := by have := congrArg List.length hps; simpa using this
  have hgs := hGl.1
  simp only [List.length_append, List.length_singleton] at hgs
  have hg0 := List.length_pos_iff.2 hgn
  refine run_digraph_Components_S1 _ _ _ _ w _ ?_
  have h := h.pick 4 [3, 0, 1, 2]
  rw [ivn_eq] at h
  refine (y_sortI h (by omega) (by omega)).mono ?_
  rintro _ w1 ⟨rfl, h⟩
  refine ⟨rfl, _, _, _, (rdCel 1 h.l).cell0 (sub.refl _), newC_i h fun k3 w2 h => ?_⟩
  refine (app_one tyOk (rfl : kdOfT Ty _ = .slice _) (rfl : kdOfT Ty _ = .slice _) rfl rfl rfl (h.pick 5 [0, 3, 1, 2, 4]) rfl (by simp [oneC]) (by show (ps.length + 1) * 24 ≤ _; omega) (by omega)).mono ?_
  rintro _ w3 ⟨o2, c2, rfl, h⟩
  refine ⟨_, _, _, rfl, st1_i (h.pick 5 [3, 0, 2, 4]) (by simp) fun w4 h => ⟨rfl, ?_⟩⟩
  show St w4 (compA ko (gs ++ [g]) :: F)
  refine compA_iff.2 ⟨o2, c2, ps ++ [((o, gc), srt g)], by simp [hps], ?_⟩
  have e1 : (ps ++ [((o, gc), srt g)]).length = ps.length + 1 := by simp
  have e2 : (ps ++ [((o, gc), srt g)]).map slP' = ps.map slP' ++ [.slice o g.length gc] := by simp [slP', srt_len]
  have e3 : (ps ++ [((o, gc), srt g)]).map owP' = ps.map owP' ++ [own 1 o g.length gc (iv (srt g))] := by simp [owP', srt_len]
  rw [e1, e2, e3]
  exact (St.snoc (h.pick 4 [2, 3, 0, 1])).pick 3 [1, 2, 0]
theorem y_sortN {a : Option Addr} {l c : Nat} {ps : List Ls} (h : St w (own 1 a l c (ps.map slP') :: sta (ps.map owP') :: L)) (hne : ∀ p ∈ ps, p.2 ≠ []) (hr : ∀ p ∈ ps, ∀ x ∈ p.2, 0 ≤ x ∧ x < 4611686018427387904) (hb : l < 4611686018427387904) :
    rE 45 [.slice a l c, .func (.func 46) (Array.mk []) (Array.mk [])] w fun v w' => v = .tuple (Array.mk []) ∧
      ∃ ps' : List Ls, ps'.Perm ps ∧ ps'.Pairwise (fun p q => hdP p ≤ hdP q) ∧ St w' (own 1 a l c (ps'.map slP') :: sta (ps'.map owP') :: L) := by
  by_cases hn : ps = []
  · subst hn
    have hl : l = 0 := by have := own_len h; simp at this; omega
    subst hl
    refine Calls.mono (AnyF.slices_SortFunc_none { sortF with } a c _ w) ?_
    rintro e w' ⟨rfl, rfl⟩
    exact ⟨_, rfl, Ev.refl _, rfl, [], List.Perm.refl _, List.Pairwise.nil, h⟩
  · exact y_sortC h hn hne hr hb
def CompsP (es : List (List Int)) (ps : List Ls) : Prop :=
  ∃ gs, Dig.Good (En es) gs ∧ (∀ v, v ∈ gs.flatten ↔ v < es.length) ∧ (ps.map (·.2)).Perm (gs.map srt) ∧ ps.Pairwise fun p q => hdP p ≤ hdP q
theorem d_Components (hr : rdS (hp w) es a N) (hB : ∀ l ∈ es, l.length * 8 ≤ 140737488355328) (hb : N * 24 ≤ 140737488355328) :
    rE 19 [.slice a N c] w fun v w' => (rightB es = false ∧ v = .tuple (Array.mk [.slice none 0 0, .int .i64 1]) ∧ Gr w w') ∨
      (rightB es = true ∧ ∃ (o : Option Addr) (oc : Nat) (ps : List Ls), CompsP es ps ∧ v = .tuple (Array.mk [.slice o ps.length oc, .int .i64 0]) ∧ St w' (own 1 o ps.length oc (ps.map slP') :: sta (ps.map owP') :: all w)) := by
  have hN := hr.1
  refine run_digraph_Components _ _ _ w _ ((y_right hr (by omega) fun x hx => by have := hB x hx; omega).mono ?_)
  rintro _ w1 ⟨rfl, g1⟩
  refine ⟨_, rfl, br_intro (fun h1 => ?_) fun h1 => ?_⟩
  · exact .inl ⟨by simpa using h1, rfl, g1⟩
  have h1 : rightB es = true := by simpa using h1
  refine newC_i ((St.all w).gr g1) fun ko w2 h => ?_
  have h : St w2 ([compA ko []] ++ all w) := compA_iff.2 ⟨none, 0, [], rfl, (own_nil 1 ((St.flat (M := [])).2 h)).pick 3 [2, 0, 1]⟩
  refine (d_each (Q := fun gs => [compA ko gs]) (L := all w) rfl (done_C (by omega)) (fun gs hh hs => hr.mono (rdH 1 hs)) (rightB_iff.1 h1) hB hb h).mono ?_
  rintro _ w3 ⟨rfl, gs, hG, hall, h⟩
  obtain ⟨o, oc, ps, hps, h⟩ := compA_iff.1 h
  have hgl := hG.len (N := N) fun v hv => (hall v).1 hv
  have hpl : ps.length = gs.length := by have := congrArg List.length hps; simpa using this
  have hmem : ∀ p ∈ ps, ∃ g ∈ gs, p.2 = srt g := fun p hp => by
    have : p.2 ∈ gs.map srt := by rw [← hps]; exact List.mem_map_of_mem hp
    obtain ⟨g, hg, e⟩ := List.mem_map.1 this
    exact ⟨g, hg, e.symm⟩
  refine ⟨rfl, _, _, _, (rdCel 0 h.l).cell0 (sub.refl _), (y_sortN (h.pick 3 [1, 2, 0]) ?_ ?_ (by omega)).mono ?_⟩
  · intro p hp
    obtain ⟨g, hg, e⟩ := hmem p hp
    rw [e]
    intro e2
    have := congrArg List.length e2
    rw [srt_len] at this
    exact hG.ne g hg (List.eq_nil_of_length_eq_zero this)
  · intro p hp x hx
    obtain ⟨g, hg, e⟩ := hmem p hp
    rw [e] at hx
    obtain ⟨v, hv, rfl⟩ := srt_mem.1 hx
    have := (hall v).1 (List.mem_flatten.2 ⟨g, hg, hv⟩)
    omega
  rintro _ w4 ⟨rfl, ps', hp1, hp2, h⟩
  have el : ps.length = ps'.length := hp1.length_eq.symm
  refine ⟨rfl, _, _, _, (rdCel 2 h.l).cell0 (sub.refl _), .inr ⟨h1, o, oc, ps', ⟨gs, hG, by rw [hN]; exact hall, hps ▸ hp1.map _, hp2⟩, by rw [el], ?_⟩⟩
  rw [el] at h
  exact h.pick 3 [0, 1]
end Go.Proofs.YtcapljamcepmkaaDoor
set_option linter.unusedVariables false
namespace Go.V
theorem eqIn_ptr2 {P : Program} {w : World} (d : Nat) {t e : TypeId} {a b : Addr} {q : Bool} {i : TypeInfo} (h : P.underlying t = some (.pointer e)) (hi : P.info? e = some i) (hz : i.size ≠ 0) (hs : (sameAddr a b).run P w = .ok q w) :
    (Op.equalIn (d + 1) t (.pointer (some a)) (.pointer (some b))).run P w = .ok q w := by
  simp [Op.equalIn, run_und h, sizeOf, typeInfo, hi, hz, hs]
theorem equal_ptr2 {P : Program} {w : World} {t e : TypeId} {a b : Addr} {q : Bool} {i : TypeInfo} (h : P.underlying t = some (.pointer e)) (hi : P.info? e = some i) (hz : i.size ≠ 0) (hs : (sameAddr a b).run P w = .ok q w) :
    (Op.equal t (.pointer (some a)) (.pointer (some b))).run P w = .ok q w := eqIn_ptr2 9999 h hi hz hs
theorem run_cmp_ptr {P : Program} {w : World} {t e : TypeId} {xo yo : Operand} {a b : Addr} {q : Bool} {i : TypeInfo} (h : P.underlying t = some (.pointer e)) (hi : P.info? e = some i) (hz : i.size ≠ 0) (hs : (sameAddr a b).run P w = .ok q w) :
    (cmpS .neq t xo yo (.pointer (some a)) (.pointer (some b))).run P w = .ok (.bool (!q)) w := by
  unfold cmpS
  have hg : (eqGuard .neq t xo yo (.pointer (some a)) (.pointer (some b))).run P w = .ok () w := eqGuard_ok (by simp) (by simp)
  simp [hg, Go.binOp, equal_ptr2 h hi hz hs]
theorem cmp_ptr_n {P : Program} {w : World} {L : List Asn} {Ty : TypeId → Option TyI} (hT : TyOk P Ty) {t e : TypeId} {i : TyI} {xo yo : Operand} {k1 k2 : Nat} {v1 v2 : List Value} (hk : kdOfT Ty t = .ptr e) (hi : Ty e = some i) (hz : i.size ≠ 0) (h : St w (cel k1 v1 :: cel k2 v2 :: L)) :
    (cmpS .neq t xo yo (.pointer (some ⟨k1, 0, none⟩)) (.pointer (some ⟨k2, 0, none⟩))).run P w = .ok (.bool true) w := by
  obtain ⟨d, hd, hd'⟩ := undOf hT hk (by simp)
  rw [kd_ptr hd'] at hd
  obtain ⟨info, d2, ha⟩ := tyAt hT hi
  obtain ⟨e1, h1⟩ := cel_ex.1 h
  obtain ⟨e2, h2⟩ := cel_ex.1 h.swap
  have hne : (⟨k1, 0, none⟩ : Addr) ≠ ⟨k2, 0, none⟩ := by
    intro e
    cases e
    obtain ⟨g1, g2, dd, s1, s2, ⟨_, x1⟩, g3, g4, dd', s3, s4, ⟨_, x2⟩, _⟩ := h
    rcases dd k1 with h | h
    · rw [h] at x1; cases x1
    · rw [s3 k1 _ x2] at h; cases h
  exact run_cmp_ptr hd ha.inf (by rw [← ha.size]; exact hz) (run_sameAddr_other w hne h1.get h2.get)
theorem cmp_ptr_s {P : Program} {w : World} {Ty : TypeId → Option TyI} (hT : TyOk P Ty) {t e : TypeId} {i : TyI} {xo yo : Operand} {a : Addr} (hk : kdOfT Ty t = .ptr e) (hi : Ty e = some i) (hz : i.size ≠ 0) :
    (cmpS .neq t xo yo (.pointer (some a)) (.pointer (some a))).run P w = .ok (.bool false) w := by
  obtain ⟨d, hd, hd'⟩ := undOf hT hk (by simp)
  rw [kd_ptr hd'] at hd
  obtain ⟨info, d2, ha⟩ := tyAt hT hi
  exact run_cmp_ptr hd ha.inf (by rw [← ha.size]; exact hz) (run_sameAddr_same w a)
def HasP (es ow : List (List Int)) (v : Nat) (x : Nat) : Prop := ∃ u, Dig.Rc (En es) v u ∧ (x : Int) ∈ ow.getD u []
structure SolB (es ow : List (List Int)) (v : Nat) (bs : List Bool) : Prop where
  ln : bs.length = 1024
  fn : ∀ x, fnB bs x = true ↔ x < 1024 ∧ HasP es ow v x
theorem HasP.mutual {es ow : List (List Int)} {v u x : Nat} (h : Dig.Rc (En es) v u) (hx : HasP es ow u x) : HasP es ow v x := by
  obtain ⟨y, h1, h2⟩ := hx
  exact ⟨y, h.trans h1, h2⟩
theorem SolB.same {es ow : List (List Int)} {v u : Nat} {bs : List Bool} (h : SolB es ow v bs) (h1 : Dig.Rc (En es) v u) (h2 : Dig.Rc (En es) u v) : SolB es ow u bs :=
  ⟨h.ln, fun x => by rw [h.fn]; exact and_congr_right fun _ => ⟨fun hx => hx.mutual h2, fun hx => hx.mutual h1⟩⟩
theorem HasP.step {es ow : List (List Int)} {g : List Nat} {v : Nat} (hv : v ∈ g) (hg : ∀ a ∈ g, ∀ b ∈ g, Dig.Rc (En es) a b) {x : Nat} :
    HasP es ow v x ↔ (∃ n ∈ g, (x : Int) ∈ ow.getD n []) ∨ ∃ n ∈ g, ∃ m ∈ En es n, m ∉ g ∧ HasP es ow m x := by
  constructor
  · rintro ⟨u, h1, h2⟩
    have key : ∀ a b, Dig.Rc (En es) a b → a ∈ g → (x : Int) ∈ ow.getD b [] → (∃ n ∈ g, (x : Int) ∈ ow.getD n []) ∨ ∃ n ∈ g, ∃ m ∈ En es n, m ∉ g ∧ HasP es ow m x := by
      intro a b h
      induction h with
      | refl a => intro ha hx; exact .inl ⟨a, ha, hx⟩
      | @step a m b hm hr ih =>
        intro ha hx
        by_cases hmg : m ∈ g
        · exact ih hmg hx
        · exact .inr ⟨a, ha, m, hm, hmg, b, hr, hx⟩
    exact key v u h1 hv h2
  · rintro (⟨n, hn, hx⟩ | ⟨n, hn, m, hm, _, hx⟩)
    · exact ⟨n, hg v hv n hn, hx⟩
    · exact ((hg v hv n hn).trans (Dig.Rc.one hm)) |> fun h => hx.mutual h
end Go.V
set_option linter.unusedVariables false
namespace Go.V
def pvl (l : List (Option Addr)) : List Value := l.map fun p => Value.pointer p
theorem pvl_set (l : List (Option Addr)) (i : Nat) (p : Option Addr) : (pvl l).set i (.pointer p) = pvl (l.set i p) := by simp [pvl, List.map_set]
theorem pvl_get {l : List (Option Addr)} {i : Nat} {p : Option Addr} (h : l[i]? = some p) : (pvl l)[i]? = some (.pointer p) := by simp [pvl, h]
def setP (p : Option Addr) (l : List (Option Addr)) (g : List Nat) : List (Option Addr) := g.foldl (fun l m => l.set m p) l
theorem setP_len (p : Option Addr) : ∀ (g : List Nat) (l : List (Option Addr)), (setP p l g).length = l.length
  | [], _ => rfl
  | m :: g, l => by show (setP p (l.set m p) g).length = _; rw [setP_len p g]; simp
theorem setP_snoc (p : Option Addr) (l : List (Option Addr)) (g : List Nat) (m : Nat) : setP p l (g ++ [m]) = (setP p l g).set m p := by simp [setP]
theorem setP_get (p : Option Addr) : ∀ (g : List Nat) (l : List (Option Addr)), (∀ m ∈ g, m < l.length) → ∀ v, (setP p l g)[v]? = if v ∈ g then some p else l[v]?
  | [], l, _, v => by simp [setP]
  | m :: g, l, h, v => by
    have := setP_get p g (l.set m p) (fun y hy => by rw [List.length_set]; exact h y (by simp [hy])) v
    show (setP p (l.set m p) g)[v]? = _
    rw [this]
    by_cases e : v ∈ g
    · simp [e]
    · have hm := h m (by simp)
      by_cases e2 : v = m
      · subst e2; simp [e, hm]
      · rw [if_neg e, List.getElem?_set_ne (Ne.symm e2), if_neg (by simp [e, e2])]
section
variable {w : World} {L : List Asn}
theorem at_perm {M : List Asn} {n : Nat} (hn : n < M.length) : M.Perm (M[n] :: (M.take n ++ M.drop (n + 1))) := by
  have e : M = M.take n ++ M[n] :: M.drop (n + 1) := by rw [← List.drop_eq_getElem_cons hn, List.take_append_drop]
  exact (List.Perm.of_eq e).trans List.perm_middle
theorem set_perm {M : List Asn} {n : Nat} {A : Asn} (hn : n < M.length) : (M.set n A).Perm (A :: (M.take n ++ M.drop (n + 1))) := by
  rw [List.set_eq_take_append_cons_drop, if_pos hn]
  exact List.perm_middle
theorem St.staSet {A : Asn} {M : List Asn} (h : St w (A :: sta M :: L)) {n : Nat} (hn : n < M.length) : St w (sta (M.set n A) :: L) := by
  have h1 := St.flat.1 h.swap
  have h2 : St w ((M[n] :: (M.take n ++ M.drop (n + 1))) ++ (A :: L)) := h1.perm ((at_perm hn).append_right _)
  have h3 : St w ((M.take n ++ M.drop (n + 1)) ++ (A :: L)) := h2.tail
  have h4 : St w ((A :: (M.take n ++ M.drop (n + 1))) ++ L) := h3.perm List.perm_middle
  exact St.flat.2 (h4.perm ((set_perm hn).symm.append_right _))
theorem St.staGet {M : List Asn} {A : Asn} (h : St w (sta M :: L)) {n : Nat} (hn : M[n]? = some A) : St w (A :: sta (M.take n ++ M.drop (n + 1)) :: L) := by
  obtain ⟨hl, rfl⟩ := List.getElem?_eq_some_iff.1 hn
  have h1 := St.flat.1 h
  have h2 : St w ((M[n] :: (M.take n ++ M.drop (n + 1))) ++ L) := h1.perm ((at_perm hl).append_right _)
  have h3 : St w ((M.take n ++ M.drop (n + 1)) ++ (M[n] :: L)) := h2.perm List.perm_middle.symm
  exact (St.flat.2 h3).swap
theorem sta_reps {A : Asn} (hA : ∀ w L, St w L → St w (A :: L)) : ∀ (n : Nat), St w L → St w (sta (List.replicate n A) :: L)
  | 0, h => (St.flat (M := [])).2 h
  | n + 1, h => by
    have h1 := St.flat.1 (sta_reps hA n h)
    exact (St.flat (M := List.replicate (n + 1) A)).2 (hA _ _ h1)
end
end Go.V
set_option linter.unusedVariables false
namespace Go.V
theorem starL_at {L : List Asn} {h : Hp} {A : Asn} (i : Nat) (hl : starL L h) (e : nthA L i = A := by rfl) (hi : Nat.blt i (lenA L) = true := by rfl) : ∃ h1, sub h1 h ∧ A h1 := by
  have := starL_nth i (by simpa [lenA_eq] using hi) hl
  rwa [e] at this
structure SolF (es ow : List (List Int)) (N : Nat) (gs : List (List Nat)) (sets : List (Option Addr)) (ps : List Go.Proofs.YtcapljamcepmkaaDoor.Ls) (gr : List (Nat × List Bool)) : Prop where
  ls : sets.length = N
  lp : ps.length = N
  lg : gr.length = gs.length
  st : ∀ (i : Nat) g b B, gs[i]? = some g → gr[i]? = some (b, B) → ∀ v ∈ g, sets[v]? = some (some ⟨b, 0, none⟩) ∧ SolB es ow v B ∧ ∃ p, ps[v]? = some p ∧ p.2 = mbI B
end Go.V
namespace Go.Proofs.YtcapljamcepmkaaDoor
open Go.V
variable {w : World} {L : List Asn} {a oa : Option Addr} {N c oc l ks bs ko bo ke kn : Nat} {es ow : List (List Int)} {h0 : Hp}
def setG (gr : List (Nat × List Bool)) : List Asn := gr.map fun p => setO (some ⟨p.1, 0, none⟩) p.2
def solA (es ow : List (List Int)) (ks bs ko bo N : Nat) (gs : List (List Nat)) : Asn := V.ex fun y : List (Option Addr) × List Ls × List (Nat × List Bool) =>
  sta [V.pu (SolF es ow N gs y.1 y.2.1 y.2.2), cel ks [.slice (some ⟨bs, 0, none⟩) N N], cel bs (pvl y.1), cel ko [.slice (some ⟨bo, 0, none⟩) N N], cel bo (y.2.1.map slP'), sta (y.2.1.map owP'), sta (setG y.2.2)]
theorem solA_iff {gs : List (List Nat)} : St w (solA es ow ks bs ko bo N gs :: L) ↔ ∃ (sets : List (Option Addr)) (ps : List Ls) (gr : List (Nat × List Bool)), SolF es ow N gs sets ps gr ∧
    St w (cel ks [.slice (some ⟨bs, 0, none⟩) N N] :: cel bs (pvl sets) :: cel ko [.slice (some ⟨bo, 0, none⟩) N N] :: cel bo (ps.map slP') :: sta (ps.map owP') :: sta (setG gr) :: L) := by
  unfold solA
  rw [St.ex]
  constructor
  · rintro ⟨⟨sets, ps, gr⟩, h⟩
    have h := St.pu.1 (St.flat.1 h)
    exact ⟨sets, ps, gr, h.1, h.2⟩
  · rintro ⟨sets, ps, gr, h1, h2⟩
    exact ⟨⟨sets, ps, gr⟩, St.flat.2 (St.pu.2 ⟨h1, h2⟩)⟩
theorem cmp_sets {k1 k2 : Nat} {B1 B2 : List Bool} {xo yo : Operand} (h : St w (setO (some ⟨k1, 0, none⟩) B1 :: setO (some ⟨k2, 0, none⟩) B2 :: L)) :
    (cmpS .neq 67 xo yo (.pointer (some ⟨k1, 0, none⟩)) (.pointer (some ⟨k2, 0, none⟩))).run Tryd.prog w = .ok (.bool true) w := by
  rcases setM_cases h with ⟨e, _⟩ | ⟨b, a, c, ws, e, _, h⟩
  · cases e
  · cases e
    rcases setM_cases (h.pick 3 [2, 0, 1]) with ⟨e, _⟩ | ⟨b', a', c', ws', e, _, h⟩
    · cases e
    · cases e
      exact cmp_ptr_n tyOk (rfl : kdOfT Ty 67 = .ptr _) rfl (by decide) (h.pick 4 [2, 0, 1, 3])
structure SolC (es ow : List (List Int)) (h0 : Hp) (ke kn N : Nat) (a oa : Option Addr) (c oc : Nat) : Prop where
  ce : rowH h0 ⟨ke, 0, none⟩ [.slice a N c]
  cn : rowH h0 ⟨kn, 0, none⟩ [.slice oa N oc]
  re : rdS h0 es a N
  rn : rdS h0 ow oa N
  tab : tabA h0
  bE : ∀ x ∈ es, x.length * 8 ≤ 140737488355328
  bO : ∀ x ∈ ow, x.length * 8 ≤ 140737488355328
  bN : N * 24 ≤ 140737488355328
  rO : ∀ x ∈ ow, ∀ y ∈ x, 0 ≤ y ∧ y < 1024
theorem done_S (hR : RightP es) (C : SolC es ow h0 ke kn N a oa c oc) : DoneC n_digraph_Solve_S2 [.pointer (some (aM ks)), .pointer (some (aM kn)), .pointer (some (aM ke)), .pointer (some (aM ko))] es fun gs => [solA es ow ks bs ko bo N gs, has h0] := by
  intro gs g F w o gc hG hlt h
  have hN : es.length = N := C.re.1
  have hgN : ∀ v ∈ g, v < N := fun v hv => by have := hlt v (by simp [hv]); omega
  have hgl : g.length ≤ N := (hG.len hlt).2 g (by simp) |> fun h => by omega
  have hgm : ∀ x ∈ g, ∀ y ∈ g, Dig.Rc (En es) x y := (hG.2 gs g [] rfl).2.1
  have hge : ∀ x ∈ g, ∀ y ∈ En es x, y ∈ g ∨ y ∈ gs.flatten := (hG.2 gs g [] rfl).2.2
  have hgd : ∀ x ∈ g, x ∉ gs.flatten := fun x hx => (Dig.nodup_split hG.1 rfl hx).1
  have bN := C.bN
  obtain ⟨sets, ps, gr, hF, h⟩ := solA_iff.1 (h.pick 3 [1, 0, 2])
  refine run_digraph_Solve_S2 _ _ _ _ _ _ _ w _ ((s_Of 1024 (xs := []) rdS.nil (by decide)).mono ?_)
  rintro _ w1 ⟨b, rfl, h1⟩
  have h := h1.on1 h
  -- [0 set, 1 ks, 2 bs, 3 ko, 4 bo, 5 lists, 6 sets, 7 group, 8 has]
  refine ⟨_, rfl, fun z w' => ∃ i : Nat, z = i ∧ i ≤ g.length ∧ St w' (setO (some ⟨b, 0, none⟩) (ofB 1024 []) :: cel ks [.slice (some ⟨bs, 0, none⟩) N N] :: cel bs (pvl (setP (some ⟨b, 0, none⟩) sets (g.take i))) :: cel ko [.slice (some ⟨bo, 0, none⟩) N N] :: cel bo (ps.map slP') :: sta (ps.map owP') :: sta (setG gr) :: own 1 o g.length gc (ivn g) :: has h0 :: F),
    fun z _ => g.length - z.toNat, ⟨0, rfl, Nat.zero_le _, h⟩, ?_⟩
  rintro _ z w2 ⟨i, rfl, hi, h⟩
  refine br_intro (fun h1 => ?_) fun h1 => ?_
  · have h1 : i < g.length := by have := of_decide_eq_true h1; omega
    obtain ⟨v, hv⟩ : ∃ v, g[i]? = some v := ⟨g[i], List.getElem?_eq_getElem _⟩
    have hvN := hgN v (List.mem_of_getElem? hv)
    obtain ⟨gad, hga, hgc⟩ := own_cell (h.pick 9 [7, 0, 1, 2, 3, 4, 5, 6, 8]) (ivn_get' hv)
    refine idx_i hga h1 ⟨_, hgc, _, _, _, (rdCel 1 h.l).cell0 (sub.refl _), idx_i rfl hvN ?_⟩
    rw [add_lit0]
    refine st1_i (h.pick 9 [2, 0, 1, 3, 4, 5, 6, 7, 8]) (by simp [pvl, setP_len, hF.ls]; omega) fun w3 h => ⟨⟨by omega, by omega⟩, ⟨i + 1, rfl, h1, ?_⟩, msr h1⟩
    rw [pvl_set] at h
    rw [List.take_add_one, hv, Option.toList_some, setP_snoc]
    exact h.pick 9 [1, 2, 0, 3, 4, 5, 6, 7, 8]
  have h1 : i = g.length := by have := of_decide_eq_false h1; omega
  subst h1
  rw [List.take_length] at h
  have hmax : ∀ x : Nat, (ofB 1024 []).length = 1024 ∧ fnB (ofB 1024 []) x = false := fun x => ⟨by unfold ofB; rw [addB_len, List.length_replicate]; decide, by unfold ofB; rw [fnB_add]; simp [addS, fnB_rep]⟩
  have hsets : ∀ v, (setP (some ⟨b, 0, none⟩) sets g)[v]? = if v ∈ g then some (some (⟨b, 0, none⟩ : Addr)) else sets[v]? := setP_get _ g sets fun m hm => by rw [hF.ls]; exact hgN m hm
  -- the numbers come together
  let Part : Nat → Nat → Prop := fun i x => (∃ n ∈ g.take i, (x : Int) ∈ ow.getD n []) ∨ ∃ n ∈ g.take i, ∃ m ∈ En es n, m ∉ g ∧ HasP es ow m x
  refine ⟨fun z w' => ∃ (i : Nat) (B : List Bool), z = i ∧ i ≤ g.length ∧ B.length = 1024 ∧ (∀ x, fnB B x = true ↔ x < 1024 ∧ Part i x) ∧ St w' (setO (some ⟨b, 0, none⟩) B :: cel ks [.slice (some ⟨bs, 0, none⟩) N N] :: cel bs (pvl (setP (some ⟨b, 0, none⟩) sets g)) :: cel ko [.slice (some ⟨bo, 0, none⟩) N N] :: cel bo (ps.map slP') :: sta (ps.map owP') :: sta (setG gr) :: own 1 o g.length gc (ivn g) :: has h0 :: F),
    fun z _ => g.length - z.toNat, ⟨0, _, rfl, Nat.zero_le _, (hmax 0).1, fun x => ?_, h⟩, ?_⟩
  · rw [(hmax x).2]
    constructor
    · intro h; cases h
    · rintro ⟨_, ⟨n, hn, _⟩ | ⟨n, hn, _⟩⟩ <;> simp at hn
  rintro _ z w4 ⟨i, B, rfl, hi, hBl, hBf, h⟩
  refine br_intro (fun h1 => ?_) fun h1 => ?_
  · have h1 : i < g.length := by have := of_decide_eq_true h1; omega
    obtain ⟨n, hn⟩ : ∃ n, g[i]? = some n := ⟨g[i], List.getElem?_eq_getElem _⟩
    have hng := List.mem_of_getElem? hn
    have hnN := hgN n hng
    have s0 := rdH 8 h.l
    obtain ⟨gad, hga, hgc⟩ := own_cell (h.pick 9 [7, 0, 1, 2, 3, 4, 5, 6, 8]) (ivn_get' hn)
    obtain ⟨xo, oad, ov, hxo, hoa, horow, o4, l4, c4, rfl, hle4, hrd4⟩ := C.rn.get (i := n) hnN
    rw [mulS_eq, show n * Rep.n (List Int) = n from Nat.mul_one n] at horow
    obtain ⟨xe, ead, ev, hxe, hea, herow, o6, l6, c6, rfl, hle6, hrd6⟩ := C.re.get (i := n) hnN
    rw [mulS_eq, show n * Rep.n (List Int) = n from Nat.mul_one n] at herow
    have hlo := hrd4.1
    have hle := hrd6.1
    have hxoB := C.bO xo (List.mem_of_getElem? hxo)
    have hxeB := C.bE xe (List.mem_of_getElem? hxe)
    refine idx_i hga h1 ⟨_, hgc, _, _, _, C.cn.cell0 s0, idx_i hoa hnN ⟨o4, l4, c4, horow.cell0 s0, (s_Add (xs := xo) h (fun hh hl => hrd4.mono (rdH 7 hl)) (by omega)).mono ?_⟩⟩
    rintro _ w5 ⟨rfl, h⟩
    have s0 := rdH 8 h.l
    refine ⟨_, rfl, _, _, _, C.ce.cell0 s0, idx_i hea hnN ⟨o6, l6, c6, herow.cell0 s0, ?_⟩⟩
    have hen := en_get hxe
    have how : ow.getD n [] = xo := by rw [List.getD_eq_getElem?_getD, hxo]; rfl
    refine ⟨fun z w' => ∃ (j : Nat) (B' : List Bool), z = j ∧ j ≤ l6 ∧ B'.length = 1024 ∧ (∀ x, fnB B' x = true ↔ x < 1024 ∧ (Part i x ∨ (x : Int) ∈ xo ∨ ∃ m ∈ (En es n).take j, m ∉ g ∧ HasP es ow m x)) ∧ St w' (setO (some ⟨b, 0, none⟩) B' :: cel ks [.slice (some ⟨bs, 0, none⟩) N N] :: cel bs (pvl (setP (some ⟨b, 0, none⟩) sets g)) :: cel ko [.slice (some ⟨bo, 0, none⟩) N N] :: cel bo (ps.map slP') :: sta (ps.map owP') :: sta (setG gr) :: own 1 o g.length gc (ivn g) :: has h0 :: F),
      fun z _ => l6 - z.toNat, ⟨0, _, rfl, Nat.zero_le _, by rw [addB_len]; exact hBl, fun x => ?_, h⟩, ?_⟩
    · rw [fnB_add, addS, hBl, Bool.or_eq_true, hBf, Bool.and_eq_true, decide_eq_true_eq, List.contains_iff_mem]
      constructor
      · rintro (⟨p1, p2⟩ | ⟨p1, p2⟩)
        · exact ⟨p1, .inl p2⟩
        · exact ⟨p1, .inr (.inl p2)⟩
      · rintro ⟨p1, p2 | p2 | ⟨m, hm, _⟩⟩
        · exact .inl ⟨p1, p2⟩
        · exact .inr ⟨p1, p2⟩
        · simp at hm
    rintro _ z w6 ⟨j, B', rfl, hj, hBl', hBf', h⟩
    have s0 := rdH 8 h.l
    refine br_intro (fun h2 => ?_) fun h2 => ?_
    · have h2 : j < l6 := by have := of_decide_eq_true h2; omega
      obtain ⟨mI, hmI⟩ : ∃ mI, xe[j]? = some mI := ⟨xe[j]'(by omega), List.getElem?_eq_getElem _⟩
      obtain ⟨m, hmE, rfl⟩ : ∃ m : Nat, (En es n)[j]? = some m ∧ mI = (m : Int) := by
        refine ⟨mI.toNat, by rw [hen, List.getElem?_map, hmI]; rfl, ?_⟩
        have := hR xe (List.mem_of_getElem? hxe) mI (List.mem_of_getElem? hmI)
        omega
      have hmN : m < N := by have := en_lt hR (List.mem_of_getElem? hmE); omega
      have htk : ∀ {B'' : List Bool}, (∀ x, fnB B'' x = true ↔ fnB B' x = true ∨ (x < 1024 ∧ m ∉ g ∧ HasP es ow m x)) → ∀ x, fnB B'' x = true ↔ x < 1024 ∧ (Part i x ∨ (x : Int) ∈ xo ∨ ∃ m ∈ (En es n).take (j + 1), m ∉ g ∧ HasP es ow m x) := by
        intro B'' hB x
        rw [hB, hBf', List.take_add_one, hmE, Option.toList_some]
        constructor
        · rintro (⟨p1, p2 | p2 | ⟨y, q1, q2⟩⟩ | ⟨p1, p2⟩)
          · exact ⟨p1, .inl p2⟩
          · exact ⟨p1, .inr (.inl p2)⟩
          · exact ⟨p1, .inr (.inr ⟨y, List.mem_append_left _ q1, q2⟩)⟩
          · exact ⟨p1, .inr (.inr ⟨m, by simp, p2⟩)⟩
        · rintro ⟨p1, p2 | p2 | ⟨y, q1, q2⟩⟩
          · exact .inl ⟨p1, .inl p2⟩
          · exact .inl ⟨p1, .inr (.inl p2)⟩
          · rcases List.mem_append.1 q1 with q1 | q1
            · exact .inl ⟨p1, .inr (.inr ⟨y, q1, q2⟩)⟩
            · simp at q1; subst q1; exact .inr ⟨p1, q2⟩
      obtain ⟨ead2, hea2, hc2⟩ := hrd6.at hmI
      have rowS := (rdCel 2 h.l)
      refine idx_i hea2 h2 ⟨(m : Int), hc2 w6 s0, _, _, _, (rdCel 1 h.l).cell0 (sub.refl _), idx_i rfl hmN ?_⟩
      by_cases hmg : m ∈ g
      · have hsm : (setP (some ⟨b, 0, none⟩) sets g)[m]? = some (some (⟨b, 0, none⟩ : Addr)) := by rw [hsets, if_pos hmg]
        refine ⟨some ⟨b, 0, none⟩, rowS.cell (sub.refl _) (pvl_get hsm), ⟨_, cmp_ptr_s tyOk (rfl : kdOfT Ty 67 = .ptr _) rfl (by decide), false, rfl, ?_⟩⟩
        refine ⟨⟨by omega, by omega⟩, ⟨j + 1, B', rfl, h2, hBl', htk fun x => ⟨.inl, fun h => h.resolve_right fun h => h.2.1 hmg⟩, h⟩, msr h2⟩
      · have hmf : m ∈ gs.flatten := (hge n hng m (List.mem_of_getElem? hmE)).resolve_left hmg
        obtain ⟨g2, hg2, hmg2⟩ := List.mem_flatten.1 hmf
        obtain ⟨k2, hk2⟩ := List.getElem?_of_mem hg2
        obtain ⟨⟨b2, B2⟩, hb2⟩ : ∃ y, gr[k2]? = some y := ⟨gr[k2]'(by rw [hF.lg]; exact (List.getElem?_eq_some_iff.1 hk2).1), List.getElem?_eq_getElem _⟩
        obtain ⟨f1, f2, _⟩ := hF.st k2 g2 b2 B2 hk2 hb2 m hmg2
        have hsm : (setP (some ⟨b, 0, none⟩) sets g)[m]? = some (some (⟨b2, 0, none⟩ : Addr)) := by rw [hsets, if_neg hmg, f1]
        have hgr : (setG gr)[k2]? = some (setO (some ⟨b2, 0, none⟩) B2) := by unfold setG; rw [List.getElem?_map, hb2]; rfl
        have hcmp := cmp_sets (xo := Operand.tmp 52) (yo := Operand.tmp 53) ((St.staGet (h.pick 9 [6, 0, 1, 2, 3, 4, 5, 7, 8]) hgr).pick 3 [0, 2])
        refine ⟨some ⟨b2, 0, none⟩, rowS.cell (sub.refl _) (pvl_get hsm), ⟨_, hcmp, true, rfl, ?_⟩⟩
        refine ⟨_, _, _, (rdCel 1 h.l).cell0 (sub.refl _), idx_i rfl hmN ⟨some ⟨b2, 0, none⟩, rowS.cell (sub.refl _) (pvl_get hsm), newC_i h fun k15 w7 h => ?_⟩⟩
        have h := h.pick 10 [1, 0, 2, 3, 4, 5, 6, 7, 8, 9]
        refine (s_Union (os := [some ⟨b2, 0, none⟩]) (vss := [B2]) h (fun hh hl => rdS_of_row rfl (.inr ⟨_, rfl, (show rowH hh ⟨k15, 0, none⟩ [.pointer (some ⟨b2, 0, none⟩)] from rdCel 0 hl)⟩)) rfl (fun hh hl y q v hq hv => ?_) (fun hh hl => rdV.mono (rdH 8 hl) C.tab) (by simp)).mono ?_
        · obtain ⟨h1, s1, ha⟩ := starL_at 6 hl (A := sta (setG gr))
          obtain ⟨h3, s3, h4⟩ := starL_in (List.mem_of_getElem? hgr) ha
          cases y with
          | zero => cases hq; cases hv; exact .inl ((setO_R h4).mono (s3.trans s1))
          | succ y => simp at hq
        rintro _ w8 ⟨rfl, h⟩
        refine ⟨_, rfl, ⟨by omega, by omega⟩, ⟨j + 1, unionB B' [B2], rfl, h2, by rw [unionB_len]; exact hBl', htk fun x => ?_, h.pick 10 [0, 2, 3, 4, 5, 6, 7, 8, 9]⟩, msr h2⟩
        show fnB (addB B' (mbI B2)) x = true ↔ _
        rw [fnB_add_mb, hBl', Bool.or_eq_true, Bool.and_eq_true, decide_eq_true_eq, f2.fn]
        constructor
        · rintro (p | ⟨p1, _, p2⟩)
          · exact .inl p
          · exact .inr ⟨p1, hmg, p2⟩
        · rintro (p | ⟨p1, _, p2⟩)
          · exact .inl p
          · exact .inr ⟨p1, p1, p2⟩
    · have h2 : j = l6 := by have := of_decide_eq_false h2; omega
      subst h2
      refine ⟨⟨by omega, by omega⟩, ⟨i + 1, B', rfl, h1, hBl', fun x => ?_, h⟩, msr h1⟩
      have hjl : (En es n).take j = En es n := List.take_of_length_le (by rw [hen, List.length_map]; omega)
      rw [hBf', hjl]
      refine and_congr_right fun _ => ?_
      show _ ↔ (∃ n ∈ g.take (i + 1), _) ∨ ∃ n ∈ g.take (i + 1), _
      rw [List.take_add_one, hn, Option.toList_some]
      constructor
      · rintro ((⟨y, q1, q2⟩ | ⟨y, q1, q2⟩) | q | q)
        · exact .inl ⟨y, List.mem_append_left _ q1, q2⟩
        · exact .inr ⟨y, List.mem_append_left _ q1, q2⟩
        · exact .inl ⟨n, by simp, by rw [how]; exact q⟩
        · exact .inr ⟨n, by simp, q⟩
      · rintro (⟨y, q1, q2⟩ | ⟨y, q1, q2⟩)
        · rcases List.mem_append.1 q1 with q1 | q1
          · exact .inl (.inl ⟨y, q1, q2⟩)
          · simp at q1; subst q1; exact .inr (.inl (by rw [how] at q2; exact q2))
        · rcases List.mem_append.1 q1 with q1 | q1
          · exact .inl (.inr ⟨y, q1, q2⟩)
          · simp at q1; subst q1; exact .inr (.inr q2)
  have h1 : i = g.length := by have := of_decide_eq_false h1; omega
  subst h1
  have hSol : ∀ v ∈ g, SolB es ow v B := fun v hv => ⟨hBl, fun x => by
    rw [hBf]
    refine and_congr_right fun _ => ?_
    show (∃ n ∈ g.take g.length, _) ∨ (∃ n ∈ g.take g.length, _) ↔ _
    rw [List.take_length, HasP.step hv hgm]⟩
  refine (s_Members (h.setR) (rdV.mono (rdH 8 h.l) C.tab)).mono ?_
  rintro _ w9 ⟨a5, c5, rfl, h5⟩
  have h := h5.on1 h
  have hml : (mbI B).length = cntB B := mbI_len B
  have hmb : cntB B ≤ 1024 := by have := cntB_le B; omega
  refine ⟨_, _, _, rfl, fun z w' => ∃ (i : Nat) (ps' : List Ls), z = i ∧ i ≤ g.length ∧ ps'.length = N ∧ (∀ v ∈ g.take i, ∃ p, ps'[v]? = some p ∧ p.2 = mbI B) ∧ (∀ v, v ∉ g → ps'[v]? = ps[v]?) ∧
      St w' (own 1 a5 (cntB B) c5 (iv (mbI B)) :: setO (some ⟨b, 0, none⟩) B :: cel ks [.slice (some ⟨bs, 0, none⟩) N N] :: cel bs (pvl (setP (some ⟨b, 0, none⟩) sets g)) :: cel ko [.slice (some ⟨bo, 0, none⟩) N N] :: cel bo (ps'.map slP') :: sta (ps'.map owP') :: sta (setG gr) :: own 1 o g.length gc (ivn g) :: has h0 :: F),
    fun z _ => g.length - z.toNat, ⟨0, ps, rfl, Nat.zero_le _, hF.lp, fun v hv => by simp at hv, fun _ _ => rfl, h⟩, ?_⟩
  rintro _ z w10 ⟨i, ps', rfl, hi, hpl, hp1, hp2, h⟩
  refine br_intro (fun h1 => ?_) fun h1 => ?_
  · have h1 : i < g.length := by have := of_decide_eq_true h1; omega
    obtain ⟨v, hv⟩ : ∃ v, g[i]? = some v := ⟨g[i], List.getElem?_eq_getElem _⟩
    have hvN := hgN v (List.mem_of_getElem? hv)
    obtain ⟨gad, hga, hgc⟩ := own_cell (h.pick 10 [8, 0, 1, 2, 3, 4, 5, 6, 7, 9]) (ivn_get' hv)
    refine idx_i hga h1 ⟨_, hgc, fun w11 hd => ?_⟩
    have h := h.eq (drawn_hp hd)
    have rko := rdCel 4 h.l
    refine ⟨fun u => Gr w11 u, Gr.refl _, _, _, _, fun u hu => rko.cell0 hu, (y_CloneI (xs := mbI B) (rdI_of hml (rdOv 0 h.l)) (by omega) (by omega)).mono ?_⟩
    rintro _ w13 ⟨o13, c13, rfl, h13⟩
    have g13 : Gr w11 w13 := h13.gone1
    have h := h13.on1 h
    refine ⟨_, _, _, rfl, g13, idx_i rfl hvN ?_⟩
    rw [add_lit0]
    refine st1_i (h.pick 11 [6, 0, 1, 2, 3, 4, 5, 7, 8, 9, 10]) (by simp; omega) fun w14 h => ⟨⟨by omega, by omega⟩, ⟨i + 1, ps'.set v ((o13, c13), mbI B), rfl, h1, by rw [List.length_set]; exact hpl, fun u hu => ?_, fun u hu => ?_, ?_⟩, msr h1⟩
    · by_cases e : u = v
      · subst e; exact ⟨_, by rw [List.getElem?_set_self (by omega)], rfl⟩
      · rw [List.take_add_one, hv, Option.toList_some] at hu
        rcases List.mem_append.1 hu with hu | hu
        · obtain ⟨p, q1, q2⟩ := hp1 u hu
          exact ⟨p, by rw [List.getElem?_set_ne (Ne.symm e)]; exact q1, q2⟩
        · simp at hu; exact absurd hu e
    · have e : u ≠ v := fun e => hu (e ▸ List.mem_of_getElem? hv)
      rw [List.getElem?_set_ne (Ne.symm e)]; exact hp2 u hu
    · have h := St.staSet (A := own 1 o13 (mbI B).length c13 (iv (mbI B))) (M := ps'.map owP') (h.pick 11 [1, 7, 0, 2, 3, 4, 5, 6, 8, 9, 10]) (n := v) (by simp; omega)
      have e1 : (ps'.map slP').set v (.slice o13 (mbI B).length c13) = (ps'.set v ((o13, c13), mbI B)).map slP' := by rw [List.map_set]; rfl
      have e2 : (ps'.map owP').set v (own 1 o13 (mbI B).length c13 (iv (mbI B))) = (ps'.set v ((o13, c13), mbI B)).map owP' := by rw [List.map_set]; rfl
      rw [e1, e2] at h
      exact h.pick 10 [2, 3, 4, 5, 6, 1, 0, 7, 8, 9]
  have h1 : i = g.length := by have := of_decide_eq_false h1; omega
  subst h1
  rw [List.take_length] at hp1
  refine ⟨rfl, ?_⟩
  show St w10 (solA es ow ks bs ko bo N (gs ++ [g]) :: has h0 :: F)
  refine solA_iff.2 ⟨setP (some ⟨b, 0, none⟩) sets g, ps', gr ++ [(b, B)], ⟨by rw [setP_len]; exact hF.ls, hpl, by simp [hF.lg], fun i g' b' B' hi1 hi2 v hv => ?_⟩, ?_⟩
  · by_cases e : i < gs.length
    · rw [List.getElem?_append_left e] at hi1
      rw [List.getElem?_append_left (by rw [hF.lg]; exact e)] at hi2
      have hvf : v ∈ gs.flatten := List.mem_flatten.2 ⟨g', List.mem_of_getElem? hi1, hv⟩
      have hvg : v ∉ g := fun h => hgd v h hvf
      obtain ⟨q1, q2, q3⟩ := hF.st i g' b' B' hi1 hi2 v hv
      exact ⟨by rw [hsets, if_neg hvg]; exact q1, q2, by rw [hp2 v hvg]; exact q3⟩
    · have hil := (List.getElem?_eq_some_iff.1 hi1).1
      simp at hil
      have e : i = gs.length := by omega
      subst e
      rw [List.getElem?_append_right (Nat.le_refl _), Nat.sub_self] at hi1
      rw [List.getElem?_append_right (by rw [hF.lg]; exact Nat.le_refl _), hF.lg, Nat.sub_self] at hi2
      cases hi1; cases hi2
      exact ⟨by rw [hsets, if_pos hv], hSol v hv, hp1 v hv⟩
  · have e1 : setG (gr ++ [(b, B)]) = setG gr ++ [setO (some ⟨b, 0, none⟩) B] := by simp [setG]
    rw [e1]
    exact (St.snoc (h.pick 10 [1, 7, 2, 3, 4, 5, 6, 9])).pick 7 [1, 2, 3, 4, 5, 0, 6]
end Go.Proofs.YtcapljamcepmkaaDoor
set_option linter.unusedVariables false
namespace Go.V
def memB (l : List Int) : Bool := !l.any fun x => decide (x < 0) || decide (1024 ≤ x)
theorem memB_iff {l : List Int} : memB l = true ↔ ∀ x ∈ l, 0 ≤ x ∧ x < 1024 := by
  unfold memB
  rw [Bool.not_eq_true', List.any_eq_false]
  refine forall_congr' fun x => forall_congr' fun hx => ?_
  simp
def solOk (es ow : List (List Int)) : Bool := rightB es && ow.length == es.length && ow.all memB
end Go.V
namespace Go.Proofs.YtcapljamcepmkaaDoor
open Go.V
variable {w : World} {L : List Asn} {a oa : Option Addr} {N M c oc l : Nat} {es ow : List (List Int)}
def SolsP (es ow : List (List Int)) (ps : List Ls) : Prop := ps.length = es.length ∧ ∀ v, v < es.length → ∃ B p, SolB es ow v B ∧ ps[v]? = some p ∧ p.2 = mbI B
theorem d_Solve (hr : rdS (hp w) es a N) (ho : rdS (hp w) ow oa M) (ht : tabA (hp w)) (hB : ∀ l ∈ es, l.length * 8 ≤ 140737488355328) (hO : ∀ l ∈ ow, l.length * 8 ≤ 140737488355328) (hb : N * 24 ≤ 140737488355328) (hM : M * 24 ≤ 140737488355328) :
    rE 23 [.slice a N c, .slice oa M oc] w fun v w' => (solOk es ow = false ∧ v = .tuple (Array.mk [.slice none 0 0, .int .i64 1]) ∧ Gr w w') ∨
      (solOk es ow = true ∧ ∃ (bo : Nat) (ps : List Ls), SolsP es ow ps ∧ v = .tuple (Array.mk [.slice (some ⟨bo, 0, none⟩) N N, .int .i64 0]) ∧ St w' (own 1 (some ⟨bo, 0, none⟩) N N (ps.map slP') :: sta (ps.map owP') :: all w)) := by
  have hN := hr.1
  have hMl := ho.1
  refine run_digraph_Solve _ _ _ _ _ _ w _ ?_
  refine newC_i (St.all w) fun ke w1 h => newC_i h fun kn w2 h => ?_
  have g2 : Gr w w2 := h.tail.gone1
  refine ⟨fun b w' => b = !(rightB es && M == N) ∧ Gr w2 w', ⟨_, _, _, (rdCel 1 h.l).cell0 (sub.refl _), (y_right (hr.mono g2) (by omega) fun x hx => by have := hB x hx; omega).mono ?_⟩, ?_⟩
  · rintro _ w3 ⟨rfl, g3⟩
    have h := h.gr g3
    refine ⟨_, rfl, br_intro (fun h1 => ?_) fun h1 => ?_⟩
    · have h1 : rightB es = false := by simpa using h1
      exact ⟨by rw [h1]; rfl, g3⟩
    · have h1 : rightB es = true := by simpa using h1
      refine ⟨_, _, _, (rdCel 0 h.l).cell0 (sub.refl _), _, _, _, (rdCel 1 h.l).cell0 (sub.refl _), ?_, g3⟩
      rw [h1, Bool.true_and]
      by_cases e : M = N
      · subst e; simp
      · have : ((M : Int) != (N : Int)) = true := by simp; omega
        rw [this]; simp [e]
  rintro _ b2 w4 ⟨rfl, g4⟩
  refine br_intro (fun h1 => ?_) fun h1 => ?_
  · refine .inl ⟨?_, rfl, g2.trans g4⟩
    have h1 : (rightB es && M == N) = false := by cases hq : (rightB es && M == N) with
      | false => rfl
      | true => rw [hq] at h1; cases h1
    unfold solOk
    rw [hMl, hN, h1]; rfl
  have h1 : (rightB es && M == N) = true := by cases hq : (rightB es && M == N) with
    | true => rfl
    | false => rw [hq] at h1; cases h1
  obtain ⟨h2, h3⟩ := Bool.and_eq_true_iff.1 h1
  have h3 : M = N := by simpa using h3
  subst h3
  have h := h.gr g4
  have hre := hr.mono (g2.trans g4)
  have hro := ho.mono (g2.trans g4)
  refine ⟨_, _, _, (rdCel 0 h.l).cell0 (sub.refl _), fun z w' => ∃ i : Nat, z = i ∧ i ≤ M ∧ (∀ x ∈ ow.take i, memB x = true) ∧ hp w' = hp w4, fun z _ => M - z.toNat, ⟨0, rfl, Nat.zero_le _, fun x hx => by simp at hx, rfl⟩, ?_⟩
  rintro _ z w5 ⟨i, rfl, hi, hme, e5⟩
  refine br_intro (fun h4 => ?_) fun h4 => ?_
  · have h4 : i < M := by have := of_decide_eq_true h4; omega
    obtain ⟨x, ad, vs, hx, had, hrow, o, l1, c1, rfl, hle, hrd⟩ := hro.get h4
    rw [mulS_eq, show i * Rep.n (List Int) = i from Nat.mul_one i] at hrow
    have hxB := hO x (List.mem_of_getElem? hx)
    have hxl := hrd.1
    refine idx_i had h4 ⟨o, l1, c1, hrow.cell0 (Gr.of_eq e5), (y_CtI (p := fun x => decide (x < 0) || decide (1024 ≤ x)) (d := 50) (e := []) rfl (by rw [e5]; exact hrd) (by omega) ?_).mono ?_⟩
    · intro y hy u hu
      refine run_digraph_Solve_S1 _ u _ (br_intro (fun h => ?_) fun h => ?_)
      · exact ⟨by rw [show decide (y < 0) = true from h]; rfl, hu⟩
      · exact ⟨by rw [show decide (y < 0) = false from h, Bool.false_or], hu⟩
    rintro _ w6 ⟨rfl, e6⟩
    refine ⟨_, rfl, br_intro (fun h5 => ?_) fun h5 => ?_⟩
    · refine .inl ⟨?_, rfl, (g2.trans g4).trans (Gr.of_eq (e6.trans e5))⟩
      unfold solOk
      rw [Bool.and_eq_false_iff]
      right
      rw [List.all_eq_false]
      exact ⟨x, List.mem_of_getElem? hx, by unfold memB; rw [h5]; decide⟩
    · refine ⟨⟨by omega, by omega⟩, ⟨i + 1, rfl, h4, fun y hy => ?_, e6.trans e5⟩, msr h4⟩
      rw [List.take_add_one, hx] at hy
      rcases List.mem_append.1 hy with hy | hy
      · exact hme y hy
      · simp at hy; subst hy; unfold memB; rw [h5]; rfl
  have h4 : i = M := by have := of_decide_eq_false h4; omega
  subst h4
  rw [List.take_of_length_le (by omega)] at hme
  have h := h.eq e5
  have hok : solOk es ow = true := by
    unfold solOk
    rw [h2, hMl, hN]
    simp
    exact hme
  refine ⟨_, _, _, (rdCel 1 h.l).cell0 (sub.refl _), ⟨by omega, rfl, by omega⟩, ?_⟩
  -- from here on what there is stays as it is
  have hall := St.all w5
  refine newC_i hall fun bs w7 h7 => newC_i h7 fun ks w8 h8 => st1_i h8 (by simp) fun w9 h9 => ?_
  have c1 : ∀ {u : World} {v : List Value} {L' : List Asn} {b : Nat}, Gr w5 u → u.cell? (aM ke) = some (.slice a i c) := fun g => (rdCel 1 h.l).cell0 g
  refine ⟨_, _, _, c1 (v := []) (L' := []) (b := 0) h9.tail.tail.has, ⟨by omega, rfl, by omega⟩, newC_i h9 fun bo w10 h10 => newC_i h10 fun ko w11 h11 => st1_i h11 (by simp) fun w12 h12 => ?_⟩
  refine ⟨_, _, _, c1 (v := []) (L' := []) (b := 0) h12.tail.tail.tail.tail.has, ?_⟩
  have hre5 : rdS (hp w5) es a i := by rw [e5]; exact hre
  have hro5 : rdS (hp w5) ow oa i := by rw [e5]; exact hro
  have C : SolC es ow (hp w5) ke kn i a oa c oc := ⟨rdCel 1 h.l, rdCel 0 h.l, hre5, hro5, by rw [e5]; exact rdV.mono (g2.trans g4) ht, hB, hO, hb, fun x hx => memB_iff.1 (hme x hx)⟩
  have hR := rightB_iff.1 h2
  have hst : St w12 ([solA es ow ks bs ko bo i [], has (hp w5)] ++ []) := by
    have q1 : reps (Int.toNat (i : Int)) [vP none] = pvl (List.replicate i none) := by rw [reps_one]; simp [pvl]
    have q2 : reps (Int.toNat (i : Int)) [vS none 0 0] = (List.replicate i (((none, 0), []) : Ls)).map slP' := by rw [reps_one]; simp [slP']
    rw [q1, q2] at h12
    have h13 := (St.flat (M := setG [])).2 (sta_reps (A := owP' ((none, 0), [])) (fun w L h => own_nil 1 h) i h12)
    have q3 : List.replicate i (owP' ((none, 0), [])) = (List.replicate i (((none, 0), []) : Ls)).map owP' := by simp
    rw [q3] at h13
    exact solA_iff.2 ⟨_, _, [], ⟨by simp, by simp, rfl, fun k g b B hk => by simp at hk⟩, h13.pick 7 [4, 5, 2, 3, 1, 0, 6]⟩
  refine (d_each (Q := fun gs => [solA es ow ks bs ko bo i gs, has (hp w5)]) (L := []) rfl (done_S hR C) (fun gs hh hs => hre5.mono (rdH 1 hs)) hR hB hb hst).mono ?_
  rintro _ w13 ⟨rfl, gs, hG, hall2, h⟩
  obtain ⟨sets, ps, gr, hF, h⟩ := solA_iff.1 h
  refine ⟨rfl, _, _, _, (rdCel 2 h.l).cell0 (sub.refl _), .inr ⟨hok, bo, ps, ⟨by rw [hF.lp, hN], fun v hv => ?_⟩, rfl, ?_⟩⟩
  · have hvf := (hall2 v).2 (by omega)
    obtain ⟨g, hg, hvg⟩ := List.mem_flatten.1 hvf
    obtain ⟨k, hk⟩ := List.getElem?_of_mem hg
    obtain ⟨⟨b, B⟩, hb2⟩ : ∃ y, gr[k]? = some y := ⟨gr[k]'(by rw [hF.lg]; exact (List.getElem?_eq_some_iff.1 hk).1), List.getElem?_eq_getElem _⟩
    obtain ⟨_, q2, p, q3, q4⟩ := hF.st k g b B hk hb2 v hvg
    exact ⟨B, p, q2, q3, q4⟩
  · have h := h.pick 7 [3, 4, 6]
    have h := own_some (sz := 1) (l := i) (c := i) (cs := []) (by rw [List.append_nil]; exact h) (by simp [hF.lp]) (by simp [hF.lp]) (Nat.le_refl _)
    have g5 : Gr w w5 := (g2.trans g4).trans (Gr.of_eq e5)
    exact ((h.pick 3 [2, 0, 1]).head (B := has (hp w)) fun hh hs => sub.trans g5 hs).pick 3 [1, 2, 0]
end Go.Proofs.YtcapljamcepmkaaDoor
