/- Sets of small numbers: contracts (6): members as a list. -/
import Derived.Test.YtcipljcagejjaaaDoorVBits5
set_option linter.unusedVariables false
namespace Go.V
def ivn (l : List Nat) : List Value := l.map fun (k : Nat) => Value.int .i64 (k : Int)
theorem ivn_take {ks : List Nat} {i k : Nat} (h : ks[i]? = some k) : ivn (ks.take (i + 1)) = ivn (ks.take i) ++ [.int .i64 (k : Int)] := by
  unfold ivn; rw [List.take_add_one, h]; simp
end Go.V
namespace Go.Proofs.YtcipljcagejjaaaDoor
open Go.V
section
variable {w : World} {L : List Asn} {a : Option Addr} {l c : Nat} {p : Option Addr} {n : Nat} {m : Nat → Bool} {xs : List Int} {ws : List Nat}
theorem c_AppendSeq {g : FuncId} {cap : List Value} {D Q : Asn} {ks : List Nat} {vs : List Value} (hg : Fn g = true) (hI : Itr Tryd.prog g [] cap D Q (ivm ks)) (hQ : ∀ h, starL L h → Q h) (hb : l + ks.length ≤ 1099511627776)
    (h : St w (own 1 a l c vs :: D :: L)) :
    Run Tryd.prog n_slices_AppendSeq_int_int_ [.slice a l c, .func (.func g) #[] ⟨cap⟩] w fun v w' => ∃ a' c', v = .slice a' (l + ks.length) c' ∧ St w' (own 1 a' (l + ks.length) c' (vs ++ ivn ks) :: D :: L) := by
  refine run_slices_AppendSeq_int_int_ _ _ _ _ _ w _ ?_
  refine newC_i h fun b w1 h1 => ifT_iff.2 ⟨hg, ?_⟩
  refine ⟨ivm ks, D, Q, fun i => ex fun y : Option Addr × Nat => sta [cel b [.slice y.1 (l + i) y.2], own 1 y.1 (l + i) y.2 (vs ++ ivn (ks.take i))], pu False, fun _ => pu False, L, ?_, hQ, hI, ?_, ?_, ?_, ?_, trivial⟩
  · refine St.ex.2 ⟨(a, c), St.flat.2 ?_⟩
    simpa [ivn] using h1
  · intro x hx
    simp only [ivm, List.mem_map] at hx
    obtain ⟨k, _, rfl⟩ := hx
    exact ⟨_, rfl⟩
  · intro i x hx L' w2 _ hs
    refine ⟨_, hs, fun L'' w3 _ hs3 => ?_⟩
    obtain ⟨⟨a1, c1⟩, hs3⟩ := St.ex.1 hs3
    have hs3 := St.flat.1 hs3
    have hx : (ivm ks)[i]? = some [.int .i64 x] := hx
    obtain ⟨k, hk, rfl⟩ : ∃ k, ks[i]? = some k ∧ x = (k : Int) := by
      unfold ivm at hx
      rw [List.getElem?_map] at hx
      cases hki : ks[i]? with
      | none => rw [hki] at hx; cases hx
      | some k => rw [hki] at hx; simp at hx; exact ⟨k, rfl, hx.symm⟩
    have hil := (List.getElem?_eq_some_iff.1 hk).1
    refine ⟨a1, l + i, c1, by rw [hs3.cell]; rfl, ?_⟩
    refine newC_i hs3 fun b2 w4 h4 => ?_
    refine (app_own' tyOk (rfl : kdOfT Ty _ = .slice _) rfl rfl rfl h4.rot3 (n := 1) (news := [.int .i64 (k : Int)]) ?_ ?_ (by omega)).mono ?_
    · refine src_slice tyOk (rfl : kdOfT Ty _ = .slice _) rfl (.inr ⟨_, rfl, fun j u hj => ?_⟩) (fun u hu => ?_)
      · rw [add_lit0, h4.cell]; exact hj
      · simp only [List.mem_singleton] at hu; subst hu; rfl
    · show (l + i + 1) * 8 ≤ _; omega
    · rintro _ w5 ⟨a', c', rfl, h5⟩
      refine ⟨_, _, _, rfl, st1_i h5.rot3 (by simp) fun w6 h6 => St.ex.2 ⟨(a', c'), St.flat.2 ?_⟩⟩
      rw [ivn_take hk, ← List.append_assoc]
      have h7 : St w6 (cel b [.slice a' (l + i + 1) c'] :: own 1 a' (l + i + 1) c' (vs ++ ivn (ks.take i) ++ [.int .i64 (k : Int)]) :: cel b2 [.int .i64 (k : Int)] :: L'') := h6
      exact h7.perm (List.Perm.refl _) |>.rot3.tail
  · intro w2 hs
    obtain ⟨⟨a1, c1⟩, hs⟩ := St.ex.1 hs
    have hs := St.flat.1 hs
    have e : (ivm ks).length = ks.length := by simp [ivm]
    rw [e, List.take_length] at hs
    refine ⟨a1, _, c1, by rw [hs.cell]; rfl, fun w3 h3 => ⟨a1, c1, rfl, (hs.eq h3).tail⟩⟩
  · intro w2 hs
    exact (St.pu.1 hs).1.elim
theorem c_Collect {g : FuncId} {cap : List Value} {D Q : Asn} {ks : List Nat} (hg : Fn g = true) (hI : Itr Tryd.prog g [] cap D Q (ivm ks)) (hQ : ∀ h, starL L h → Q h) (hb : ks.length ≤ 1099511627776) (h : St w (D :: L)) :
    Run Tryd.prog n_slices_Collect_int_ [.func (.func g) #[] ⟨cap⟩] w fun v w' => ∃ a' c', v = .slice a' ks.length c' ∧ St w' (own 1 a' ks.length c' (ivn ks) :: D :: L) := by
  refine run_slices_Collect_int_ _ _ w _ ?_
  refine (c_AppendSeq hg hI hQ (l := 0) (by omega) (own_nil 1 h)).mono ?_
  rintro _ w' ⟨a', c', rfl, h1⟩
  rw [Nat.zero_add, List.nil_append] at h1
  exact ⟨_, _, _, rfl, a', c', by rw [Nat.zero_add], h1⟩
end
end Go.Proofs.YtcipljcagejjaaaDoor
