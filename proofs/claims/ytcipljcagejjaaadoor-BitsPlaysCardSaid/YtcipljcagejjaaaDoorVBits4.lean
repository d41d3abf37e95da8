/- Sets of small numbers: contracts (4): a copy of the words; what goes over the members. -/
import Derived.Test.YtcipljcagejjaaaDoorVBits3
set_option linter.unusedVariables false
namespace Go.V
/- what the function that goes over the members has caught -/
def itD (b : Nat) (n : Nat) (m : Nat → Bool) : Asn := ex fun x : Option Addr × Nat × List Nat => sta [pu (Inv n x.2.2 m), cel b [.slice x.1 x.2.2.length x.2.1], own 1 x.1 x.2.2.length x.2.1 (cw x.2.2)]
theorem itD_open {w : World} {L : List Asn} {b n : Nat} {m : Nat → Bool} : St w (itD b n m :: L) ↔ ∃ a c ws, Inv n ws m ∧ St w (cel b [.slice a ws.length c] :: own 1 a ws.length c (cw ws) :: L) := by
  unfold itD
  rw [St.ex]
  constructor
  · rintro ⟨⟨a, c, ws⟩, h⟩
    have h := St.pu.1 (St.flat.1 h)
    exact ⟨a, c, ws, h.1, h.2⟩
  · rintro ⟨a, c, ws, hi, h⟩
    exact ⟨⟨a, c, ws⟩, St.flat.2 (St.pu.2 ⟨hi, h⟩)⟩
theorem own_none {w : World} {L : List Asn} {sz l c : Nat} {vs : List Value} (h : St w (own sz none l c vs :: L)) : l = 0 ∧ c = 0 ∧ vs = [] := by
  rcases own_cases h with ⟨_, h1, h2, h3⟩ | ⟨_, _, _, _, h, _⟩
  · exact ⟨h1, h2, h3⟩
  · cases h
theorem cw_nil {ws : List Nat} (h : cw ws = []) : ws = [] := by simpa [cw] using h
end Go.V
namespace Go.Proofs.YtcipljcagejjaaaDoor
open Go.V
section
variable {w : World} {L : List Asn} {a : Option Addr} {l c : Nat} {p : Option Addr} {n : Nat} {m : Nat → Bool} {xs : List Int} {ws : List Nat}
theorem c_Clone {D : Asn} (hD : ∀ h, D h → rdV a (cw ws) h) (h : St w (D :: L)) (hb : ws.length ≤ 1024) (hn : a = none → ws = []) :
    Run Tryd.prog n_slices_Clone_bits_words_uint64_ [.slice a ws.length c] w fun v w' => ∃ a' c', v = .slice a' ws.length c' ∧ St w' (own 1 a' ws.length c' (cw ws) :: D :: L) := by
  refine run_slices_Clone_bits_words_uint64_ _ _ _ w _ ?_
  cases a with
  | none =>
    have h3 := hn rfl
    subst h3
    exact ⟨none, 0, rfl, own_nil 1 h⟩
  | some ad =>
    refine newC_i h fun b w1 h1 => ?_
    have h2 : St w1 (own 1 (some ⟨b, 0, none⟩) 0 0 [] :: D :: L) := own_some (cs := []) h1 rfl rfl (Nat.le_refl _)
    refine (app_own' tyOk (rfl : kdOfT Ty _ = .slice _) rfl rfl rfl h2 (n := ws.length) (news := cw ws) ?_ ?_ (by omega)).mono ?_
    · exact src_slice tyOk (rfl : kdOfT Ty _ = .slice _) (by simp [cw]) (.inr ⟨ad, rfl, fun j u hj => by
        obtain ⟨_, e, hc⟩ := rdV_get (h2.swap.head hD) hj
        cases e; exact hc⟩) (fun u hu => by
        simp only [cw, List.mem_map] at hu
        obtain ⟨_, _, rfl⟩ := hu; rfl)
    · show (0 + ws.length) * 8 ≤ _; omega
    · rintro _ w2 ⟨a', c', rfl, h3⟩
      rw [Nat.zero_add, List.nil_append] at h3
      exact ⟨_, _, _, rfl, a', c', by rw [Nat.zero_add], h3⟩
end
end Go.Proofs.YtcipljcagejjaaaDoor
