/- What the rules say of operations that read is so of the machine. -/
import Derived.Test.YtcipljcagejjaaaDoorVSnd
set_option linter.unusedVariables false
namespace Go.V
section
variable {P : Program} {Ty : TypeId → Option TyI}

theorem intR_elim {k : IntKind} {z : Int} {K : Value → Prop} (h : intR k z K) : K (.int k (k.wrap z)) := by
  unfold intR at h
  split at h
  · rw [wrap_in h.1]; exact h.2
  · exact h
theorem run_intOp {op : BinOp} {k k' : IntKind} {a b : Int} {t : TypeId} {K : Value → Prop} (hk : (isShift op || Nat.beq (kx k) (kx k')) = true) (h : intOp op k a b K) :
    ∃ v, (∀ w, (Go.binOp op t (.int k a) (.int k' b)).run P w = .ok v w) ∧ K v := by
  have hkk : isShift op = false → k = k' := fun hs => kx_inj (by simpa [hs] using hk)
  unfold intOp at h
  cases op <;> dsimp only at h
  case add => refine ⟨_, fun w => ?_, intR_elim h⟩; simp [Go.binOp, ← hkk rfl, Op.intArith]
  case sub => refine ⟨_, fun w => ?_, intR_elim h⟩; simp [Go.binOp, ← hkk rfl, Op.intArith]
  case mul => refine ⟨_, fun w => ?_, intR_elim h⟩; simp [Go.binOp, ← hkk rfl, Op.intArith]
  case quo => refine ⟨_, fun w => ?_, intR_elim h.2⟩; simp [Go.binOp, ← hkk rfl, Op.intDiv, show ¬ b = 0 from h.1]
  case rem => refine ⟨_, fun w => ?_, h.2⟩; simp [Go.binOp, ← hkk rfl, Op.intDiv, show ¬ b = 0 from h.1]
  case and => refine ⟨_, fun w => ?_, h⟩; simp [Go.binOp, ← hkk rfl, Op.intBits, bitI]
  case or => refine ⟨_, fun w => ?_, h⟩; simp [Go.binOp, ← hkk rfl, Op.intBits, bitI]
  case xor => refine ⟨_, fun w => ?_, h⟩; simp [Go.binOp, ← hkk rfl, Op.intBits, bitI]
  case andNot => refine ⟨_, fun w => ?_, h⟩; simp [Go.binOp, ← hkk rfl, Op.intBits, bitI]
  case eql => refine ⟨_, fun w => ?_, h⟩; simp [Go.binOp, ← hkk rfl, Op.intCmp]
  case neq => refine ⟨_, fun w => ?_, h⟩; simp [Go.binOp, ← hkk rfl, Op.intCmp]
  case lss => refine ⟨_, fun w => ?_, h⟩; simp [Go.binOp, ← hkk rfl, Op.intCmp]
  case leq => refine ⟨_, fun w => ?_, h⟩; simp [Go.binOp, ← hkk rfl, Op.intCmp]
  case gtr => refine ⟨_, fun w => ?_, h⟩; simp [Go.binOp, ← hkk rfl, Op.intCmp]
  case geq => refine ⟨_, fun w => ?_, h⟩; simp [Go.binOp, ← hkk rfl, Op.intCmp]
  case shl => refine ⟨_, fun w => ?_, h.2⟩; simp [Go.binOp, Op.shift, shlI, Int.not_lt.2 h.1]
  case shr => refine ⟨_, fun w => ?_, h.2⟩; simp [Go.binOp, Op.shift, shrI, Int.not_lt.2 h.1]
theorem run_strOp {op : BinOp} {a b : ByteArray} {t : TypeId} {K : Value → Prop} (h : strOp op a b K) :
    ∃ v, (∀ w, (Go.binOp op t (.string a) (.string b)).run P w = .ok v w) ∧ K v := by
  unfold strOp at h
  cases op <;> dsimp only at h <;> first | exact h.elim | skip
  case add =>
    refine ⟨_, fun w => ?_, h.2⟩
    simp [Go.binOp, Op.stringOp]
    exact h.1
  all_goals (refine ⟨_, fun w => ?_, h⟩; simp [Go.binOp, Op.stringOp])
theorem eqGuard_ok {op : BinOp} {t : TypeId} {xo yo : Operand} {x y : Value} {w : World} (h : ∀ a b, ¬ (x = .agg a ∧ y = .agg b)) (h2 : ¬ (x = .nilIface ∧ y = .nilIface)) :
    (eqGuard op t xo yo x y).run P w = .ok () w := by
  unfold eqGuard
  by_cases hop : (!(match op with | .eql | .neq => true | _ => false)) = true
  · cases op <;> simp_all
  · cases op <;> simp at hop <;> (cases x <;> cases y <;> simp_all)
theorem run_eqB {op : BinOp} {t : TypeId} {x y : Value} {r : Bool} {K : Value → Prop} (he : ∀ w, (Op.equal t x y).run P w = .ok r w)
    (hb : ∀ op, (op = .eql ∨ op = .neq) → Go.binOp op t x y = (match op with | .eql => (do pure (.bool (← Op.equal t x y))) | _ => (do pure (.bool (!(← Op.equal t x y)))))) (h : eqB op r K) :
    ∃ v, (∀ w, (Go.binOp op t x y).run P w = .ok v w) ∧ K v := by
  unfold eqB at h
  cases op <;> dsimp only at h <;> first | exact h.elim | skip
  case eql => refine ⟨_, fun w => ?_, h⟩; rw [hb .eql (.inl rfl)]; simp [he w]
  case neq => refine ⟨_, fun w => ?_, h⟩; rw [hb .neq (.inr rfl)]; simp [he w]
theorem bif_elim {c : Bool} {p : Prop} (h : bif c then p else False) : c = true ∧ p := by cases c <;> simp_all
theorem eqIn_bool (d : Nat) {t : TypeId} (h : P.underlying t = some .bool) (a b : Bool) (w : World) : (Op.equalIn (d + 1) t (.bool a) (.bool b)).run P w = .ok (a == b) w := by
  simp [Op.equalIn, run_und h]
theorem equal_bool {t : TypeId} (h : P.underlying t = some .bool) (a b : Bool) (w : World) : (Op.equal t (.bool a) (.bool b)).run P w = .ok (a == b) w := eqIn_bool 9999 h a b w
theorem eqIn_ptr_nil (d : Nat) {t e : TypeId} (h : P.underlying t = some (.pointer e)) (a : Option Addr) (w : World) : (Op.equalIn (d + 1) t (.pointer a) (.pointer none)).run P w = .ok a.isNone w := by
  cases a <;> simp [Op.equalIn, run_und h]
theorem equal_ptr_nil {t e : TypeId} (h : P.underlying t = some (.pointer e)) (a : Option Addr) (w : World) : (Op.equal t (.pointer a) (.pointer none)).run P w = .ok a.isNone w := eqIn_ptr_nil 9999 h a w
theorem eqIn_nil_ptr (d : Nat) {t e : TypeId} (h : P.underlying t = some (.pointer e)) (a : Option Addr) (w : World) : (Op.equalIn (d + 1) t (.pointer none) (.pointer a)).run P w = .ok a.isNone w := by
  cases a <;> simp [Op.equalIn, run_und h]
theorem equal_nil_ptr {t e : TypeId} (h : P.underlying t = some (.pointer e)) (a : Option Addr) (w : World) : (Op.equal t (.pointer none) (.pointer a)).run P w = .ok a.isNone w := eqIn_nil_ptr 9999 h a w
theorem eqIn_slice_nil (d : Nat) {t e : TypeId} (h : P.underlying t = some (.slice e)) (a : Option Addr) (l c l' c' : Nat) (w : World) : (Op.equalIn (d + 1) t (.slice a l c) (.slice none l' c')).run P w = .ok a.isNone w := by
  cases a <;> simp [Op.equalIn, run_und h]
theorem equal_slice_nil {t e : TypeId} (h : P.underlying t = some (.slice e)) (a : Option Addr) (l c l' c' : Nat) (w : World) : (Op.equal t (.slice a l c) (.slice none l' c')).run P w = .ok a.isNone w := eqIn_slice_nil 9999 h a l c l' c' w
theorem eqIn_map_nil (d : Nat) {t k e : TypeId} (h : P.underlying t = some (.map k e)) (a : Option Nat) (w : World) : (Op.equalIn (d + 1) t (.map a) (.map none)).run P w = .ok a.isNone w := by
  cases a <;> simp [Op.equalIn, run_und h]
theorem equal_map_nil {t k e : TypeId} (h : P.underlying t = some (.map k e)) (a : Option Nat) (w : World) : (Op.equal t (.map a) (.map none)).run P w = .ok a.isNone w := eqIn_map_nil 9999 h a w
theorem eqIn_func_nil (d : Nat) {t : TypeId} {a b : Array TypeId} {c : Bool} (h : P.underlying t = some (.func a b c)) (f : Fn) (x y : Array Value) (w : World) : (Op.equalIn (d + 1) t (.func f x y) .nilFunc).run P w = .ok false w := by
  simp [Op.equalIn, run_und h]
theorem equal_func_nil {t : TypeId} {a b : Array TypeId} {c : Bool} (h : P.underlying t = some (.func a b c)) (f : Fn) (x y : Array Value) (w : World) : (Op.equal t (.func f x y) .nilFunc).run P w = .ok false w := eqIn_func_nil 9999 h f x y w
theorem and_guard {op : BinOp} {t : TypeId} {xo yo : Operand} {x y : Value} {K : Value → Prop} (h1 : ∀ a b, ¬ (x = .agg a ∧ y = .agg b)) (h2 : ¬ (x = .nilIface ∧ y = .nilIface))
    (h : ∃ v, (∀ w, (Go.binOp op t x y).run P w = .ok v w) ∧ K v) : ∃ v, (∀ w, (do eqGuard op t xo yo x y; Go.binOp op t x y : Sem Value).run P w = .ok v w) ∧ K v := by
  obtain ⟨v, hv, hK⟩ := h
  exact ⟨v, fun w => by simp [eqGuard_ok h1 h2, hv], hK⟩
theorem bin_elim (hT : TyOk P Ty) {C : World → Prop} {rs : Sem Value → (Value → Prop) → Prop} (hrs : ∀ s k, rs s k → ∃ v, (∀ w, C w → s.run P w = .ok v w) ∧ k v)
    {op : BinOp} {t : TypeId} {xo yo : Operand} {x y : Value} {K : Value → Prop} (h : binV Ty rs op t xo yo x y K) :
    ∃ v, (∀ w, C w → (do eqGuard op t xo yo x y; Go.binOp op t x y : Sem Value).run P w = .ok v w) ∧ K v := by
  have all : (∃ v, (∀ w, (do eqGuard op t xo yo x y; Go.binOp op t x y : Sem Value).run P w = .ok v w) ∧ K v) → ∃ v, (∀ w, C w → (do eqGuard op t xo yo x y; Go.binOp op t x y : Sem Value).run P w = .ok v w) ∧ K v :=
    fun ⟨v, a, b⟩ => ⟨v, fun w _ => a w, b⟩
  unfold binV at h
  split at h
  · obtain ⟨hc, h⟩ := bif_elim h
    exact all (and_guard (by simp) (by simp) (run_intOp hc h))
  · exact all (and_guard (by simp) (by simp) (run_strOp h))
  · split at h
    · rename_i hk
      obtain ⟨d, hd, hd'⟩ := undOf hT hk (by simp)
      rw [kd_bool hd'] at hd
      exact all (and_guard (by simp) (by simp) (run_eqB (equal_bool hd _ _) (fun op ho => by rcases ho with rfl | rfl <;> simp [Go.binOp]) h))
    · exact h.elim
  · obtain ⟨hc, h⟩ := bif_elim h
    cases hk : kdOfT Ty t <;> rw [hk] at hc <;> simp [ptrKd] at hc
    obtain ⟨d, hd, hd'⟩ := undOf hT hk (by simp)
    rw [kd_ptr hd'] at hd
    exact all (and_guard (by simp) (by simp) (run_eqB (equal_ptr_nil hd _) (fun op ho => by rcases ho with rfl | rfl <;> simp [Go.binOp]) h))
  · obtain ⟨hc, h⟩ := bif_elim h
    cases hk : kdOfT Ty t <;> rw [hk] at hc <;> simp [ptrKd] at hc
    obtain ⟨d, hd, hd'⟩ := undOf hT hk (by simp)
    rw [kd_ptr hd'] at hd
    exact all (and_guard (by simp) (by simp) (run_eqB (equal_nil_ptr hd _) (fun op ho => by rcases ho with rfl | rfl <;> simp [Go.binOp]) h))
  · obtain ⟨hc, h⟩ := bif_elim h
    cases hk : kdOfT Ty t <;> rw [hk] at hc <;> simp [slcKd] at hc
    obtain ⟨d, hd, hd'⟩ := undOf hT hk (by simp)
    rw [kd_slice hd'] at hd
    exact all (and_guard (by simp) (by simp) (run_eqB (equal_slice_nil hd _ _ _ _ _) (fun op ho => by rcases ho with rfl | rfl <;> simp [Go.binOp]) h))
  · split at h
    · rename_i hk
      obtain ⟨d, hd, hd'⟩ := undOf hT hk (by simp)
      obtain ⟨_, _, _, he⟩ := kd_func hd'
      rw [he] at hd
      exact all (and_guard (by simp) (by simp) (run_eqB (equal_func_nil hd _ _ _) (fun op ho => by rcases ho with rfl | rfl <;> simp [Go.binOp]) h))
    · exact h.elim
  · obtain ⟨hc, h⟩ := bif_elim h
    cases hk : kdOfT Ty t <;> rw [hk] at hc <;> simp [mapKd] at hc
    obtain ⟨d, hd, hd'⟩ := undOf hT hk (by simp)
    rw [kd_map hd'] at hd
    exact all (and_guard (by simp) (by simp) (run_eqB (equal_map_nil hd _) (fun op ho => by rcases ho with rfl | rfl <;> simp [Go.binOp]) h))
  · obtain ⟨v, h1, b, rfl, h2⟩ := hrs _ _ h
    exact ⟨_, h1, h2⟩
end
end Go.V
