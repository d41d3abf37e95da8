/- What the rules on operations say is so of the machine: the operations that read. -/
import Derived.Test.YtcipljcagejjaaaDoorVCode
import Derived.Laws.Slices
import Derived.OrdersIn
set_option linter.unusedVariables false
namespace Go.V

/- an operation, carried out -/
def SOp (P : Program) (E : World → World → Prop) (o : Oper) (ρ : Operand → Value) (w : World) (K : Value → World → Prop) : Prop :=
  match (execOp ρ o).run P w with
  | .ok (.value v) w' => E w w' ∧ K v w'
  | .ok .skip w' => E w w' ∧ K undef w'
  | .ok (.enter f args) w' => E w w' ∧ Calls P f args w' fun e w'' => ∃ v, e = .returned v ∧ E w' w'' ∧ K v w''
  | .ok (.round l f tmps assign body) w' => E w w' ∧ RoundIn Fence.wide 0 P l f tmps assign body w' fun e w'' => ∃ v, e = .returned v ∧ E w' w'' ∧ K v w''
  | _ => False
theorem SOp.mono {P : Program} {E : World → World → Prop} {o : Oper} {ρ : Operand → Value} {w : World} {K K' : Value → World → Prop} (h : SOp P E o ρ w K) (hk : ∀ v w', E w w' → K v w' → K' v w')
    (ht : ∀ {a b c : World}, E a b → E b c → E a c) : SOp P E o ρ w K' := by
  unfold SOp at *
  split at h
  · exact ⟨h.1, hk _ _ h.1 h.2⟩
  · exact ⟨h.1, hk _ _ h.1 h.2⟩
  · exact ⟨h.1, Calls.mono h.2 fun e w'' ⟨v, he, h1, h2⟩ => ⟨v, he, h1, hk _ _ (ht h.1 h1) h2⟩⟩
  · exact ⟨h.1, RoundIn.mono h.2 fun e w'' ⟨v, he, h1, h2⟩ => ⟨v, he, h1, hk _ _ (ht h.1 h1) h2⟩⟩
  · exact h.elim

/- the table -/
def fldsOf (P : Program) : TypeDesc → List (Nat × Nat × Bool)
  | .struct fs => fs.toList.map fun f => (f.offset, P.cellsOf f.type, match P.underlying f.type with | some (.struct _) | some (.array ..) => true | _ => false)
  | _ => []
structure TyAt (P : Program) (t : TypeId) (i : TyI) (info : TypeInfo) (d : TypeDesc) : Prop where
  inf : P.info? t = some info
  und : P.underlying t = some d
  kd : i.kd = kdOf d
  size : i.size = info.size
  bytes : i.bytes = info.bytes
  zero : i.zero = info.zero
  flds : i.flds = fldsOf P d
  ok : fldsOk P d = true
theorem tyAt {P : Program} {Ty : TypeId → Option TyI} (h : TyOk P Ty) {t : TypeId} {i : TyI} (hi : Ty t = some i) : ∃ info d, TyAt P t i info d := by
  have := h t i hi
  unfold tyi at this
  split at this
  · rename_i a b ha hb
    simp only [Bool.cond_eq_ite] at this
    split at this
    · rename_i hok
      cases this
      exact ⟨a, b, ha, hb, rfl, rfl, rfl, rfl, by unfold fldsOf; rfl, hok⟩
    · cases this
  · cases this
theorem kdOfT_some {Ty : TypeId → Option TyI} {t : TypeId} {k : Kd} (h : kdOfT Ty t = k) (hk : k ≠ .other) : ∃ i, Ty t = some i ∧ i.kd = k := by
  unfold kdOfT at h
  split at h
  · rename_i i hi; exact ⟨i, hi, h⟩
  · exact absurd h.symm hk
theorem kd_slice {d : TypeDesc} {e : TypeId} (h : Kd.slice e = kdOf d) : d = .slice e := by cases d <;> simp [kdOf] at h; subst h; rfl
theorem kd_array {d : TypeDesc} {n : Nat} {e : TypeId} (h : Kd.array n e = kdOf d) : d = .array n e := by cases d <;> simp [kdOf] at h; obtain ⟨rfl, rfl⟩ := h; rfl
theorem kd_int {d : TypeDesc} {e : IntKind} (h : Kd.int e = kdOf d) : d = .int e := by cases d <;> simp [kdOf] at h; subst h; rfl
theorem kd_string {d : TypeDesc} (h : Kd.string = kdOf d) : d = .string := by cases d <;> simp [kdOf] at h; rfl
theorem kd_bool {d : TypeDesc} (h : Kd.bool = kdOf d) : d = .bool := by cases d <;> simp [kdOf] at h; rfl
theorem kd_ptr {d : TypeDesc} {e : TypeId} (h : Kd.ptr e = kdOf d) : d = .pointer e := by cases d <;> simp [kdOf] at h; subst h; rfl
theorem kd_map {d : TypeDesc} {k e : TypeId} (h : Kd.map k e = kdOf d) : d = .map k e := by cases d <;> simp [kdOf] at h; obtain ⟨rfl, rfl⟩ := h; rfl
theorem kd_struct {d : TypeDesc} (h : Kd.struct = kdOf d) : ∃ fs, d = .struct fs := by cases d <;> simp [kdOf] at h; exact ⟨_, rfl⟩
theorem kd_func {d : TypeDesc} (h : Kd.func = kdOf d) : ∃ a b c, d = .func a b c := by cases d <;> simp [kdOf] at h; exact ⟨_, _, _, rfl⟩
theorem undOf {P : Program} {Ty : TypeId → Option TyI} (h : TyOk P Ty) {t : TypeId} {k : Kd} (hk : kdOfT Ty t = k) (hne : k ≠ .other) : ∃ d, P.underlying t = some d ∧ k = kdOf d := by
  obtain ⟨i, hi, hik⟩ := kdOfT_some hk hne
  obtain ⟨info, d, ha⟩ := tyAt h hi
  exact ⟨d, ha.und, by rw [← hik, ha.kd]⟩
section
variable {P : Program} {w : World}
theorem run_und {t : TypeId} {d : TypeDesc} (h : P.underlying t = some d) : (underlying t).run P w = .ok d w := by simp [underlying, h]
theorem run_info {t : TypeId} {i : TypeInfo} (h : P.info? t = some i) : (typeInfo t).run P w = .ok i w := by simp [typeInfo, h]
theorem run_size {t : TypeId} {i : TypeInfo} (h : P.info? t = some i) : (sizeOf t).run P w = .ok i.size w := by simp [sizeOf, typeInfo, h]
theorem run_zero {t : TypeId} {i : TypeInfo} {z : Value} (h : P.info? t = some i) (hz : i.zero = some z) : (zeroValue t).run P w = .ok z w := by simp [zeroValue, typeInfo, h, hz]
theorem run_isAgg {t : TypeId} {d : TypeDesc} (h : P.underlying t = some d) : (isAgg t).run P w = .ok (kdOf d).isAgg w := by
  simp only [isAgg, Sem.run_bind, run_und h, Result.andThen_ok]
  cases d <;> simp [kdOf, Kd.isAgg]
theorem szOf_info {Ty : TypeId → Option TyI} (h : TyOk P Ty) {t : TypeId} {s : Nat} (hs : szOfT Ty t = some s) : ∃ info, P.info? t = some info ∧ info.size = s := by
  unfold szOfT at hs
  split at hs
  · rename_i i hi
    obtain ⟨info, d, ha⟩ := tyAt h hi
    cases hs
    exact ⟨info, ha.inf, ha.size.symm⟩
  · cases hs
theorem rowAt_cells : ∀ (n i : Nat) (a : Addr) (vs : List Value), rowAt w a i n = some vs → vs.length = n ∧ ∀ j v, vs[j]? = some v → w.cell? (a.add (i + j)) = some v
  | 0, i, a, vs, h => by simp [rowAt] at h; subst h; simp
  | n + 1, i, a, vs, h => by
    unfold rowAt at h
    split at h
    · rename_i v us hv hus
      cases h
      obtain ⟨h1, h2⟩ := rowAt_cells n (i + 1) a us hus
      refine ⟨by simp [h1], fun j u hj => ?_⟩
      cases j with
      | zero => simpa using hj ▸ hv
      | succ j => have := h2 j u (by simpa using hj); rwa [show i + 1 + j = i + (j + 1) by omega] at this
    · cases h
theorem rowAt_of_cells : ∀ (n i : Nat) (a : Addr) (vs : List Value), vs.length = n → (∀ j v, vs[j]? = some v → w.cell? (a.add (i + j)) = some v) → rowAt w a i n = some vs
  | 0, i, a, vs, h, _ => by simp at h; subst h; rfl
  | n + 1, i, a, v :: vs, h, hc => by
    have h0 := hc 0 v (by simp)
    have ih := rowAt_of_cells n (i + 1) a vs (by simpa using h) (fun j u hj => by have := hc (j + 1) u (by simpa using hj); rwa [show i + (j + 1) = i + 1 + j by omega] at this)
    simp only [Nat.add_zero] at h0
    simp [rowAt, h0, ih]
/- what a load finds -/
def Loads (w : World) (a : Addr) (i : TyI) (v : Value) : Prop :=
  match i.kd.isAgg with
  | true => ∃ vs, rowAt w a 0 i.size = some vs ∧ v = .agg ⟨vs⟩
  | false => w.cell? a = some v
theorem run_loads {Ty : TypeId → Option TyI} (h : TyOk P Ty) {t : TypeId} {i : TyI} (hi : Ty t = some i) {a : Addr} {v : Value} (hl : Loads w a i v) : (loadVar t a).run P w = .ok v w := by
  obtain ⟨info, d, ha⟩ := tyAt h hi
  unfold Loads at hl
  simp only [loadVar, Sem.run_bind, run_isAgg ha.und, Result.andThen_ok, ← ha.kd]
  cases hk : i.kd.isAgg with
  | true =>
    rw [hk] at hl
    obtain ⟨vs, hr, rfl⟩ := hl
    obtain ⟨h1, h2⟩ := rowAt_cells _ _ _ _ hr
    have h3 : info.size = vs.length := by rw [h1, ha.size]
    have := run_loadCells_list (P := P) w a vs (fun j v hj => by have := h2 j v hj; rwa [Nat.zero_add] at this)
    simp [run_size ha.inf, h3, this]
  | false =>
    rw [hk] at hl
    simp [hl]
theorem ldv_elim {a : Addr} {i : TyI} {k : Value → Prop} (h : ldv w a i k) : ∃ v, Loads w a i v ∧ k v := by
  unfold ldv at h
  split at h
  · exact h.elim
  · split at h
    · rename_i hk _
      obtain ⟨vs, _, hr, hkv⟩ := exC_elim h
      exact ⟨_, by unfold Loads; rw [hk]; exact ⟨vs, hr, rfl⟩, hkv⟩
    · rename_i hk _
      obtain ⟨v, hv, hkv⟩ := Cs.ex_elim h
      exact ⟨v, by unfold Loads; rw [hk]; exact hv, hkv⟩
    · exact h.elim
theorem ldC_elim {C : World → Prop} {a : Addr} {i : TyI} {k : Value → Prop} (h : ldC C a i k) : ∃ v, (∀ w, C w → Loads w a i v) ∧ k v := by
  unfold ldC at h
  split at h
  · exact h.elim
  · split at h
    · rename_i hk _
      obtain ⟨vs, _, hr, hkv⟩ := exC_elim h
      exact ⟨_, fun w hw => by unfold Loads; rw [hk]; exact ⟨vs, hr w hw, rfl⟩, hkv⟩
    · rename_i hk _
      obtain ⟨v, hv, hkv⟩ := Cs.ex_elim h
      exact ⟨v, fun w hw => by unfold Loads; rw [hk]; exact hv w hw, hkv⟩
    · exact h.elim
end
end Go.V
