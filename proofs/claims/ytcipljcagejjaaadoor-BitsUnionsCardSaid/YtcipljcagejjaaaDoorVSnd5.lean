/- Operations that do more than read: the machine does what the rules say. -/
import Derived.Test.YtcipljcagejjaaaDoorVSnd4
set_option linter.unusedVariables false
namespace Go.V
def FnOk (P : Program) (Fn : FuncId → Bool) : Prop := ∀ g, Fn g = true → ∃ fn, P.funcs[g]? = some fn ∧ fn.body.isNone = false ∧ (fn.name == "runtime.NumGoroutine") = false
def fnChk (P : Program) (g : FuncId) : Bool := match P.funcs[g]? with | some fn => !fn.body.isNone && !(fn.name == "runtime.NumGoroutine") | none => false
def fnAll (P : Program) (lo : Nat) : Nat → Bool
  | 0 => true
  | n + 1 => fnChk P (lo + n) && fnAll P lo n
theorem fnAll_ok {P : Program} {lo : Nat} : ∀ {n : Nat}, fnAll P lo n = true → ∀ g, lo ≤ g → g < lo + n → fnChk P g = true
  | 0, _, g, h1, h2 => by omega
  | n + 1, h, g, h1, h2 => by
    simp only [fnAll, Bool.and_eq_true] at h
    by_cases hg : g = lo + n
    · rw [hg]; exact h.1
    · exact fnAll_ok h.2 g h1 (by omega)
theorem fnOk_of {P : Program} {lo hi : Nat} (h : fnAll P lo (hi + 1 - lo) = true) : FnOk P fun g => Nat.ble lo g && Nat.ble g hi := by
  intro g hg
  simp only [Bool.and_eq_true, Nat.ble_eq] at hg
  have := fnAll_ok h g hg.1 (by omega)
  unfold fnChk at this
  split at this
  · rename_i fn hfn
    simp only [Bool.and_eq_true, Bool.not_eq_true'] at this
    exact ⟨fn, hfn, this.1, this.2⟩
  · cases this
section
variable {P : Program} {Ty : TypeId → Option TyI} {Fn : FuncId → Bool} {E : World → World → Prop}

theorem sop_value {o : Oper} {ρ : Operand → Value} {w w' : World} {K : Value → World → Prop} {v : Value} (h : (execOp ρ o).run P w = .ok (.value v) w') (hE : E w w') (hK : K v w') : SOp P E o ρ w K := by
  unfold SOp; rw [h]; exact ⟨hE, hK⟩
theorem sop_skip {o : Oper} {ρ : Operand → Value} {w w' : World} {K : Value → World → Prop} (h : (execOp ρ o).run P w = .ok .skip w') (hE : E w w') (hK : K undef w') : SOp P E o ρ w K := by
  unfold SOp; rw [h]; exact ⟨hE, hK⟩
theorem Ev.storeRow (w0 : World) : ∀ (vs : List Value) (w : World) (a : Addr) (i : Nat), Ev w0 w → Ev w0 (storeRow w a i vs)
  | [], _, _, _, h => h
  | v :: vs, w, a, i, h => Ev.storeRow w0 vs _ a (i + 1) (h.trans (Ev.setCell _ _ _))
theorem oneC_eq (v : Value) : oneC v = v.oneCell' := by cases v <;> rfl
theorem cell_setCell_some {w : World} {a b : Addr} {v u : Value} (h : w.cell? b = some u) : ∃ u', (w.setCell a v).cell? b = some u' := by
  unfold World.cell? World.setCell at *
  simp only [Array.getElem?_modify]
  split at h
  · rename_i c el fz hb
    split at h
    · cases h
    · rename_i hs
      by_cases hab : a.block = b.block
      · simp only [hab, if_true, hb, Option.map_some]
        rw [if_neg hs]
        split
        · exact ⟨u, h⟩
        · by_cases ho : a.off = b.off
          · have := (Array.getElem?_eq_some_iff.1 h).1
            exact ⟨v, by rw [ho]; simp [this]⟩
          · exact ⟨u, by rw [Array.getElem?_setIfInBounds_ne ho]; exact h⟩
      · simp only [hab, if_false, hb]
        rw [if_neg hs]
        exact ⟨u, h⟩
  · cases h
theorem frozen_setCell (w : World) (a b : Addr) (v : Value) : (w.setCell a v).frozen? b = w.frozen? b := by
  unfold World.frozen? World.setCell
  simp only [Array.getElem?_modify]
  by_cases hab : a.block = b.block
  · simp only [hab, if_true]
    cases h : w.heap[b.block]? with
    | none => rfl
    | some o => cases o <;> rfl
  · simp only [hab, if_false]
theorem mayStore_setCell {w : World} {b : Addr} {x : Value} (a : Addr) : ∀ (vs : List Value) (i : Nat), mayStore w a i vs → mayStore (w.setCell b x) a i vs
  | [], _, _ => trivial
  | v :: vs, i, ⟨h1, ⟨u, h2⟩, h3, h4⟩ => ⟨h1, cell_setCell_some h2, by rw [frozen_setCell]; exact h3, mayStore_setCell a vs (i + 1) h4⟩
theorem run_storeCells (a : Addr) : ∀ (vs : List Value) (w : World) (i : Nat), mayStore w a i vs → (storeCells a vs i).run P w = .ok () (storeRow w a i vs)
  | [], w, i, _ => by simp [storeCells, storeRow]
  | v :: vs, w, i, ⟨h1, ⟨u, h2⟩, h3, h4⟩ => by
    have ih := run_storeCells a vs (w.setCell (a.add i) v) (i + 1) (mayStore_setCell a vs (i + 1) h4)
    have hs := run_store P w (a.add i) v .plain (by rw [← oneC_eq]; exact h1)
    simp only [h2, h3] at hs
    simp only [storeCells, Sem.run_bind, hs, Result.andThen_ok, storeRow]
    simpa using ih
theorem add_zero' (a : Addr) : a.add 0 = a := by simp [Addr.add]
theorem stv_run (hT : TyOk P Ty) {t : TypeId} {i : TyI} (hi : Ty t = some i) {w : World} {ad : Addr} {v : Value} {k : World → Prop} (h : stv w ad i v k) :
    ∃ w', (storeVar t ad v).run P w = .ok () w' ∧ Ev w w' ∧ k w' := by
  obtain ⟨info, d, ha⟩ := tyAt hT hi
  unfold stv at h
  cases hk : i.kd.isAgg with
  | true =>
    rw [hk] at h
    cases v <;> dsimp only at h <;> first | exact h.elim | skip
    rename_i cs
    obtain ⟨hc, h1, h2⟩ := bif_elim h
    have hl := lenIs_eq _ _ hc
    refine ⟨_, ?_, Ev.storeRow w _ _ _ _ (Ev.refl _), h2 _ rfl⟩
    have hsz : cs.size = info.size := by rw [← ha.size, ← hl]; simp
    simp [storeVar, run_size ha.inf, Value.cells, hsz, run_storeCells _ _ _ _ h1]
  | false =>
    rw [hk] at h
    have h' : bif Nat.beq i.size 1 then st1 w ad v k else False := by cases v <;> exact h
    obtain ⟨hc, ⟨u, h1⟩, h2, h3, h4⟩ := bif_elim h'
    have hsz : info.size = 1 := by rw [← ha.size]; exact Nat.eq_of_beq_eq_true hc
    refine ⟨_, ?_, Ev.setCell _ _ _, h4 _ rfl⟩
    have hcells : v.cells = #[v] := by cases v <;> first | rfl | cases h3
    have := run_storeCells (P := P) ad [v] w 0 ⟨h3, ⟨u, by rw [add_zero']; exact h1⟩, by rw [add_zero']; exact h2, trivial⟩
    simp only [storeRow, add_zero'] at this
    simp [storeVar, run_size ha.inf, hcells, hsz, this]
theorem zeros_eq (z : List Value) : ∀ n, ((Array.range (n * z.length)).map fun k => (⟨z⟩ : Array Value)[k % z.length]!) = ⟨(List.replicate n z).flatten⟩ := by
  intro n
  apply Array.ext'
  simp only [Array.toList_map, Array.toList_range]
  induction n with
  | zero => simp
  | succ n ih =>
    rw [Nat.succ_mul, List.range_add, List.map_append, List.replicate_succ', List.flatten_append, ih]
    congr 1
    simp only [List.map_map, List.flatten_cons, List.flatten_nil, List.append_nil]
    apply List.ext_getElem
    · simp
    · intro i h1 h2
      simp only [List.length_map, List.length_range] at h1
      simp [Nat.mul_add_mod_of_lt, h1, Nat.mod_eq_of_lt]
theorem reps_eq (z : List Value) : ∀ n, reps n z = (List.replicate n z).flatten
  | 0 => rfl
  | n + 1 => by simp [reps, reps_eq z n, List.replicate_succ]
theorem repsL_eq (z : List Value) : ∀ n, repsL n z = (List.replicate n z).flatten
  | 0 => rfl
  | n + 1 => by simp [repsL, appV_eq, repsL_eq z n, List.replicate_succ]
theorem runS_sop (hE : ∀ a b, Ev a b → E a b) {o : Oper} {ρ : Operand → Value} {w : World} {K : Value → World → Prop} {s : Sem Value} (he : execOp ρ o = (do pure (.value (← s)))) {R : Value → World → Prop} (h : RunS P s w R) (hR : ∀ v w', R v w' → K v w') : SOp P E o ρ w K := by
  obtain ⟨v, w', h1, h2, h3⟩ := h
  refine sop_value (v := v) (w' := w') ?_ (hE _ _ h2) (hR _ _ h3)
  rw [he]; simp [h1]
theorem runU_sop (hE : ∀ a b, Ev a b → E a b) {o : Oper} {ρ : Operand → Value} {w : World} {K : Value → World → Prop} {s : Sem Unit} (he : execOp ρ o = (do s; pure .skip)) {R : Unit → World → Prop} (h : RunS P s w R) (hR : ∀ v w', R v w' → K undef w') : SOp P E o ρ w K := by
  obtain ⟨v, w', h1, h2, h3⟩ := h
  refine sop_skip (w' := w') ?_ (hE _ _ h2) (hR _ _ h3)
  rw [he]; simp [h1]
theorem nextV_elim {v : Value} {sh : Sh} {k : Value → Prop} (h : nextV v sh k) : k v := by
  rcases h with ⟨rfl, h⟩ | h
  · exact h
  · split at h
    · obtain ⟨us, h1, h2⟩ := exS_elim h; rw [h1]; exact h2
    · exact h.elim
theorem run_callFunc (hF : FnOk P Fn) {g : FuncId} (hg : Fn g = true) (args : Array Value) (w : World) : (callFunc g args).run P w = .ok (.enter g args) w := by
  obtain ⟨fn, h1, h2, h3⟩ := hF g hg
  have h3' : fn.name ≠ "runtime.NumGoroutine" := by simpa using h3
  have h2' : fn.body ≠ none := fun e => by rw [e] at h2; cases h2
  simp [callFunc, h1, h2', h3']
theorem call_sound (hF : FnOk P Fn) (hE : ∀ a b, Ev a b → E a b) {o : Oper} {fr : Fr} {w : World} {K : Value → World → Prop} {f : Operand} {args : Array Operand} {tys : Array TypeId} {sh : Sh}
    (ho : o.op = .call { callee := .value f, args := args, argTypes := tys }) (h : callV P Fn E (ev fr f) (evs fr args.toList) sh w K) : SOp P E o (ev fr) w K := by
  obtain ⟨dst, op, type, pos, after, guard⟩ := o
  dsimp only at ho
  subst ho
  have ha : args.map (ev fr) = ⟨evs fr args.toList⟩ := by rw [evs_eq]; apply Array.ext'; simp
  unfold callV at h
  split at h
  · rename_i g first cap hv
    obtain ⟨hg, h⟩ := ifT_iff.1 h
    have he : (execOp (ev fr) { dst := dst, op := .call { callee := .value f, args := args, argTypes := tys }, type := type, pos := pos, after := after, guard := guard }).run P w
        = .ok (.enter g ⟨app3 first.toList (evs fr args.toList) cap.toList⟩) w := by
      have e2 : first ++ (⟨evs fr args.toList⟩ : Array Value) ++ cap = ⟨app3 first.toList (evs fr args.toList) cap.toList⟩ := by
        apply Array.ext'; simp [app3_eq]
      simp only [execOp, resolve, ha, hv, Deferred.ofValue, invoke, Sem.run_bind, Sem.run_pure, Result.andThen_ok, e2, run_callFunc hF hg]
    unfold SOp
    rw [he]
    refine ⟨hE _ _ (Ev.refl _), ?_⟩
    exact Calls.mono h fun e w' ⟨v, h1, h2, h3⟩ => ⟨v, h1, h2, Sh.is_elim h3⟩
  · rename_i l first cap hv
    obtain ⟨f', tmps, assign, body, hy, hr⟩ := h
    have he : (execOp (ev fr) { dst := dst, op := .call { callee := .value f, args := args, argTypes := tys }, type := type, pos := pos, after := after, guard := guard }).run P w
        = .ok (.round l f' tmps assign body) w := by
      have e2 : first ++ (⟨evs fr args.toList⟩ : Array Value) = ⟨appV first.toList (evs fr args.toList)⟩ := by
        apply Array.ext'; simp [appV_eq]
      simp only [execOp, resolve, ha, hv, Deferred.ofValue, invoke, Sem.run_bind, Sem.run_pure, Result.andThen_ok, e2, hy]
    unfold SOp
    rw [he]
    refine ⟨hE _ _ (Ev.refl _), ?_⟩
    exact RoundIn.mono hr fun e w' ⟨v, h1, h2, h3⟩ => ⟨v, h1, h2, Sh.is_elim h3⟩
  · exact h.elim

theorem eff_sound (hT : TyOk P Ty) (hF : FnOk P Fn) (hE : ∀ a b, Ev a b → E a b) {o : Oper} {fr : Fr} {w : World} {K : Value → World → Prop} (h : effV P Ty Fn E o fr w K) : SOp P E o (ev fr) w K := by
  have h0 := h
  obtain ⟨dst, op, type, pos, after, guard⟩ := o
  unfold effV at h
  cases op <;> dsimp only at h <;> first | exact h.elim | skip
  case alloc t =>
    split at h
    · rename_i i hi
      obtain ⟨info, d, ha⟩ := tyAt hT hi
      split at h
      · rename_i z hz
        have hz' : info.zero = some z := by rw [← ha.zero, hz]
        refine sop_value (w' := { w with heap := w.heap.push (.cells ⟨cellsOf z⟩ t) }) ?_ (hE _ _ (Ev.push _ _)) (h _ _ rfl rfl)
        have e : z.cells = ⟨cellsOf z⟩ := by rw [cellsOf_eq]
        simp [execOp, Instr.alloc, run_zero ha.inf hz', newVar, newRow, e]
      · exact h.elim
    · exact h.elim
  case box t x =>
    refine sop_value (w' := { w with heap := w.heap.push (.cells ⟨cellsOf (ev fr x)⟩ t) }) ?_ (hE _ _ (Ev.push _ _)) (h _ _ rfl rfl)
    have e : (ev fr x).cells = ⟨cellsOf (ev fr x)⟩ := by rw [cellsOf_eq]
    simp [execOp, Instr.box, newVar, newRow, e]
  case buildSlice t n ps =>
    split at h
    · rename_i e hk
      obtain ⟨d1, hd1, hd1'⟩ := undOf hT hk (by simp)
      rw [kd_slice hd1'] at hd1
      split at h
      · rename_i i hi
        obtain ⟨info, d, ha⟩ := tyAt hT hi
        split at h
        · rename_i z hz
          have hz' : info.zero = some z := by rw [← ha.zero, hz]
          obtain ⟨hc, h⟩ := bif_elim h
          simp only [Bool.and_eq_true, Nat.ble_eq] at hc
          obtain ⟨⟨hl, hn1, hn2⟩, hs⟩ := hc
          have hl := lenIs_eq _ _ hl
          obtain ⟨cs, hcs, h⟩ := optK_elim h
          refine sop_value (w' := { w with heap := w.heap.push (.cells ⟨cs⟩ e) }) ?_ (hE _ _ (Ev.push _ _)) (h _ _ rfl rfl)
          have hf := fill_eq _ _ _ hcs
          have hzc : z.cells = ⟨cellsOf z⟩ := by rw [cellsOf_eq]
          have hsz : info.size = (cellsOf z).length := by rw [hl, ha.size]
          have hlt : n * info.size ≤ 16777216 := by
            have : n * info.size ≤ 4096 * 4096 := Nat.mul_le_mul hn1 (by rw [← ha.size]; exact hn2)
            omega
          have hne : ∀ hh : n * info.size = 0, n = 0 := fun hh => by
            rcases Nat.mul_eq_zero.1 hh with h | h
            · exact h
            · rw [← ha.size] at h; omega
          simp only [execOp, Instr.buildSlice, Sem.run_bind, run_und hd1, run_size ha.inf, Result.andThen_ok, parts_eq]
          rw [if_neg (by omega)]
          have hpl : (fun k => some (k * i.size, i.size)) = (fun k => some (k * info.size, info.size)) := by rw [ha.size]
          rw [hpl] at hf
          by_cases h00 : n * info.size = 0
          · have := hne h00
            subst this
            have hf0 : Instr.fill (fun i => some (i * info.size, info.size)) ((Array.range 0).map fun _ => default) (pairs fr ps.toList) = some ⟨cs⟩ := by
              rw [show ((Array.range 0).map fun _ => (default : Value)) = (⟨repsL 0 (cellsOf z)⟩ : Array Value) from by simp [repsL]]; exact hf
            simp [hf0, newRow]
          · simp only [h00, if_false, Sem.run_bind, run_zero ha.inf hz', Result.andThen_ok, Sem.run_pure, hzc]
            have hz2 := zeros_eq (cellsOf z) n
            rw [← hsz] at hz2
            have : (⟨cellsOf z⟩ : Array Value).size = info.size := by simp [hsz]
            rw [this, hz2, ← repsL_eq, hf]
            simp [newRow]
        · exact h.elim
      · exact h.elim
    · exact h.elim
  case store t a x =>
    split at h
    · rename_i p i ha hi
      obtain ⟨ad, rfl, h⟩ := nn_elim h
      obtain ⟨w', hr, hEv, hK⟩ := stv_run hT hi h
      refine sop_skip (w' := w') ?_ (hE _ _ hEv) hK
      simp [execOp, Instr.storeAt, ha, Instr.sureAddr, hr]
    · exact h.elim
  case convert s d x => exact runS_sop hE rfl h fun v w' h => Sh.is_elim h
  case makeMap t r =>
    cases r with
    | some r => exact h.elim
    | none =>
      refine sop_value (w' := { w with heap := w.heap.push (.map #[] 0) }) ?_ (hE _ _ (Ev.push _ _)) (h _ _ rfl rfl)
      simp [execOp, Instr.makeMap]
  case makeSlice t l c =>
    split at h
    · rename_i e hk
      obtain ⟨d1, hd1, hd1'⟩ := undOf hT hk (by simp)
      rw [kd_slice hd1'] at hd1
      split at h
      · rename_i i k1 n1 k2 n2 hi hl hc
        obtain ⟨info, d, ha⟩ := tyAt hT hi
        obtain ⟨hb, h⟩ := bif_elim h
        unfold makeV at h
        split at h
        · rename_i z hz
          rw [hz] at hb
          simp only [Bool.and_eq_true, Nat.ble_eq] at hb
          obtain ⟨⟨hlen, hby⟩, hs⟩ := hb
          have hlen := lenIs_eq _ _ hlen
          obtain ⟨⟨h1, rfl, h3⟩, hK⟩ := h
          have hz' : info.zero = some z := by rw [← ha.zero, hz]
          have hzc : z.cells = ⟨cellsOf z⟩ := by rw [cellsOf_eq]
          have hsz : info.size = (cellsOf z).length := by rw [hlen, ha.size]
          refine sop_value (w' := { w with heap := w.heap.push (.cells ⟨reps n1.toNat (cellsOf z)⟩ e) }) ?_ (hE _ _ (Ev.push _ _)) (hK _ _ rfl rfl)
          have hb1 : (1 : Int) ≤ i.bytes := by omega
          have hn1 : n1 ≤ 140737488355328 := Int.le_trans (by have := Int.mul_le_mul_of_nonneg_right hb1 h1; omega) h3
          have hw : IntKind.i64.wrap n1 = n1 := wrap_in ⟨by omega, by omega⟩
          have h3' : (info.bytes : Int) * n1 ≤ 140737488355328 := by rw [← ha.bytes]; exact h3
          have hA : ¬ n1 < 0 := by omega
          have hB : ¬ (281474976710656 : Int) < info.bytes * n1 := by omega
          have hz2 := zeros_eq (cellsOf z) n1.toNat
          rw [← hsz] at hz2
          have hsz2 : (⟨cellsOf z⟩ : Array Value).size = info.size := by simp [hsz]
          have hne : n1.toNat * info.size = 0 → n1.toNat = 0 := fun hh => by
            rcases Nat.mul_eq_zero.1 hh with h | h
            · exact h
            · rw [← ha.size] at h; omega
          have e0 : ∀ f : Nat → Value, (Array.range 0).map f = #[] := fun _ => by simp
          have hz3 : Array.map (fun x => (cellsOf z)[x % (cellsOf z).length]?.getD default) (Array.range (n1.toNat * info.size)) = ⟨(List.replicate n1.toNat (cellsOf z)).flatten⟩ := by
            rw [← hz2, hsz]; congr 1; funext k; simp
          by_cases h00 : n1.toNat * info.size = 0
          · have h01 := hne h00
            simp [execOp, Instr.makeSlice, run_und hd1, hl, hc, asInt, asIntOf, run_info ha.inf, run_size ha.inf, hw, hA, hB, h01, reps, newRow, e0]
          · simp [execOp, Instr.makeSlice, run_und hd1, hl, hc, asInt, asIntOf, run_info ha.inf, run_size ha.inf, hw, hA, hB, newRow, h00, run_zero ha.inf hz', hzc, reps_eq]
            rw [hz3]
        · exact h.elim
      · exact h.elim
    · exact h.elim
  case lookup t m k ok => exact runS_sop hE rfl h fun v w' h => Sh.is_elim h
  case mapUpdate t m k x => exact runU_sop hE rfl h fun v w' h => h
  case insert t m k x => exact runU_sop hE rfl h fun v w' h => h
  case mapEntry t m k => exact runS_sop hE rfl h fun v w' h => Sh.is_elim h
  case entryStore t m s x => exact runU_sop hE rfl h fun v w' h => h
  case range t x => exact runS_sop hE rfl h fun v w' h => Sh.is_elim h
  case next it isS => exact runS_sop hE rfl h fun v w' h => nextV_elim h
  case typeAssert x t u ok => exact runS_sop hE rfl h fun v w' h => Sh.is_elim h
  case call c =>
    obtain ⟨callee, args, argTypes⟩ := c
    have ha : args.map (ev fr) = ⟨evs fr args.toList⟩ := by rw [evs_eq]; apply Array.ext'; simp
    cases callee with
    | value f => exact call_sound hF hE rfl h
    | invoke r m => exact h.elim
    | builtin b =>
      dsimp only at h
      unfold biV at h
      cases b <;> dsimp only at h <;> first | exact h.elim | skip
      case append => exact runS_sop (s := Builtin.append_ argTypes type ⟨evs fr args.toList⟩) hE (by simp only [execOp, resolve, invoke, builtin, ha]; rfl) h fun v w' h => Sh.is_elim h
      case copy => exact runS_sop (s := Builtin.copy_ argTypes type ⟨evs fr args.toList⟩) hE (by simp only [execOp, resolve, invoke, builtin, ha]; rfl) h fun v w' h => Sh.is_elim h
      case delete => exact runS_sop (s := Builtin.delete_ argTypes type ⟨evs fr args.toList⟩) hE (by simp only [execOp, resolve, invoke, builtin, ha]; rfl) h fun v w' h => h
      case clear => exact runS_sop (s := Builtin.clear_ argTypes type ⟨evs fr args.toList⟩) hE (by simp only [execOp, resolve, invoke, builtin, ha]; rfl) h fun v w' h => h
      case cap => exact runS_sop (s := Builtin.cap_ argTypes type ⟨evs fr args.toList⟩) hE (by simp only [execOp, resolve, invoke, builtin, ha]; rfl) h fun v w' h => Sh.is_elim h
theorem ldv_spec {w : World} : ∀ (ad : Addr) (i : TyI) (k : Value → Prop), ldv w ad i k → ∃ v, (∀ w', w' = w → Loads w' ad i v) ∧ k v :=
  fun _ _ _ h => let ⟨v, h1, h2⟩ := ldv_elim h; ⟨v, fun _ e => e ▸ h1, h2⟩
theorem rsW_spec {w : World} : ∀ (s : Sem Value) (k : Value → Prop), rsW P w s k → ∃ v, (∀ w', w' = w → s.run P w' = .ok v w') ∧ k v :=
  fun _ _ ⟨v, h1, h2⟩ => ⟨v, fun _ e => by subst e; exact h1, h2⟩
theorem op_sound (hT : TyOk P Ty) (hF : FnOk P Fn) (hE : ∀ a b, Ev a b → E a b) {o : Oper} {fr : Fr} {w : World} {K : Value → World → Prop} (h : denOp P Ty Fn E o fr w K) : SOp P E o (ev fr) w K := by
  cases hs : isStill Ty o with
  | true =>
    have h' : stillV P Ty (ldv w) (rsW P w) o fr (fun v => K v w) := by simpa only [denOp, hs, cond_true] using h
    obtain ⟨v, h1, h2⟩ := still_sound hT ldv_spec rsW_spec (C := fun w' => w' = w) h'
    exact sop_value (h1 w rfl) (hE _ _ (Ev.refl _)) h2
  | false =>
    have h' : effV P Ty Fn E o fr w K := by simpa only [denOp, hs, cond_false] using h
    exact eff_sound hT hF hE h'
end
end Go.V
