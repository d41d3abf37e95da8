/- Operations that read: the machine does what the rules say. -/
import Derived.Test.YtcipljcagejjaaaDoorVSnd3
set_option linter.unusedVariables false
namespace Go.V
section
variable {P : Program} {Ty : TypeId → Option TyI}

theorem bnd_some {fr : Fr} {x : Operand} {k : Option Int → Prop} (h : bnd fr (some x) k) : ∃ kk n, ev fr x = .int kk n ∧ k (some n) := by
  rcases bnd_elim h with ⟨h, _⟩ | ⟨y, kk, n, h, h1, h2⟩
  · cases h
  · cases h; exact ⟨kk, n, h1, h2⟩
theorem bnd_none {fr : Fr} {k : Option Int → Prop} (h : bnd fr none k) : k none := h
theorem run_slice_slc {t e : TypeId} {info : TypeInfo} (hu : P.underlying t = some (.slice e)) (hin : P.info? e = some info) {a : Option Addr} {len cap : Nat} {fr : Fr} {lo hi mx : Option Operand} {K : Value → Prop}
    (h : bnd fr lo fun lo => bnd fr hi fun hi => bnd fr mx fun mx => slc a len cap lo hi mx info.size K) :
    ∃ v, (∀ w, (Instr.sliceAt t (.slice a len cap) (lo.map (ev fr)) (hi.map (ev fr)) (mx.map (ev fr))).run P w = .ok v w) ∧ K v := by
  cases lo with
  | none =>
    have h := bnd_none h
    cases hi with
    | none =>
      have h := bnd_none h
      cases mx with
      | none =>
        have h := bnd_none h
        obtain ⟨_, _, _, h⟩ := h
        refine ⟨_, fun w => ?_, h⟩
        simp [Instr.sliceAt, Instr.slice, Instr.sliceBounds, run_und hu, run_size hin, slP, mulS_eq]
      | some mx =>
        obtain ⟨k3, m, hmx, h⟩ := bnd_some h
        obtain ⟨h1, _⟩ := h
        simp at h1
    | some hi =>
      obtain ⟨k2, hh, hhi, h⟩ := bnd_some h
      cases mx with
      | none =>
        have h := bnd_none h
        obtain ⟨_, h1, _, h⟩ := h
        have h1 : 0 ≤ hh ∧ hh ≤ (cap : Int) := by simpa using h1
        refine ⟨_, fun w => ?_, h⟩
        simp [Instr.sliceAt, Instr.slice, Instr.sliceBounds, run_und hu, run_size hin, slP, mulS_eq, hhi, run_bound h1]
      | some mx =>
        obtain ⟨k3, m, hmx, h⟩ := bnd_some h
        obtain ⟨h1, h2, _, h⟩ := h
        have h1 : 0 ≤ m ∧ m ≤ (cap : Int) := by simpa using h1
        have h2 : 0 ≤ hh ∧ hh ≤ m := by simpa using h2
        refine ⟨_, fun w => ?_, h⟩
        simp [Instr.sliceAt, Instr.slice, Instr.sliceBounds, run_und hu, run_size hin, slP, mulS_eq, hhi, hmx, run_bound h1, run_bound (y := m.toNat) (show 0 ≤ hh ∧ hh ≤ (m.toNat : Nat) by omega)]
  | some lo =>
    obtain ⟨k1, l, hlo, h⟩ := bnd_some h
    cases hi with
    | none =>
      have h := bnd_none h
      cases mx with
      | none =>
        have h := bnd_none h
        obtain ⟨_, _, h2, h⟩ := h
        have h2 : 0 ≤ l ∧ l ≤ (len : Int) := by simpa using h2
        refine ⟨_, fun w => ?_, h⟩
        simp [Instr.sliceAt, Instr.slice, Instr.sliceBounds, run_und hu, run_size hin, slP, mulS_eq, hlo, run_bound h2]
      | some mx =>
        obtain ⟨k3, m, hmx, h⟩ := bnd_some h
        obtain ⟨h1, _⟩ := h
        simp at h1
    | some hi =>
      obtain ⟨k2, hh, hhi, h⟩ := bnd_some h
      cases mx with
      | none =>
        have h := bnd_none h
        obtain ⟨_, h1, h2, h⟩ := h
        have h1 : 0 ≤ hh ∧ hh ≤ (cap : Int) := by simpa using h1
        have h2 : 0 ≤ l ∧ l ≤ hh := by simpa using h2
        refine ⟨_, fun w => ?_, h⟩
        simp [Instr.sliceAt, Instr.slice, Instr.sliceBounds, run_und hu, run_size hin, slP, mulS_eq, hlo, hhi, run_bound h1, run_bound (y := hh.toNat) (show 0 ≤ l ∧ l ≤ (hh.toNat : Nat) by omega)]
      | some mx =>
        obtain ⟨k3, m, hmx, h⟩ := bnd_some h
        obtain ⟨h1, h2, h3, h⟩ := h
        have h1 : 0 ≤ m ∧ m ≤ (cap : Int) := by simpa using h1
        have h2 : 0 ≤ hh ∧ hh ≤ m := by simpa using h2
        have h3 : 0 ≤ l ∧ l ≤ hh := by simpa using h3
        refine ⟨_, fun w => ?_, h⟩
        simp [Instr.sliceAt, Instr.slice, Instr.sliceBounds, run_und hu, run_size hin, slP, mulS_eq, hlo, hhi, hmx, run_bound h1, run_bound (y := m.toNat) (show 0 ≤ hh ∧ hh ≤ (m.toNat : Nat) by omega), run_bound (y := hh.toNat) (show 0 ≤ l ∧ l ≤ (hh.toNat : Nat) by omega)]
theorem run_slice_str {t : TypeId} (hu : P.underlying t = some .string) {s : ByteArray} {fr : Fr} {lo hi : Option Operand} {K : Value → Prop}
    (h : bnd fr lo fun lo => bnd fr hi fun hi => slcS s lo hi K) :
    ∃ v, (∀ w, (Instr.sliceAt t (.string s) (lo.map (ev fr)) (hi.map (ev fr)) none).run P w = .ok v w) ∧ K v := by
  cases lo with
  | none =>
    have h := bnd_none h
    cases hi with
    | none =>
      have h := bnd_none h
      obtain ⟨_, _, h⟩ := h
      refine ⟨_, fun w => ?_, h⟩
      simp [Instr.sliceAt, Instr.slice, Instr.sliceBounds, run_und hu]
    | some hi =>
      obtain ⟨k2, hh, hhi, h⟩ := bnd_some h
      obtain ⟨h1, _, h⟩ := h
      have h1 : 0 ≤ hh ∧ hh ≤ (s.size : Int) := by simpa using h1
      refine ⟨_, fun w => ?_, h⟩
      simp [Instr.sliceAt, Instr.slice, Instr.sliceBounds, run_und hu, hhi, run_bound h1]
  | some lo =>
    obtain ⟨k1, l, hlo, h⟩ := bnd_some h
    cases hi with
    | none =>
      have h := bnd_none h
      obtain ⟨_, h2, h⟩ := h
      have h2 : 0 ≤ l ∧ l ≤ (s.size : Int) := by simpa using h2
      refine ⟨_, fun w => ?_, h⟩
      simp [Instr.sliceAt, Instr.slice, Instr.sliceBounds, run_und hu, hlo, run_bound h2]
    | some hi =>
      obtain ⟨k2, hh, hhi, h⟩ := bnd_some h
      obtain ⟨h1, h2, h⟩ := h
      have h1 : 0 ≤ hh ∧ hh ≤ (s.size : Int) := by simpa using h1
      have h2 : 0 ≤ l ∧ l ≤ hh := by simpa using h2
      refine ⟨_, fun w => ?_, h⟩
      simp [Instr.sliceAt, Instr.slice, Instr.sliceBounds, run_und hu, hlo, hhi, run_bound h1, run_bound (y := hh.toNat) (show 0 ≤ l ∧ l ≤ (hh.toNat : Nat) by omega)]

theorem still_sound (hT : TyOk P Ty) {C : World → Prop} {ld : Addr → TyI → (Value → Prop) → Prop} {rs : Sem Value → (Value → Prop) → Prop}
    (hld : ∀ ad i k, ld ad i k → ∃ v, (∀ w, C w → Loads w ad i v) ∧ k v) (hrs : ∀ s k, rs s k → ∃ v, (∀ w, C w → s.run P w = .ok v w) ∧ k v)
    {o : Oper} {fr : Fr} {K : Value → Prop} (h : stillV P Ty ld rs o fr K) : ∃ v, (∀ w, C w → (execOp (ev fr) o).run P w = .ok (.value v) w) ∧ K v := by
  obtain ⟨dst, op, type, pos, after, guard⟩ := o
  unfold stillV at h
  cases op <;> dsimp only at h <;> first | exact h.elim | skip
  case move x => exact ⟨_, fun w _ => rfl, h⟩
  case assign x => exact ⟨_, fun w _ => rfl, h⟩
  case pick c a b =>
    split at h
    · rename_i t ht
      refine ⟨_, fun w _ => ?_, h⟩
      simp only [execOp, Sem.run_bind, ht, asBool, Sem.run_pure, Result.andThen_ok]
      cases t <;> simp
    · exact h.elim
  case build t ps =>
    split at h
    · rename_i i hi
      obtain ⟨info, d, ha⟩ := tyAt hT hi
      split at h
      · rename_i z hz hk
        obtain ⟨fs, rfl⟩ := kd_struct (hk ▸ ha.kd)
        obtain ⟨cs, hc, hK⟩ := optK_elim h
        refine ⟨_, fun w _ => ?_, hK⟩
        rw [ha.flds, fill_congr (fldPlace_eq fs)] at hc
        have hz' : info.zero = some z := by rw [← ha.zero, hz]
        have hf := fill_eq _ _ _ hc
        rw [cellsOf_eq] at hf
        have hf : Instr.fill _ z.cells _ = _ := hf
        have hpl := run_places (P := P) fs w (fldsOk_info ha.ok)
        simp only [execOp, Instr.build, Sem.run_bind, run_zero ha.inf hz', run_und ha.und, Result.andThen_ok, hpl, parts_eq]
        simp only [hf, Sem.run_pure, Result.andThen_ok]
      · rename_i z n e hz hk
        have he := kd_array (hk ▸ ha.kd)
        subst he
        split at h
        · rename_i s hs
          obtain ⟨ie, hie, hse⟩ := szOf_info hT hs
          obtain ⟨cs, hc, hK⟩ := optK_elim h
          refine ⟨_, fun w _ => ?_, hK⟩
          have hz' : info.zero = some z := by rw [← ha.zero, hz]
          have hf := fill_eq _ _ _ hc
          rw [cellsOf_eq] at hf
          have hf : Instr.fill _ z.cells _ = _ := hf
          simp only [execOp, Instr.build, Sem.run_bind, run_zero ha.inf hz', run_und ha.und, Result.andThen_ok, run_size hie, hse, parts_eq]
          simp only [hf, Sem.run_pure, Result.andThen_ok]
        · exact h.elim
      · exact h.elim
    · exact h.elim
  case load t x =>
    split at h
    · rename_i a i hx hi
      obtain ⟨ad, rfl, h⟩ := nn_elim h
      obtain ⟨v, hv, hK⟩ := hld _ _ _ h
      refine ⟨v, fun w hw => ?_, hK⟩
      simp [execOp, Instr.loadAt, hx, Instr.sureAddr, run_loads hT hi (hv w hw)]
    · exact h.elim
  case nilCheck x =>
    split at h
    · rename_i a hx
      obtain ⟨ad, rfl, h⟩ := nn_elim h
      exact ⟨_, fun w _ => by simp [execOp, hx], h⟩
    · rename_i hx; exact ⟨_, fun w _ => by simp [execOp, hx], h⟩
    · rename_i hx; exact ⟨_, fun w _ => by simp [execOp, hx], h⟩
    · exact h.elim
  case binOp op t x y yt =>
    obtain ⟨v, hv, hK⟩ := bin_elim hT hrs h
    refine ⟨v, fun w hw => ?_, hK⟩
    have := hv w hw
    simp only [execOp, Sem.run_bind] at this ⊢
    rw [this]; rfl
  case unOp op t x =>
    split at h
    · rename_i hx; exact ⟨_, fun w _ => by simp [execOp, hx, Op.unary], h⟩
    · rename_i hx; exact ⟨_, fun w _ => by simp [execOp, hx, Op.unary, Op.intArith], intR_elim h⟩
    · rename_i hx; exact ⟨_, fun w _ => by simp [execOp, hx, Op.unary, Op.intBits, bitI], h⟩
    · exact h.elim
  case convert s d x =>
    split at h
    · rename_i k1 k2 k3 n h1 h2 hx
      obtain ⟨d1, hd1, hd1'⟩ := undOf hT h1 (by simp)
      obtain ⟨d2, hd2, hd2'⟩ := undOf hT h2 (by simp)
      rw [kd_int hd1'] at hd1; rw [kd_int hd2'] at hd2
      exact ⟨_, fun w _ => by simp [execOp, hx, Go.convert, run_und hd1, run_und hd2, Conv.intToInt], intR_elim h⟩
    · rename_i s h1 h2 hx
      obtain ⟨d1, hd1, hd1'⟩ := undOf hT h1 (by simp)
      obtain ⟨d2, hd2, hd2'⟩ := undOf hT h2 (by simp)
      rw [kd_string hd1'] at hd1; rw [kd_string hd2'] at hd2
      exact ⟨_, fun w _ => by simp [execOp, hx, Go.convert, run_und hd1, run_und hd2], h⟩
    · exact h.elim
  case makeInterface t x =>
    split at h
    · rename_i i hi
      obtain ⟨info, d, ha⟩ := tyAt hT hi
      split at h
      · exact h.elim
      · rename_i hk
        refine ⟨_, fun w _ => ?_, h⟩
        simp only [execOp, Instr.makeInterface, Sem.run_bind, run_und ha.und, Result.andThen_ok]
        cases d <;> simp_all [ha.kd, kdOf]
    · exact h.elim
  case makeFunc fn first cap =>
    refine ⟨_, fun w _ => ?_, h⟩
    have e : ∀ a : Array Operand, a.map (ev fr) = ⟨a.toList.map (ev fr)⟩ := fun a => by apply Array.ext'; simp
    simp [execOp, Instr.makeFunc, evs_eq, e]
  case slice t x lo hi mx =>
    split at h
    · rename_i e a len cap h1 hx
      obtain ⟨d1, hd1, hd1'⟩ := undOf hT h1 (by simp)
      rw [kd_slice hd1'] at hd1
      split at h
      · rename_i sz hsz
        obtain ⟨ie, hie, rfl⟩ := szOf_info hT hsz
        obtain ⟨v, hv, hK⟩ := run_slice_slc hd1 hie h
        exact ⟨v, fun w _ => by simp [execOp, hx, hv w], hK⟩
      · exact h.elim
    · rename_i s h1 hx
      obtain ⟨d1, hd1, hd1'⟩ := undOf hT h1 (by simp)
      rw [kd_string hd1'] at hd1
      split at h
      · obtain ⟨v, hv, hK⟩ := run_slice_str hd1 h
        exact ⟨v, fun w _ => by simp [execOp, hx, hv w], hK⟩
      · exact h.elim
    · exact h.elim
  case fieldAddr s x f =>
    split at h
    · rename_i i a hi hx
      obtain ⟨info, d, ha⟩ := tyAt hT hi
      split at h
      · rename_i off sz g hk hf
        obtain ⟨fs, rfl⟩ := kd_struct (hk ▸ ha.kd)
        obtain ⟨hc, h⟩ := bif_elim h
        obtain ⟨ad, rfl, h⟩ := nn_elim h
        refine ⟨_, fun w _ => ?_, h⟩
        rw [ha.flds] at hf
        simp only [fldsOf, List.getElem?_map, Option.map_eq_some_iff, Prod.mk.injEq] at hf
        obtain ⟨F, hF, rfl, hsz, _⟩ := hf
        obtain ⟨iF, hiF⟩ := fldsOk_info ha.ok F (List.mem_of_getElem? hF)
        have hne : iF.size ≠ 0 := by
          have : P.cellsOf F.type = iF.size := by simp [Program.cellsOf, hiF]
          rw [← this, hsz]
          have := Nat.le_of_ble_eq_true hc; omega
        have hF' : fs[f]? = some F := by simpa using hF
        simp [execOp, hx, Instr.fieldAt, run_und ha.und, hF', Instr.sureAddr, fieldPlace, run_size hiF, hne, adA_eq]
      · exact h.elim
    · exact h.elim
  case field t x f =>
    split at h
    · rename_i i hi
      obtain ⟨info, d, ha⟩ := tyAt hT hi
      split at h
      · rename_i hk
        obtain ⟨fs, rfl⟩ := kd_struct (hk ▸ ha.kd)
        unfold fldV at h
        split at h
        · rename_i cs off sz hx hf
          rw [ha.flds] at hf
          simp only [fldsOf, List.getElem?_map, Option.map_eq_some_iff, Prod.mk.injEq] at hf
          obtain ⟨F, hF, rfl, rfl, hag⟩ := hf
          obtain ⟨iF, hiF⟩ := fldsOk_info ha.ok F (List.mem_of_getElem? hF)
          obtain ⟨dF, hdF⟩ := fldsOk_und ha.ok F (List.mem_of_getElem? hF)
          have hF' : fs[f]? = some F := by simpa using hF
          have hagg : (kdOf dF).isAgg = true := by rw [hdF] at hag; cases dF <;> simp_all [kdOf, Kd.isAgg]
          have hsz : P.cellsOf F.type = iF.size := by simp [Program.cellsOf, hiF]
          refine ⟨_, fun w _ => ?_, h⟩
          simp only [execOp, hx, Instr.field, Sem.run_bind, run_und ha.und, hF', asAgg, Sem.run_pure, Result.andThen_ok, part, run_isAgg hdF, hagg, if_true, run_size hiF, hsz]
          congr 3
          apply Array.ext'
          simp [List.extract_eq_take_drop]
        · rename_i cs off sz hx hf
          rw [ha.flds] at hf
          simp only [fldsOf, List.getElem?_map, Option.map_eq_some_iff, Prod.mk.injEq] at hf
          obtain ⟨F, hF, rfl, rfl, hag⟩ := hf
          obtain ⟨dF, hdF⟩ := fldsOk_und ha.ok F (List.mem_of_getElem? hF)
          have hF' : fs[f]? = some F := by simpa using hF
          have hagg : (kdOf dF).isAgg = false := by rw [hdF] at hag; cases dF <;> simp_all [kdOf, Kd.isAgg]
          split at h
          · rename_i u hu
            refine ⟨_, fun w _ => ?_, h⟩
            have hu' : cs[F.offset]? = some u := by simpa using hu
            simp [execOp, hx, Instr.field, run_und ha.und, hF', asAgg, part, run_isAgg hdF, hagg, hu']
          · exact h.elim
        · exact h.elim
      · exact h.elim
    · exact h.elim
  case indexAddr t x ix =>
    split at h
    · rename_i e a len cap kk n h1 hx hix
      obtain ⟨d1, hd1, hd1'⟩ := undOf hT h1 (by simp)
      rw [kd_slice hd1'] at hd1
      split at h
      · rename_i sz hsz
        obtain ⟨ie, hie, rfl⟩ := szOf_info hT hsz
        obtain ⟨ad, rfl, h1, h2, h⟩ := h
        refine ⟨_, fun w _ => ?_, h⟩
        simp [execOp, hx, hix, Instr.indexAt, asIntOf, run_und hd1, run_size hie, h1, h2, mulS_eq]
      · exact h.elim
    · rename_i m e a kk n h1 hx hix
      obtain ⟨d1, hd1, hd1'⟩ := undOf hT h1 (by simp)
      rw [kd_array hd1'] at hd1
      split at h
      · rename_i sz hsz
        obtain ⟨ie, hie, rfl⟩ := szOf_info hT hsz
        obtain ⟨ad, rfl, h1, h2, h⟩ := h
        refine ⟨_, fun w _ => ?_, h⟩
        simp [execOp, hx, hix, Instr.indexAt, asIntOf, run_und hd1, run_size hie, h1, h2, mulS_eq, Instr.sureAddr]
      · exact h.elim
    · exact h.elim
  case index t x ix =>
    split at h
    · rename_i s kk n h1 hx hix
      obtain ⟨d1, hd1, hd1'⟩ := undOf hT h1 (by simp)
      rw [kd_string hd1'] at hd1
      obtain ⟨⟨h1, h2⟩, h⟩ := h
      refine ⟨_, fun w _ => ?_, h⟩
      have hlt : n.toNat < s.size := by omega
      have hlt' : n.toNat < s.data.size := hlt
      have e : s[n.toNat]? = some (sb s n.toNat) := by
        rw [getElem?_pos s n.toNat hlt]
        simp only [sb, hlt', Array.getElem?_eq_getElem, Option.getD_some]
        rfl
      simp [execOp, hx, hix, Instr.index, asIntOf, run_und hd1, h1, e]
    · obtain ⟨v, hv, hK⟩ := hrs _ _ h
      exact ⟨v, fun w hw => by simp only [execOp, Sem.run_bind, hv w hw]; rfl, Sh.is_elim hK⟩
  case extract t i =>
    unfold tupAt at h
    split at h
    · rename_i vs hx
      split at h
      · rename_i u hu
        refine ⟨u, fun w _ => ?_, h⟩
        have hu' : vs[i]? = some u := by simpa using hu
        simp [execOp, hx, Instr.extract, hu']
      · exact h.elim
    · exact h.elim
  case call c =>
    obtain ⟨callee, args, argTypes⟩ := c
    have ha : args.map (ev fr) = ⟨evs fr args.toList⟩ := by rw [evs_eq]; apply Array.ext'; simp
    split at h
    · rename_i a l cap hc hv
      dsimp only at hc hv
      subst hc
      split at h
      · rename_i t ts hts
        obtain ⟨hk, h⟩ := bif_elim h
        cases hkk : kdOfT Ty t <;> rw [hkk] at hk <;> simp [slcKd] at hk
        obtain ⟨d1, hd1, hd1'⟩ := undOf hT hkk (by simp)
        rw [kd_slice hd1'] at hd1
        refine ⟨_, fun w _ => ?_, h⟩
        have ht : argTypes[0]? = some t := by rw [← Array.getElem?_toList, hts]; rfl
        simp [execOp, resolve, invoke, builtin, Builtin.len_, ha, hv, ht, run_und hd1, goInt]
      · exact h.elim
    · rename_i s hc hv
      dsimp only at hc hv
      subst hc
      split at h
      · rename_i t ts hts
        split at h
        · rename_i hkk
          obtain ⟨d1, hd1, hd1'⟩ := undOf hT hkk (by simp)
          rw [kd_string hd1'] at hd1
          refine ⟨_, fun w _ => ?_, h⟩
          have ht : argTypes[0]? = some t := by rw [← Array.getElem?_toList, hts]; rfl
          simp [execOp, resolve, invoke, builtin, Builtin.len_, ha, hv, ht, run_und hd1, goInt]
        · exact h.elim
      · exact h.elim
    · rename_i hc _ _
      dsimp only at hc
      subst hc
      obtain ⟨v, hv, hK⟩ := hrs _ _ h
      refine ⟨v, fun w hw => ?_, Sh.is_elim hK⟩
      have := hv w hw
      simp only [execOp, resolve, invoke, builtin, Sem.run_bind, Sem.run_pure, Result.andThen_ok, ha, this]
    · rename_i k a k' b hc hv
      dsimp only at hc hv
      subst hc
      refine ⟨_, fun w _ => ?_, h⟩
      simp [execOp, resolve, invoke, builtin, Builtin.min_, ha, hv, Builtin.min2]
    · rename_i k a k' b hc hv
      dsimp only at hc hv
      subst hc
      refine ⟨_, fun w _ => ?_, h⟩
      simp [execOp, resolve, invoke, builtin, Builtin.max_, ha, hv, Builtin.max2]
    · exact h.elim
end
end Go.V
