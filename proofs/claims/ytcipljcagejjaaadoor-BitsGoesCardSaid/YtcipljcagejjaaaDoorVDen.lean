/- A verification-condition generator over the walk's own rules: `den` turns a function's code into a proposition; `calls_of_den`: that proposition gives the function's contract. It holds over whatever program. -/
import Derived.RangeFuncIn
import Derived.RangeFuncLeaves
import Derived.TacticsIn
import Derived.Deep.Quiet
import Derived.Laws.Sem
import Derived.Laws.Cells
import Derived.KernelRfl
import Derived.IntWalk
set_option linter.unusedVariables false
namespace Go.V

/- the shapes of values -/
inductive Cs where
  | int (k : IntKind) | bool | str | slice | ptr | map | fn | val
  deriving Inhabited
inductive S1 where
  | one (c : Cs) | agg (l : List Cs)
  deriving Inhabited
inductive Sh where
  | s (x : S1) | tup (l : List S1)
  deriving Inhabited

def Cs.ex : Cs → (Value → Prop) → Prop
  | .int k, p => ∃ n : Int, p (.int k n)
  | .bool, p => ∃ b : Bool, p (.bool b)
  | .str, p => ∃ s : ByteArray, p (.string s)
  | .slice, p => ∃ (a : Option Addr) (l c : Nat), p (.slice a l c)
  | .ptr, p => ∃ a : Option Addr, p (.pointer a)
  | .map, p => ∃ r : Option Nat, p (.map r)
  | .fn, p => ∃ (g : FuncId) (c : List Value), p (.func (.func g) #[] ⟨c⟩)
  | .val, p => ∃ v : Value, p v
def Cs.all : Cs → (Value → Prop) → Prop
  | .int k, p => ∀ n : Int, p (.int k n)
  | .bool, p => ∀ b : Bool, p (.bool b)
  | .str, p => ∀ s : ByteArray, p (.string s)
  | .slice, p => ∀ (a : Option Addr) (l c : Nat), p (.slice a l c)
  | .ptr, p => ∀ a : Option Addr, p (.pointer a)
  | .map, p => ∀ r : Option Nat, p (.map r)
  | .fn, p => ∀ (g : FuncId) (c : List Value), p (.func (.func g) #[] ⟨c⟩)
  | .val, p => ∀ v : Value, p v
def exC : List Cs → (List Value → Prop) → Prop
  | [], p => p []
  | c :: l, p => c.ex fun v => exC l fun vs => p (v :: vs)
def allC : List Cs → (List Value → Prop) → Prop
  | [], p => p []
  | c :: l, p => c.all fun v => allC l fun vs => p (v :: vs)
def S1.ex : S1 → (Value → Prop) → Prop
  | .one c, p => c.ex p
  | .agg l, p => exC l fun vs => p (.agg ⟨vs⟩)
def S1.all : S1 → (Value → Prop) → Prop
  | .one c, p => c.all p
  | .agg l, p => allC l fun vs => p (.agg ⟨vs⟩)
def exS : List S1 → (List Value → Prop) → Prop
  | [], p => p []
  | c :: l, p => c.ex fun v => exS l fun vs => p (v :: vs)
def Sh.ex : Sh → (Value → Prop) → Prop
  | .s x, p => x.ex p
  | .tup l, p => exS l fun vs => p (.tuple ⟨vs⟩)
/- a value of a shape -/
def Sh.is (sh : Sh) (v : Value) (k : Value → Prop) : Prop := sh.ex fun u => v = u ∧ k u

theorem Cs.ex_elim {c : Cs} {p : Value → Prop} (h : c.ex p) : ∃ v, p v := by
  cases c <;> simp only [Cs.ex] at h
  case slice => obtain ⟨a, l, c, h⟩ := h; exact ⟨_, h⟩
  case fn => obtain ⟨a, l, h⟩ := h; exact ⟨_, h⟩
  all_goals (obtain ⟨a, h⟩ := h; exact ⟨_, h⟩)
theorem exC_elim {l : List Cs} : ∀ {p : List Value → Prop}, exC l p → ∃ v, v.length = l.length ∧ p v := by
  induction l with
  | nil => exact fun h => ⟨[], rfl, h⟩
  | cons c l ih => intro p h; obtain ⟨v, h⟩ := Cs.ex_elim h; obtain ⟨vs, hl, h⟩ := ih h; exact ⟨v :: vs, by simp [hl], h⟩
theorem S1.ex_elim {c : S1} {p : Value → Prop} (h : c.ex p) : ∃ v, p v := by
  cases c with
  | one c => exact Cs.ex_elim h
  | agg l => obtain ⟨vs, _, h⟩ := exC_elim h; exact ⟨_, h⟩
theorem exS_elim {l : List S1} : ∀ {p : List Value → Prop}, exS l p → ∃ v, p v := by
  induction l with
  | nil => exact fun h => ⟨[], h⟩
  | cons c l ih => intro p h; obtain ⟨v, h⟩ := S1.ex_elim h; obtain ⟨vs, h⟩ := ih h; exact ⟨v :: vs, h⟩
theorem Sh.ex_elim {c : Sh} {p : Value → Prop} (h : c.ex p) : ∃ v, p v := by
  cases c with
  | s c => exact S1.ex_elim h
  | tup l => obtain ⟨vs, h⟩ := exS_elim h; exact ⟨_, h⟩
theorem Sh.is_elim {sh : Sh} {v : Value} {k : Value → Prop} (h : sh.is v k) : k v := by
  obtain ⟨u, rfl, h⟩ := Sh.ex_elim h; exact h

/- types, as far as the rules ask -/
inductive Kd where
  | bool | int (k : IntKind) | string | slice (e : TypeId) | ptr (e : TypeId) | map (k e : TypeId) | struct | array (n : Nat) (e : TypeId) | func | iface | tuple | other
  deriving Inhabited
def kdOf : TypeDesc → Kd
  | .bool => .bool | .int k => .int k | .string => .string | .slice e => .slice e | .pointer e => .ptr e | .map k e => .map k e
  | .struct _ => .struct | .array n e => .array n e | .func .. => .func | .interface _ => .iface | .tuple _ => .tuple | _ => .other
def Cs.of : Value → Cs
  | .int k _ => .int k | .bool _ => .bool | .string _ => .str | .slice .. => .slice | .pointer _ => .ptr | .map _ => .map | .nilFunc => .fn | _ => .val
def S1.of : Value → S1
  | .agg cs => .agg (cs.toList.map Cs.of)
  | v => .one (Cs.of v)
structure TyI where
  kd : Kd
  size : Nat
  bytes : Nat
  zero : Option Value
  flds : List (Nat × Nat × Bool)      -- offset, size, is the field's type a struct or an array
  tup : List S1
  cmp : Bool := false
  deriving Inhabited
def Kd.isAgg : Kd → Bool
  | .struct | .array .. => true
  | _ => false
def fldsOk (P : Program) : TypeDesc → Bool
  | .struct fs => fs.toList.all fun f => (P.info? f.type).isSome && (P.underlying f.type).isSome
  | _ => true
def tyi (P : Program) (t : TypeId) : Option TyI :=
  match P.info? t, P.underlying t with
  | some i, some d => bif fldsOk P d then some
    { kd := kdOf d, size := i.size, bytes := i.bytes, zero := i.zero, cmp := i.comparable
      flds := match d with
        | .struct fs => fs.toList.map fun f => (f.offset, P.cellsOf f.type, match P.underlying f.type with | some (.struct _) | some (.array ..) => true | _ => false)
        | _ => []
      tup := match d with
        | .tuple ts => ts.toList.map fun e => S1.of (((P.info? e).bind (·.zero)).getD undef)
        | _ => [] } else none
  | _, _ => none
/- a table that agrees with the program's -/
def TyOk (P : Program) (Ty : TypeId → Option TyI) : Prop := ∀ t i, Ty t = some i → tyi P t = some i
def tyIn : List (TypeId × TyI) → TypeId → Option TyI
  | [], _ => none
  | (t, i) :: l, u => bif Nat.beq t u then some i else tyIn l u
theorem tyIn_ok {P : Program} {l : List (TypeId × TyI)} (h : l.map (fun x => tyi P x.1) = l.map (fun x => some x.2)) : TyOk P (tyIn l) := by
  intro t i hi
  induction l with
  | nil => simp [tyIn] at hi
  | cons x l ih =>
    obtain ⟨u, j⟩ := x
    simp only [List.map_cons, List.cons.injEq] at h
    simp only [tyIn, Bool.cond_eq_ite] at hi
    by_cases hb : Nat.beq u t = true
    · rw [if_pos hb] at hi; cases hi; rw [← Nat.eq_of_beq_eq_true hb]; exact h.1
    · rw [if_neg hb] at hi; exact ih h.2 hi
def shT (Ty : TypeId → Option TyI) (t : TypeId) : Sh :=
  match Ty t with
  | some i => match i.kd with | .tuple => .tup i.tup | _ => (match i.zero with | some z => .s (S1.of z) | none => .s (.one .val))
  | none => .s (.one .val)

/- how the world may go on -/
structure Ev (w w' : World) : Prop where
  os : w'.os = w.os
  tape : w'.tape = w.tape
  output : w'.output = w.output
  size : w.heap.size ≤ w'.heap.size
  dfr : ∀ (b : Nat) (d : Option (List Deferred)), w.heap[b]? = some (Obj.deferred d) → w'.heap[b]? = some (Obj.deferred d)
  lop : ∀ (b : Nat) (d : Loop), w.heap[b]? = some (Obj.loop d) → w'.heap[b]? = some (Obj.loop d)
theorem Ev.refl (w : World) : Ev w w := ⟨rfl, rfl, rfl, Nat.le_refl _, fun _ _ h => h, fun _ _ h => h⟩
theorem Ev.trans {a b c : World} (h : Ev a b) (k : Ev b c) : Ev a c :=
  ⟨k.os.trans h.os, k.tape.trans h.tape, k.output.trans h.output, Nat.le_trans h.size k.size, fun x d hx => k.dfr x d (h.dfr x d hx), fun x d hx => k.lop x d (h.lop x d hx)⟩
theorem Ev.drew (w : World) (n : Nat) : Ev w { w with drawn := n } := ⟨rfl, rfl, rfl, Nat.le_refl _, fun _ _ h => h, fun _ _ h => h⟩
theorem Ev.push (w : World) (o : Obj) : Ev w { w with heap := w.heap.push o } := by
  refine ⟨rfl, rfl, rfl, by simp, ?_, ?_⟩ <;>
  · intro b d h
    have hb : b < w.heap.size := (Array.getElem?_eq_some_iff.1 h).1
    simp only [Array.getElem?_push]; rw [if_neg (by omega)]; exact h
theorem Ev.setCell (w : World) (a : Addr) (v : Value) : Ev w (w.setCell a v) := by
  refine ⟨rfl, rfl, rfl, by simp [World.setCell], ?_, ?_⟩ <;>
  · intro b d h
    simp only [World.setCell, Array.getElem?_modify]
    split
    · rename_i e; subst e; simp [h]
    · exact h

structure EOk (E : World → World → Prop) : Prop where
  trans : ∀ {a b c : World}, E a b → E b c → E a c
  ofEv : ∀ a b : World, Ev a b → E a b
  dfr : ∀ {a b : World}, E a b → ∀ (k : Nat) (d : Option (List Deferred)), a.heap[k]? = some (Obj.deferred d) → b.heap[k]? = some (Obj.deferred d)
  size : ∀ {a b : World}, E a b → a.heap.size ≤ b.heap.size
theorem EvOk : EOk Ev := ⟨fun h k => h.trans k, fun _ _ h => h, fun h k d hd => h.dfr k d hd, fun h => h.size⟩
/- a call that returns -/
def RunE (P : Program) (E : World → World → Prop) (f : FuncId) (args : List Value) (w : World) (R : Value → World → Prop) : Prop :=
  Calls P f ⟨args⟩ w fun e w' => ∃ v, e = .returned v ∧ E w w' ∧ R v w'
abbrev Run (P : Program) (f : FuncId) (args : List Value) (w : World) (R : Value → World → Prop) : Prop := RunE P Ev f args w R
theorem Run.mono {P : Program} {f : FuncId} {args : List Value} {w : World} {R R' : Value → World → Prop} (h : Run P f args w R) (hr : ∀ v w', R v w' → R' v w') : Run P f args w R' :=
  Calls.mono h fun _ _ ⟨v, he, hE, hR⟩ => ⟨v, he, hE, hr _ _ hR⟩
theorem RunE.mono {P : Program} {E : World → World → Prop} {f : FuncId} {args : List Value} {w : World} {R R' : Value → World → Prop} (h : RunE P E f args w R) (hr : ∀ v w', R v w' → R' v w') : RunE P E f args w R' :=
  Calls.mono h fun _ _ ⟨v, he, hE, hR⟩ => ⟨v, he, hE, hr _ _ hR⟩
theorem Run.toE {P : Program} {E : World → World → Prop} (hE : EOk E) {f : FuncId} {args : List Value} {w : World} {R : Value → World → Prop} (h : Run P f args w R) : RunE P E f args w R :=
  Calls.mono h fun _ _ ⟨v, he, h1, hR⟩ => ⟨v, he, hE.ofEv _ _ h1, hR⟩
theorem Run.mono' {P : Program} {f : FuncId} {args : List Value} {w : World} {R R' : Value → World → Prop} (h : Run P f args w R) (hr : ∀ v w', Ev w w' → R v w' → R' v w') : Run P f args w R' :=
  Calls.mono h fun _ _ ⟨v, he, hE, hR⟩ => ⟨v, he, hE, hr _ _ hE hR⟩
/- an operation that runs -/
def RunS {α : Type} (P : Program) (s : Sem α) (w : World) (R : α → World → Prop) : Prop :=
  ∃ v w', s.run P w = .ok v w' ∧ Ev w w' ∧ R v w'
theorem RunS.mono {α : Type} {P : Program} {s : Sem α} {w : World} {R R' : α → World → Prop} (h : RunS P s w R) (hr : ∀ v w', R v w' → R' v w') : RunS P s w R' :=
  let ⟨v, w', h1, h2, h3⟩ := h; ⟨v, w', h1, h2, hr _ _ h3⟩

/- a frame: what was put last stands first -/
abbrev Fr := List (Nat × Value)
def getS : Fr → Nat → Value
  | [], _ => undef
  | (d, v) :: l, t => bif Nat.beq d t then v else getS l t
def put (n : Nat) (fr : Fr) : Option Tmp → Value → Fr
  | some d, v => bif Nat.ble (d + 1) n then (d, v) :: fr else fr
  | none, _ => fr
def ev (fr : Fr) : Operand → Value
  | .tmp t => getS fr t
  | .const v => v
  | .global g => .pointer (some ⟨g, 0, none⟩)
  | .func f => .func (.func f) #[] #[]
def evs (fr : Fr) : List Operand → List Value
  | [] => []
  | x :: l => ev fr x :: evs fr l
theorem evs_eq (fr : Fr) : ∀ l, evs fr l = l.map (ev fr)
  | [] => rfl
  | x :: l => by simp [evs, evs_eq fr l]
def actOf (n : Nat) (fr : Fr) (ds : List Deferred) : Act := { tmps := ⟨(List.range n).map (getS fr)⟩, defers := ds }
/- a frame all of whose slots are the frame's -/
def Fits (n : Nat) (fr : Fr) : Prop := ∀ t, n ≤ t → getS fr t = undef
theorem actOf_get (n : Nat) (fr : Fr) (ds : List Deferred) (hf : Fits n fr) (t : Nat) : (actOf n fr ds).tmps.getD t undef = getS fr t := by
  by_cases h : t < n
  · simp [actOf, h]
  · simp [actOf, h, hf t (by omega)]
theorem ev_act (n : Nat) (fr : Fr) (ds : List Deferred) (hf : Fits n fr) (x : Operand) : (actOf n fr ds).eval x = ev fr x := by
  cases x with
  | tmp t => exact actOf_get n fr ds hf t
  | _ => rfl
theorem ev_act' (n : Nat) (fr : Fr) (ds : List Deferred) (hf : Fits n fr) : (actOf n fr ds).eval = ev fr := funext (ev_act n fr ds hf)
theorem getS_cons (d : Nat) (v : Value) (l : Fr) (t : Nat) : getS ((d, v) :: l) t = if d = t then v else getS l t := by
  simp only [getS, Bool.cond_eq_ite]
  by_cases h : d = t
  · subst h; simp
  · rw [if_neg h, if_neg]; simpa using h
theorem put_some (n : Nat) (fr : Fr) (d : Nat) (v : Value) : put n fr (some d) v = if d < n then (d, v) :: fr else fr := by
  simp only [put, Bool.cond_eq_ite, Nat.ble_eq]; rfl
theorem put_fits {n : Nat} {fr : Fr} (hf : Fits n fr) (d : Option Tmp) (v : Value) : Fits n (put n fr d v) := by
  cases d with
  | none => exact hf
  | some d =>
    rw [put_some]
    split
    · intro t ht; rw [getS_cons, if_neg (by omega)]; exact hf t ht
    · exact hf
theorem get_put (n : Nat) (fr : Fr) (d : Nat) (v : Value) (t : Nat) : getS (put n fr (some d) v) t = if d = t ∧ d < n then v else getS fr t := by
  rw [put_some]
  by_cases h : d < n
  · rw [if_pos h, getS_cons]; simp [h]
  · rw [if_neg h]; simp [h]
theorem put_act (n : Nat) (fr : Fr) (ds : List Deferred) (d : Option Tmp) (v : Value) : (actOf n fr ds).put d v = actOf n (put n fr d v) ds := by
  cases d with
  | none => rfl
  | some d =>
    simp only [Act.put, actOf, Act.mk.injEq, and_true]
    apply Array.ext'
    apply List.ext_getElem?
    intro i
    simp only [Array.toList_setIfInBounds, List.getElem?_set, List.getElem?_map, List.length_map, List.length_range]
    by_cases hi : i < n
    · simp only [List.getElem?_range hi, Option.map_some, get_put]
      by_cases hd : d = i
      · subst hd; simp [hi]
      · simp [hd]
    · rw [List.getElem?_eq_none (by simpa using hi)]
      by_cases hd : d = i
      · subst hd; simp [hi]
      · simp [hd]
theorem actOf_congr {n : Nat} {fr fr' : Fr} (ds : List Deferred) (h : ∀ t, t < n → getS fr t = getS fr' t) : actOf n fr ds = actOf n fr' ds := by
  simp only [actOf, Act.mk.injEq, and_true]
  congr 1
  exact List.map_congr_left fun t ht => h t (by simpa using ht)

/- tests -/
def br : Bool → Prop → Prop → Prop
  | true, a, _ => a
  | false, _, b => b
theorem br_intro {c : Bool} {a b : Prop} (h1 : c = true → a) (h2 : c = false → b) : br c a b := by
  cases c
  · exact h2 rfl
  · exact h1 rfl
def brV (v : Value) (a b : Prop) : Prop := match v with | .bool c => br c a b | _ => False
def bspl (c : Bool) (k : Bool → Prop) : Prop := br c (k true) (k false)
theorem bspl_elim {c : Bool} {k : Bool → Prop} (h : bspl c k) : k c := by cases c <;> exact h
def nn (a : Option Addr) (k : Addr → Prop) : Prop := match a with | some x => k x | none => False
/- a number that an int holds -/
def inI (z : Int) : Prop := -9223372036854775808 ≤ z ∧ z ≤ 9223372036854775807
theorem wrap_in {z : Int} (h : inI z) : IntKind.i64.wrap z = z := IntWalk.i64_in z ⟨h.1, h.2⟩

def setS : List Value → Nat → Value → List Value
  | [], _, _ => []
  | _ :: l, 0, v => v :: l
  | x :: l, n + 1, v => x :: setS l n v
theorem setS_eq : ∀ (l : List Value) (n : Nat) (v : Value), setS l n v = l.set n v
  | [], _, _ => rfl
  | _ :: _, 0, _ => rfl
  | x :: l, n + 1, v => by simp [setS, setS_eq l n v]
/- memory -/
def rowAt (w : World) (a : Addr) (i : Nat) : Nat → Option (List Value)
  | 0 => some []
  | n + 1 => match w.cell? (a.add i), rowAt w a (i + 1) n with
    | some v, some vs => some (v :: vs)
    | _, _ => none
def ldv (w : World) (a : Addr) (i : TyI) (k : Value → Prop) : Prop :=
  match i.zero with
  | none => False
  | some z => match i.kd.isAgg, S1.of z with
    | true, .agg l => exC l fun vs => rowAt w a 0 i.size = some vs ∧ k (.agg ⟨vs⟩)
    | false, .one c => c.ex fun v => w.cell? a = some v ∧ k v
    | _, _ => False
def oneC : Value → Bool
  | .agg _ | .tuple _ => false
  | _ => true
/- a row is written, one cell behind the other -/
def storeRow (w : World) (a : Addr) (i : Nat) : List Value → World
  | [] => w
  | v :: l => storeRow (w.setCell (a.add i) v) a (i + 1) l
def mayStore (w : World) (a : Addr) (i : Nat) : List Value → Prop
  | [] => True
  | v :: l => oneC v = true ∧ (∃ u, w.cell? (a.add i) = some u) ∧ w.frozen? (a.add i) = false ∧ mayStore w a (i + 1) l
def st1 (w : World) (a : Addr) (v : Value) (k : World → Prop) : Prop :=
  (∃ u, w.cell? a = some u) ∧ w.frozen? a = false ∧ oneC v = true ∧ ∀ w', w' = w.setCell a v → k w'
def stR (w : World) (a : Addr) (vs : List Value) (k : World → Prop) : Prop :=
  mayStore w a 0 vs ∧ ∀ w', w' = storeRow w a 0 vs → k w'
def cellsOf : Value → List Value
  | .agg cs => cs.toList
  | v => [v]
def lenIs : List Value → Nat → Bool
  | [], n => Nat.beq n 0
  | _ :: l, n => match n with
    | n + 1 => lenIs l n
    | 0 => false
theorem lenIs_eq : ∀ (l : List Value) (n : Nat), lenIs l n = true → l.length = n
  | [], n, h => by simp [lenIs] at h; simp [h]
  | _ :: l, 0, h => by simp [lenIs] at h
  | _ :: l, n + 1, h => by simp [lenIs_eq l n h]
def leL : List Value → Nat → Bool
  | [], _ => true
  | _ :: l, n + 1 => leL l n
  | _, _ => false
theorem leL_eq : ∀ (l : List Value) (n : Nat), leL l n = true → l.length ≤ n
  | [], _, _ => Nat.zero_le _
  | _ :: l, n + 1, h => by have := leL_eq l n h; simp; omega
def geL : Nat → List Value → Bool
  | 0, _ => true
  | n + 1, _ :: l => geL n l
  | _, _ => false
theorem geL_eq : ∀ (n : Nat) (l : List Value), geL n l = true → n ≤ l.length
  | 0, _, _ => Nat.zero_le _
  | n + 1, _ :: l, h => by have := geL_eq n l h; simp; omega
def stv (w : World) (a : Addr) (i : TyI) (v : Value) (k : World → Prop) : Prop :=
  match i.kd.isAgg, v with
  | true, .agg cs => bif lenIs cs.toList i.size then stR w a cs.toList k else False
  | false, v => bif Nat.beq i.size 1 then st1 w a v k else False
  | _, _ => False
def new (w : World) (o : Obj) (k : Nat → World → Prop) : Prop := ∀ b w', b = w.heap.size → w' = { w with heap := w.heap.push o } → k b w'

end Go.V
