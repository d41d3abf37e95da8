/- What one operation does, as a proposition on what is done next. -/
import Derived.Test.YtcipljcagejjaaaDoorVSL
set_option linter.unusedVariables false
namespace Go.V

def kx : IntKind → Nat
  | .i8 => 0 | .i16 => 1 | .i32 => 2 | .i64 => 3 | .u8 => 4 | .u16 => 5 | .u32 => 6 | .u64 => 7
theorem kx_inj {a b : IntKind} (h : Nat.beq (kx a) (kx b) = true) : a = b := by
  have := Nat.eq_of_beq_eq_true h
  cases a <;> cases b <;> simp_all [kx]
/- the result of an int operation: an int's own range must hold it; of the other kinds it wraps -/
def intR (k : IntKind) (z : Int) (K : Value → Prop) : Prop :=
  match k with
  | .i64 => inI z ∧ K (.int .i64 z)
  | k => K (.int k (k.wrap z))
def bitI (op : BinOp) (k : IntKind) (x y : Int) : Int :=
  match op with
  | .and => k.wrap ((BitVec.ofInt k.bits x) &&& (BitVec.ofInt k.bits y)).toNat
  | .or => k.wrap ((BitVec.ofInt k.bits x) ||| (BitVec.ofInt k.bits y)).toNat
  | .xor => k.wrap ((BitVec.ofInt k.bits x) ^^^ (BitVec.ofInt k.bits y)).toNat
  | _ => k.wrap ((BitVec.ofInt k.bits x) &&& ~~~(BitVec.ofInt k.bits y)).toNat
def shlI (k : IntKind) (a b : Int) : Int := k.wrap (a * 2 ^ (min b.toNat k.bits))
def shrI (k : IntKind) (a b : Int) : Int := a.fdiv (2 ^ (min b.toNat k.bits))
def nz (b : Int) : Prop := b ≠ 0
def ns (b : Int) : Prop := 0 ≤ b
def inS (i : Int) (n : Nat) : Prop := 0 ≤ i ∧ i < n
def mkOk (l c : Int) (b : Nat) : Prop := 0 ≤ l ∧ l = c ∧ b * l ≤ 140737488355328
def intOp (op : BinOp) (k : IntKind) (a b : Int) (K : Value → Prop) : Prop :=
  match op with
  | .add => intR k (a + b) K
  | .sub => intR k (a - b) K
  | .mul => intR k (a * b) K
  | .quo => nz b ∧ intR k (a.tdiv b) K
  | .rem => nz b ∧ K (.int k (a.tmod b))
  | .and => K (.int k (bitI .and k a b))
  | .or => K (.int k (bitI .or k a b))
  | .xor => K (.int k (bitI .xor k a b))
  | .andNot => K (.int k (bitI .andNot k a b))
  | .eql => K (.bool (a == b))
  | .neq => K (.bool (a != b))
  | .lss => K (.bool (decide (a < b)))
  | .leq => K (.bool (decide (a ≤ b)))
  | .gtr => K (.bool (decide (b < a)))
  | .geq => K (.bool (decide (b ≤ a)))
  | .shl => ns b ∧ K (.int k (shlI k a b))
  | .shr => ns b ∧ K (.int k (shrI k a b))
def isShift : BinOp → Bool
  | .shl | .shr => true
  | _ => false
def strOp (op : BinOp) (x y : ByteArray) (K : Value → Prop) : Prop :=
  match op with
  | .add => (x.size : Int) + y.size ≤ 9223372036854775807 ∧ K (.string (x ++ y))
  | .eql => K (.bool (x.toList == y.toList))
  | .neq => K (.bool (!(x.toList == y.toList)))
  | .lss => K (.bool (Op.bytesLess x.toList y.toList))
  | .leq => K (.bool (Op.bytesLess x.toList y.toList || x.toList == y.toList))
  | .gtr => K (.bool (!(Op.bytesLess x.toList y.toList || x.toList == y.toList)))
  | .geq => K (.bool (!Op.bytesLess x.toList y.toList))
  | _ => False
def eqB (op : BinOp) (t : Bool) (K : Value → Prop) : Prop :=
  match op with
  | .eql => K (.bool t)
  | .neq => K (.bool (!t))
  | _ => False
def kdOfT (Ty : TypeId → Option TyI) (t : TypeId) : Kd := match Ty t with | some i => i.kd | none => .other
def szOfT (Ty : TypeId → Option TyI) (t : TypeId) : Option Nat := match Ty t with | some i => some i.size | none => none
def ptrKd : Kd → Bool
  | .ptr _ => true
  | _ => false
def slcKd : Kd → Bool
  | .slice _ => true
  | _ => false
def mapKd : Kd → Bool
  | .map .. => true
  | _ => false
def binV (Ty : TypeId → Option TyI) (rs : Sem Value → (Value → Prop) → Prop) (op : BinOp) (t : TypeId) (xo yo : Operand) (x y : Value) (K : Value → Prop) : Prop :=
  match x, y with
  | .int k a, .int k' b => bif isShift op || Nat.beq (kx k) (kx k') then intOp op k a b K else False
  | .string a, .string b => strOp op a b K
  | .bool a, .bool b => (match kdOfT Ty t with | .bool => eqB op (a == b) K | _ => False)
  | .pointer a, .pointer none => bif ptrKd (kdOfT Ty t) then eqB op a.isNone K else False
  | .pointer none, .pointer b => bif ptrKd (kdOfT Ty t) then eqB op b.isNone K else False
  | .slice a _ _, .slice none _ _ => bif slcKd (kdOfT Ty t) then eqB op a.isNone K else False
  | .func (.func _) _ _, .nilFunc => (match kdOfT Ty t with | .func => eqB op false K | _ => False)
  | .map a, .map none => bif mapKd (kdOfT Ty t) then eqB op a.isNone K else False
  | x, y => rs (do eqGuard op t xo yo x y; Go.binOp op t x y) fun v => ∃ b, v = .bool b ∧ K (.bool b)

def appV : List Value → List Value → List Value
  | [], m => m
  | x :: l, m => x :: appV l m
theorem appV_eq : ∀ l m, appV l m = l ++ m
  | [], _ => rfl
  | x :: l, m => by simp [appV, appV_eq l m]
theorem appV_nil : ∀ l, appV l [] = l
  | [] => rfl
  | x :: l => by simp [appV, appV_nil l]
def repsL : Nat → List Value → List Value
  | 0, _ => []
  | n + 1, z => appV z (repsL n z)
def reps : Nat → List Value → List Value
  | 0, _ => []
  | n + 1, z => z ++ reps n z
def setMany (cells : List Value) (off : Nat) : List Value → List Value
  | [] => cells
  | v :: l => setMany (setS cells off v) (off + 1) l
def fillL (place : Nat → Option (Nat × Nat)) (cells : List Value) : List (Nat × Value) → Option (List Value)
  | [] => some cells
  | (i, v) :: rest =>
    match place i with
    | none => none
    | some (off, size) => bif lenIs (cellsOf v) size && geL (off + size) cells then fillL place (setMany cells off (cellsOf v)) rest else none
def optK (o : Option (List Value)) (k : List Value → Prop) : Prop := match o with | some l => k l | none => False
def pairs (fr : Fr) : List (Nat × Operand) → List (Nat × Value)
  | [] => []
  | (i, x) :: l => (i, ev fr x) :: pairs fr l
def fldPlace (fs : List (Nat × Nat × Bool)) (i : Nat) : Option (Nat × Nat) := match fs[i]? with | some (o, s, _) => some (o, s) | none => none

def adA (ad : Addr) (n : Nat) : Addr := bif Nat.beq n 0 then ad else ad.add n
theorem adA_eq (ad : Addr) (n : Nat) : adA ad n = ad.add n := by
  cases n
  · simp [adA, Addr.add]
  · rfl
def mulS (i : Nat) : Nat → Nat
  | 1 => i
  | sz => i * sz
theorem mulS_eq (i sz : Nat) : mulS i sz = i * sz := by unfold mulS; split <;> simp
def idx (a : Option Addr) (len : Nat) (i : Int) (sz : Nat) (k : Addr → Prop) : Prop :=
  ∃ ad, a = some ad ∧ 0 ≤ i ∧ i < len ∧ k (ad.add (mulS i.toNat sz))
def sb (s : ByteArray) (n : Nat) : UInt8 := (s.data[n]?).getD 0
def slP (a : Option Addr) (l m sz : Nat) : Option Addr := if m = l then a else a.map (·.add (mulS l sz))
/- x[lo:hi:mx] of a slice -/
def slc (a : Option Addr) (len cap : Nat) (lo hi mx : Option Int) (sz : Nat) (k : Value → Prop) : Prop :=
  let m : Int := mx.getD cap
  let h : Int := hi.getD len
  let l : Int := lo.getD 0
  (mx = none ∨ (hi ≠ none ∧ 0 ≤ m ∧ m ≤ cap)) ∧ (hi = none ∨ (0 ≤ h ∧ h ≤ m)) ∧ (0 ≤ l ∧ l ≤ h) ∧
    k (.slice (slP a l.toNat m.toNat sz) (h.toNat - l.toNat) (m.toNat - l.toNat))
def slcS (s : ByteArray) (lo hi : Option Int) (k : Value → Prop) : Prop :=
  let h : Int := hi.getD s.size
  let l : Int := lo.getD 0
  (hi = none ∨ (0 ≤ h ∧ h ≤ s.size)) ∧ (0 ≤ l ∧ l ≤ h) ∧ k (.string (s.extract l.toNat h.toNat))
/- an optional bound, where it is an int -/
def bnd (fr : Fr) (x : Option Operand) (k : Option Int → Prop) : Prop :=
  match x with
  | none => k none
  | some x => match ev fr x with
    | .int _ n => k (some n)
    | _ => False
def optV (fr : Fr) : Option Operand → Option Value
  | none => none
  | some x => some (ev fr x)
def makeV (l c : Int) (i : TyI) (e : TypeId) (w : World) (k : Value → World → Prop) : Prop :=
  match i.zero with
  | some z => mkOk l c i.bytes ∧ new w (.cells ⟨reps l.toNat (cellsOf z)⟩ e) fun b w' => k (.slice (some ⟨b, 0, none⟩) l.toNat l.toNat) w'
  | none => False
/- a round of a loop over a function: yield -/
def yld (P : Program) (E : World → World → Prop) (l : Nat) (args : List Value) (w : World) (R : Value → World → Prop) : Prop :=
  ∃ f tmps assign body, (Instr.yield l ⟨args⟩).run P w = .ok (.round l f tmps assign body) w ∧
    RoundIn Fence.wide 0 P l f tmps assign body w fun e w' => ∃ v, e = .returned v ∧ E w w' ∧ R v w'
def tupAt (v : Value) (i : Nat) (k : Value → Prop) : Prop :=
  match v with
  | .tuple vs => (match vs.toList[i]? with | some u => k u | none => False)
  | _ => False
def fldV (v : Value) (f : Option (Nat × Nat × Bool)) (k : Value → Prop) : Prop :=
  match v, f with
  | .agg cs, some (o, s, true) => k (.agg ⟨(cs.toList.drop o).take s⟩)
  | .agg cs, some (o, _, false) => (match cs.toList[o]? with | some u => k u | none => False)
  | _, _ => False
def nextV (v : Value) (sh : Sh) (k : Value → Prop) : Prop :=
  (v = .tuple #[.bool false] ∧ k (.tuple #[.bool false])) ∨ (match sh with
    | .tup (_ :: l) => exS l fun us => v = .tuple ⟨.bool true :: us⟩ ∧ k (.tuple ⟨.bool true :: us⟩)
    | _ => False)
def app3 (first args cap : List Value) : List Value := appV first (appV args cap)
theorem app3_eq (f a c : List Value) : app3 f a c = f ++ a ++ c := by simp [app3, appV_eq]
def ifT : Bool → Prop → Prop
  | true, p => p
  | false, _ => False
theorem ifT_iff {c : Bool} {p : Prop} : ifT c p ↔ c = true ∧ p := by cases c <;> simp [ifT]
def callV (P : Program) (Fn : FuncId → Bool) (E : World → World → Prop) (f : Value) (args : List Value) (sh : Sh) (w : World) (K : Value → World → Prop) : Prop :=
  match f with
  | .func (.func g) first cap => ifT (Fn g) (RunE P E g (app3 first.toList args cap.toList) w fun v w' => sh.is v fun u => K u w')
  | .func (.yield l) first _ => yld P E l (appV first.toList args) w fun v w' => sh.is v fun u => K u w'
  | _ => False
def constsOf (args : Array Operand) : Array Bool := args.map fun | .const _ => true | _ => false
/- what a run that leaves the world alone hands back, in one world; in each world of a class -/
def rsW (P : Program) (w : World) (s : Sem Value) (k : Value → Prop) : Prop := ∃ v, s.run P w = .ok v w ∧ k v
def rsC (P : Program) (C : World → Prop) (s : Sem Value) (k : Value → Prop) : Prop := ∃ v, (∀ w, C w → s.run P w = .ok v w) ∧ k v
def ldC (C : World → Prop) (a : Addr) (i : TyI) (k : Value → Prop) : Prop :=
  match i.zero with
  | none => False
  | some z => match i.kd.isAgg, S1.of z with
    | true, .agg l => exC l fun vs => (∀ w, C w → rowAt w a 0 i.size = some vs) ∧ k (.agg ⟨vs⟩)
    | false, .one c => c.ex fun v => (∀ w, C w → w.cell? a = some v) ∧ k v
    | _, _ => False

/- an operation that reads at most -/
def stillV (P : Program) (Ty : TypeId → Option TyI) (ld : Addr → TyI → (Value → Prop) → Prop) (rs : Sem Value → (Value → Prop) → Prop) (o : Oper) (fr : Fr) (K : Value → Prop) : Prop :=
  match o.op with
  | .move x => K (ev fr x)
  | .assign x => K (ev fr x)
  | .pick c a b => (match ev fr c with | .bool t => K (match t with | true => ev fr a | false => ev fr b) | _ => False)
  | .build t ps => (match Ty t with
    | some i => (match i.zero, i.kd with
      | some z, .struct => optK (fillL (fldPlace i.flds) (cellsOf z) (pairs fr ps.toList)) fun cs => K (.agg ⟨cs⟩)
      | some z, .array _ e => (match szOfT Ty e with | some s => optK (fillL (fun k => some (k * s, s)) (cellsOf z) (pairs fr ps.toList)) fun cs => K (.agg ⟨cs⟩) | none => False)
      | _, _ => False)
    | none => False)
  | .load t x => (match ev fr x, Ty t with
    | .pointer a, some i => nn a fun ad => ld ad i K
    | _, _ => False)
  | .nilCheck x => (match ev fr x with
    | .pointer a => nn a fun ad => K (.pointer (some ad))
    | .func (.func f) first cap => K (.func (.func f) first cap)
    | .func (.yield f) first cap => K (.func (.yield f) first cap)
    | _ => False)
  | .binOp op t x y _ => binV Ty rs op t x y (ev fr x) (ev fr y) K
  | .unOp op _ x => (match op, ev fr x with
    | .not, .bool b => K (.bool (!b))
    | .neg, .int k n => intR k (0 - n) K
    | .xor, .int k n => K (.int k (bitI .xor k (if k.signed then -1 else k.max) n))
    | _, _ => False)
  | .convert s d x => (match kdOfT Ty s, kdOfT Ty d, ev fr x with
    | .int _, .int k, .int _ n => intR k n K
    | .string, .string, .string s => K (.string s)
    | _, _, _ => False)
  | .makeInterface t x => (match Ty t with | some i => (match i.kd with | .iface => False | _ => K (.iface t (ev fr x))) | none => False)
  | .makeFunc fn first cap => K (.func fn ⟨evs fr first.toList⟩ ⟨evs fr cap.toList⟩)
  | .slice t x lo hi mx => (match kdOfT Ty t, ev fr x with
    | .slice e, .slice a len cap => (match szOfT Ty e with
      | some sz => bnd fr lo fun lo => bnd fr hi fun hi => bnd fr mx fun mx => slc a len cap lo hi mx sz K
      | none => False)
    | .string, .string s => (match mx with | none => bnd fr lo fun lo => bnd fr hi fun hi => slcS s lo hi K | some _ => False)
    | _, _ => False)
  | .fieldAddr s x f => (match Ty s, ev fr x with
    | some i, .pointer a => (match i.kd, i.flds[f]? with
      | .struct, some (off, sz, _) => bif Nat.ble 1 sz then nn a fun ad => K (.pointer (some (adA ad off))) else False
      | _, _ => False)
    | _, _ => False)
  | .field t x f => (match Ty t with
    | some i => (match i.kd with | .struct => fldV (ev fr x) (i.flds[f]?) K | _ => False)
    | none => False)
  | .indexAddr t x ix => (match kdOfT Ty t, ev fr x, ev fr ix with
    | .slice e, .slice a len cap, .int _ i => (match szOfT Ty e with | some sz => idx a len i sz fun ad => K (.pointer (some ad)) | none => False)
    | .array n e, .pointer a, .int _ i => (match szOfT Ty e with | some sz => idx a n i sz fun ad => K (.pointer (some ad)) | none => False)
    | _, _, _ => False)
  | .index t x ix => (match kdOfT Ty t, ev fr x, ev fr ix with
    | .string, .string s, .int _ i => inS i s.size ∧ K (.int .u8 (sb s i.toNat).toNat)
    | _, x, y => rs (Instr.index t x y) fun v => (shT Ty o.type).is v K)
  | .extract t i => tupAt (ev fr t) i K
  | .call c => (match c.callee, evs fr c.args.toList with
    | .builtin .len, [.slice a l cap] => (match c.argTypes.toList with | t :: _ => bif slcKd (kdOfT Ty t) then K (.int .i64 l) else False | _ => False)
    | .builtin .len, [.string s] => (match c.argTypes.toList with | t :: _ => (match kdOfT Ty t with | .string => K (.int .i64 s.size) | _ => False) | _ => False)
    | .builtin .len, args => rs (Builtin.len_ c.argTypes o.type ⟨args⟩) fun v => (shT Ty o.type).is v K
    | .builtin .min, [.int k a, .int _ b] => K (.int k (if b < a then b else a))
    | .builtin .max, [.int k a, .int _ b] => K (.int k (if a < b then b else a))
    | _, _ => False)
  | _ => False
def isStill (Ty : TypeId → Option TyI) (o : Oper) : Bool :=
  match o.op with
  | .move _ | .assign _ | .pick .. | .build .. | .load .. | .nilCheck _ | .binOp .. | .unOp .. | .makeInterface .. | .makeFunc .. | .slice .. | .fieldAddr .. | .field .. | .indexAddr .. | .index .. | .extract .. => true
  | .convert s d _ => (match kdOfT Ty s, kdOfT Ty d with
    | .int _, .int _ => true
    | .string, .string => true
    | _, _ => false)
  | .call c => (match c.callee with
    | .builtin .len | .builtin .min | .builtin .max => true
    | _ => false)
  | _ => false
def biV (P : Program) (Ty : TypeId → Option TyI) (b : Builtin) (tys : Array TypeId) (ty : TypeId) (args : List Value) (w : World) (K : Value → World → Prop) : Prop :=
  match b with
  | .append => RunS P (Builtin.append_ tys ty ⟨args⟩) w fun v w' => (shT Ty ty).is v fun u => K u w'
  | .copy => RunS P (Builtin.copy_ tys ty ⟨args⟩) w fun v w' => (shT Ty ty).is v fun u => K u w'
  | .delete => RunS P (Builtin.delete_ tys ty ⟨args⟩) w fun v w' => K v w'
  | .clear => RunS P (Builtin.clear_ tys ty ⟨args⟩) w fun v w' => K v w'
  | .cap => RunS P (Builtin.cap_ tys ty ⟨args⟩) w fun v w' => (shT Ty ty).is v fun u => K u w'
  | _ => False

/- an operation that does more -/
def effV (P : Program) (Ty : TypeId → Option TyI) (Fn : FuncId → Bool) (E : World → World → Prop) (o : Oper) (fr : Fr) (w : World) (K : Value → World → Prop) : Prop :=
  match o.op with
  | .alloc t => (match Ty t with
    | some i => (match i.zero with | some z => new w (.cells ⟨cellsOf z⟩ t) fun b w' => K (.pointer (some ⟨b, 0, none⟩)) w' | none => False)
    | none => False)
  | .box t x => new w (.cells ⟨cellsOf (ev fr x)⟩ t) fun b w' => K (.pointer (some ⟨b, 0, none⟩)) w'
  | .buildSlice t n ps => (match kdOfT Ty t with
    | .slice e => (match Ty e with
      | some i => (match i.zero with
        | some z => bif lenIs (cellsOf z) i.size && (Nat.ble n 4096 && Nat.ble i.size 4096) && Nat.ble 1 i.size then optK (fillL (fun k => some (k * i.size, i.size)) (repsL n (cellsOf z)) (pairs fr ps.toList)) fun cs => new w (.cells ⟨cs⟩ e) fun b w' => K (.slice (some ⟨b, 0, none⟩) n n) w' else False
        | none => False)
      | none => False)
    | _ => False)
  | .store t a x => (match ev fr a, Ty t with
    | .pointer a, some i => nn a fun ad => stv w ad i (ev fr x) fun w' => K undef w'
    | _, _ => False)
  | .convert s d x => RunS P (Go.convert s d (ev fr x)) w fun v w' => (shT Ty d).is v fun u => K u w'
  | .makeMap t none => new w (.map #[] 0) fun b w' => K (.map (some b)) w'
  | .makeSlice t l c => (match kdOfT Ty t with
    | .slice e => (match Ty e, ev fr l, ev fr c with
      | some i, .int _ l, .int _ c => bif (match i.zero with | some z => lenIs (cellsOf z) i.size | none => false) && Nat.ble 1 i.bytes && Nat.ble 1 i.size then makeV l c i e w K else False
      | _, _, _ => False)
    | _ => False)
  | .lookup t m k ok => RunS P (Instr.lookup t (ev fr m) (ev fr k) ok) w fun v w' => (shT Ty o.type).is v fun u => K u w'
  | .mapUpdate t m k x => RunS P (Instr.mapUpdate t (ev fr m) (ev fr k) (ev fr x)) w fun _ w' => K undef w'
  | .insert t m k x => RunS P (Instr.mapUpdate t (ev fr m) (ev fr k) (ev fr x)) w fun _ w' => K undef w'
  | .mapEntry t m k => RunS P (Instr.mapEntry t (ev fr m) (ev fr k)) w fun v w' => (shT Ty o.type).is v fun u => K u w'
  | .entryStore t m s x => RunS P (Instr.entryStore t (ev fr m) (ev fr s) (ev fr x)) w fun _ w' => K undef w'
  | .range t x => RunS P (Instr.range t (ev fr x)) w fun v w' => (Sh.s (.one .ptr)).is v fun u => K u w'
  | .next it isS => RunS P (Instr.next (ev fr it) isS o.type) w fun v w' => nextV v (shT Ty o.type) fun u => K u w'
  | .typeAssert x t u ok => RunS P (Instr.typeAssert (ev fr x) t u ok) w fun v w' => (shT Ty o.type).is v fun u => K u w'
  | .call c => (match c.callee with
    | .builtin b => biV P Ty b c.argTypes o.type (evs fr c.args.toList) w K
    | .value f => callV P Fn E (ev fr f) (evs fr c.args.toList) (shT Ty o.type) w K
    | _ => False)
  | _ => False

/- one operation: K: what is next, of the value that it leaves -/
def denOp (P : Program) (Ty : TypeId → Option TyI) (Fn : FuncId → Bool) (E : World → World → Prop) (o : Oper) (fr : Fr) (w : World) (K : Value → World → Prop) : Prop :=
  bif isStill Ty o then stillV P Ty (ldv w) (rsW P w) o fr fun v => K v w else effV P Ty Fn E o fr w K

end Go.V
