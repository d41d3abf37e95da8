/- A function's code as a proposition. -/
import Derived.Test.YtcipljcagejjaaaDoorVOp
set_option linter.unusedVariables false
namespace Go.V

/- curried predicates over values of given shapes -/
def Cs.arr : Cs → Type → Type
  | .int _, β => Int → β
  | .bool, β => Bool → β
  | .str, β => ByteArray → β
  | .slice, β => Option Addr → Nat → Nat → β
  | .ptr, β => Option Addr → β
  | .map, β => Option Nat → β
  | .fn, β => FuncId → List Value → β
  | .val, β => Value → β
def arrC : List Cs → Type → Type
  | [], β => β
  | c :: l, β => c.arr (arrC l β)
def S1.arr : S1 → Type → Type
  | .one c, β => c.arr β
  | .agg l, β => arrC l β
def arrS : List S1 → Type → Type
  | [], β => β
  | c :: l, β => c.arr (arrS l β)
def Cs.cst : (c : Cs) → {β : Type} → β → c.arr β
  | .int _, _, b => fun _ => b
  | .bool, _, b => fun _ => b
  | .str, _, b => fun _ => b
  | .slice, _, b => fun _ _ _ => b
  | .ptr, _, b => fun _ => b
  | .map, _, b => fun _ => b
  | .fn, _, b => fun _ _ => b
  | .val, _, b => fun _ => b
def cstC : (l : List Cs) → {β : Type} → β → arrC l β
  | [], _, b => b
  | c :: l, _, b => c.cst (cstC l b)
def S1.cst : (c : S1) → {β : Type} → β → c.arr β
  | .one c, _, b => c.cst b
  | .agg l, _, b => cstC l b
def cstS : (l : List S1) → {β : Type} → β → arrS l β
  | [], _, b => b
  | c :: l, _, b => c.cst (cstS l b)
/- such a predicate at values (d: where they are not of the shapes) -/
def Cs.ap : (c : Cs) → {β : Type} → c.arr β → Value → β → β
  | .int k, _, f, .int k' n, d => bif Nat.beq (kx k) (kx k') then f n else d
  | .bool, _, f, .bool b, _ => f b
  | .str, _, f, .string s, _ => f s
  | .slice, _, f, .slice a l c, _ => f a l c
  | .ptr, _, f, .pointer a, _ => f a
  | .map, _, f, .map r, _ => f r
  | .fn, _, f, .func (.func g) ⟨[]⟩ ⟨c⟩, _ => f g c
  | .val, _, f, v, _ => f v
  | _, _, _, _, d => d
def apC : (l : List Cs) → {β : Type} → arrC l β → List Value → β → β
  | [], _, f, [], _ => f
  | c :: l, _, f, v :: vs, d => apC l (c.ap f v (cstC l d)) vs d
  | _, _, _, _, d => d
def S1.ap : (c : S1) → {β : Type} → c.arr β → Value → β → β
  | .one c, _, f, v, d => c.ap f v d
  | .agg l, _, f, .agg cs, d => apC l f cs.toList d
  | _, _, _, _, d => d
def apS : (l : List S1) → {β : Type} → arrS l β → List Value → β → β
  | [], _, f, [], _ => f
  | c :: l, _, f, v :: vs, d => apS l (c.ap f v (cstS l d)) vs d
  | _, _, _, _, d => d
def allS : List S1 → (List Value → Prop) → Prop
  | [], p => p []
  | c :: l, p => c.all fun v => allS l fun vs => p (v :: vs)

/- slots that a code may write -/
def dstsOf : List Oper → List Nat
  | [] => []
  | o :: l => match o.dst with | some d => d :: dstsOf l | none => dstsOf l
def app2 : List Nat → List Nat → List Nat
  | [], m => m
  | x :: l, m => x :: app2 l m
def wrs : Code → List Nat
  | .region _ ops _ => dstsOf ops.toList
  | .seq a b => app2 (wrs a) (wrs b)
  | .cond _ a b => app2 (wrs a) (wrs b)
  | .block _ a => wrs a
  | .loop a => wrs a
  | .scope a => wrs a
  | _ => []
def havoc (n : Nat) (d : Nat → Value) : List Nat → Fr → Fr
  | [], fr => fr
  | s :: l, fr => havoc n d l (put n fr (some s) (d s))
def selS (fr : Fr) : List (Nat × S1) → List Value
  | [] => []
  | (s, _) :: l => getS fr s :: selS fr l
def updS (n : Nat) (fr : Fr) : List (Nat × S1) → List Value → Fr
  | (s, _) :: l, v :: vs => updS n (put n fr (some s) v) l vs
  | _, _ => fr
def shs : List (Nat × S1) → List S1
  | [] => []
  | (_, s) :: l => s :: shs l

structure Ann where
  loops : List (Nat × List (Nat × S1)) := []
  joins : List (Nat × List (Nat × S1)) := []
  blocks : List (Nat × List (Nat × S1)) := []
  rngs : List (Nat × List (Nat × S1)) := []
def look (k : Nat) : List (Nat × List (Nat × S1)) → Option (List (Nat × S1))
  | [] => none
  | (j, x) :: l => bif Nat.beq j k then some x else look k l
/- the first region's number: it names a loop, and what is behind a joint -/
def firstR : Code → Option Nat
  | .region i _ _ => some i
  | .seq a b => (match firstR a with | some i => some i | none => firstR b)
  | .cond _ a b => (match firstR a with | some i => some i | none => firstR b)
  | .block _ a => firstR a
  | .loop a => firstR a
  | .scope a => firstR a
  | _ => none
def lookO (k : Option Nat) (l : List (Nat × List (Nat × S1))) : Option (List (Nat × S1)) := match k with | some k => look k l | none => none

/- operations in the text's order -/
def nthO : List Oper → Nat → Option Oper
  | [], _ => none
  | o :: _, 0 => some o
  | _ :: l, n + 1 => nthO l n
def dstAt (all : List Oper) (j : Nat) : Option Tmp := match nthO all j with | some o => o.dst | none => none
def bsame : Bool → Bool → Bool
  | true, true => true
  | false, false => true
  | _, _ => false
def wantK (all : List Oper) (fr : Fr) (o : Oper) (yes no : Prop) : Prop :=
  match o.guard with
  | none => yes
  | some (j, t) => match dstAt all j with
    | some d => (match getS fr d with | .bool b => bif bsame b t then yes else no | _ => no)
    | none => no
def gAny : List Oper → Nat → Bool
  | [], _ => false
  | o :: l, i => match o.guard with | some (j, _) => Nat.beq j i || gAny l i | none => gAny l i
def splitG (g : Bool) (v : Value) (k : Value → Prop) : Prop :=
  match g, v with
  | true, .bool b => bspl b fun b => k (.bool b)
  | _, v => k v
section
variable (P : Program) (Ty : TypeId → Option TyI) (Fn : FuncId → Bool) (E : World → World → Prop) (N : Nat)
def denOps (all : List Oper) : Nat → List Oper → Fr → World → (Fr → World → Prop) → Prop
  | _, [], fr, w, K => K fr w
  | i, o :: l, fr, w, K =>
    wantK all fr o (denOp P Ty Fn E o fr w fun v w' => splitG (gAny all i) v fun v => denOps all (i + 1) l (put N fr o.dst v) w' K)
      (denOps all (i + 1) l (put N fr o.dst undef) w K)

/- operations whose order is drawn: what reads is taken as soon as it may be; of the others each that may be next is -/
def bget : List Bool → Nat → Bool
  | [], _ => true
  | b :: _, 0 => b
  | _ :: l, n + 1 => bget l n
def bgetF : List Bool → Nat → Bool
  | [], _ => false
  | b :: _, 0 => b
  | _ :: l, n + 1 => bgetF l n
def bset : List Bool → Nat → List Bool
  | [], _ => []
  | _ :: l, 0 => true :: l
  | b :: l, n + 1 => b :: bset l n
def depsOk (ls : List Bool) : List Edge → Bool
  | [] => true
  | e :: l => (match e.ground with | .textOnly _ | .gcOnly _ => true | _ => bgetF ls e.on) && depsOk ls l
def rdy (ls : List Bool) (i : Nat) (o : Oper) : Bool := !bget ls i && depsOk ls o.after.toList
def firstStill (Ty : TypeId → Option TyI) (ls : List Bool) : Nat → List Oper → Option (Nat × Oper)
  | _, [] => none
  | i, o :: l => bif isStill Ty o && rdy ls i o then some (i, o) else firstStill Ty ls (i + 1) l
def rdyAll (ls : List Bool) : Nat → List Oper → List (Nat × Oper)
  | _, [] => []
  | i, o :: l => bif rdy ls i o then (i, o) :: rdyAll ls (i + 1) l else rdyAll ls (i + 1) l
def allFs (n : Nat) : List Bool := match n with | 0 => [] | n + 1 => false :: allFs n
def memN (x : Nat) : List Nat → Bool
  | [] => false
  | y :: l => Nat.beq x y || memN x l
def optL : Option Operand → List Operand → List Operand
  | none, l => l
  | some x, l => x :: l
def appO : List Operand → List Operand → List Operand
  | [], m => m
  | x :: l, m => x :: appO l m
def sndL : List (Nat × Operand) → List Operand
  | [] => []
  | (_, x) :: l => x :: sndL l
def opnds : Op → List Operand
  | .move x | .assign x | .box _ x | .load _ x | .nilCheck x | .unOp _ _ x | .convert _ _ x | .makeInterface _ x | .fieldAddr _ x _ | .field _ x _ | .range _ x | .next x _ | .typeAssert x _ _ _ | .extract x _ => [x]
  | .pick c a b => [c, a, b]
  | .build _ ps | .buildSlice _ _ ps => sndL ps.toList
  | .store _ a v | .binOp _ _ a v _ | .makeSlice _ a v | .indexAddr _ a v | .index _ a v | .lookup _ a v _ | .mapEntry _ a v => [a, v]
  | .makeFunc _ first cap => appO first.toList cap.toList
  | .slice _ x l h m => x :: optL l (optL h (optL m []))
  | .mapUpdate _ m k v | .entryStore _ m k v | .insert _ m k v => [m, k, v]
  | .call c => (match c.callee with | .value f => f :: c.args.toList | .invoke r _ => r :: c.args.toList | .builtin _ => c.args.toList)
  | o => o.operands.toList
def tmpsL : List Operand → List Nat → List Nat
  | [], m => m
  | .tmp t :: l, m => t :: tmpsL l m
  | _ :: l, m => tmpsL l m
def looks (all : List Oper) (o : Oper) : List Nat :=
  tmpsL (opnds o.op) (match o.guard with | some (g, _) => (match dstAt all g with | some d => [d] | none => []) | none => [])
def dstNot (d : Option Tmp) (l : List Nat) : Bool := match d with | some d => !memN d l | none => true
def dstNe (a b : Option Tmp) : Bool := match a, b with | some a, some b => !Nat.beq a b | _, _ => true
def apartB (all : List Oper) (x y : Oper) : Bool := dstNot x.dst (looks all y) && dstNe x.dst y.dst && dstNot y.dst (looks all x)
def waits (i : Nat) : List Edge → Bool
  | [] => false
  | e :: l => (match e.ground with | .textOnly _ | .gcOnly _ => false | _ => Nat.beq e.on i) || waits i l
def freeB (all : List Oper) (ls : List Bool) (i : Nat) (o : Oper) : Nat → List Oper → Bool
  | _, [] => true
  | j, p :: l => (Nat.beq j i || bget ls j || waits i p.after.toList || apartB all o p) && freeB all ls i o (j + 1) l
def andE : List (Nat × Oper) → (Nat × Oper → Prop) → Prop
  | [], _ => True
  | [x], f => f x
  | x :: l, f => f x ∧ andE l f
/- all that an operation waits for, one by way of another -/
def depsL : List Edge → List Nat → List Nat
  | [], m => m
  | e :: l, m => match e.ground with | .textOnly _ | .gcOnly _ => depsL l m | _ => e.on :: depsL l m
def clo (all : List Oper) : Nat → List Nat → List Nat → List Nat
  | 0, _, done => done
  | _ + 1, [], done => done
  | n + 1, j :: todo, done => match memN j done with
    | true => clo all n todo done
    | false => clo all n (match nthO all j with | some o => depsL o.after.toList todo | none => todo) (j :: done)
/- is there a reading operation that this one does not wait for? -/
def needL (Ty : TypeId → Option TyI) (cl : List Nat) : Nat → List Oper → Bool
  | _, [] => false
  | i, o :: l => (isStill Ty o && !memN i cl) || needL Ty cl (i + 1) l
def needC (Ty : TypeId → Option TyI) (all : List Oper) (es : List Edge) : Bool := needL Ty (clo all 1000 (depsL es []) []) 0 all
def cC (b : Bool) (p q : Prop) : Prop := match b with | true => p ∧ q | false => q
def drawV (C : World → Prop) (all : List Oper) (K : Fr → World → Prop) : Nat → List Bool → Fr → World → Prop
  | 0, ls, fr, w => (match rdyAll ls 0 all with | [] => K fr w | _ => False)
  | n + 1, ls, fr, w =>
    match firstStill Ty ls 0 all with
    | some (i, o) => ifT (freeB all ls i o 0 all) (
        wantK all fr o (stillV P Ty (ldC C) (rsC P C) o fr fun v => splitG (gAny all i) v fun v => drawV C all K n (bset ls i) (put N fr o.dst v) w)
          (drawV C all K n (bset ls i) (put N fr o.dst undef) w))
    | none => match rdyAll ls 0 all with
      | [] => K fr w
      | es => andE es fun x =>
          wantK all fr x.2 (effV P Ty Fn E x.2 fr w fun v w' => splitG (gAny all x.1) v fun v => cC (needC Ty all x.2.after.toList) (C w') (drawV C all K n (bset ls x.1) (put N fr x.2.dst v) w'))
            (drawV C all K n (bset ls x.1) (put N fr x.2.dst undef) w)
def noSel : List Oper → Bool
  | [] => true
  | o :: l => (match o.op with | .select .. => false | _ => true) && noSel l
def drawn (w w' : World) : Prop := w' = { w with drawn := w.drawn + 1 }
def regV (ops : List Oper) (draw : Bool) (fr : Fr) (w : World) (K : Fr → World → Prop) : Prop :=
  match draw with
  | false => denOps P Ty Fn E N ops 0 ops fr w K
  | true => ifT (noSel ops) (∀ w', drawn w w' → ∃ C : World → Prop, C w' ∧ drawV P Ty Fn E N C ops K (lenO ops) (allFs (lenO ops)) fr w')
where
  lenO : List Oper → Nat
    | [] => 0
    | _ :: l => Nat.succ (lenO l)

def loopV (n : Nat) (lv : List (Nat × S1)) (ws : List Nat) (fr : Fr) (w : World) (body : Fr → World → (Fr → World → Prop) → Prop) : Prop :=
  ∃ (I : arrS (shs lv) (World → Prop)) (m : arrS (shs lv) (World → Nat)),
    apS (shs lv) I (selS fr lv) (fun _ => False) w ∧
    ∀ (d : Nat → Value), allS (shs lv) fun vs => ∀ w, apS (shs lv) I vs (fun _ => False) w →
      body (updS n (havoc n d ws fr) lv vs) w fun fr' w' =>
        apS (shs lv) I (selS fr' lv) (fun _ => False) w' ∧ apS (shs lv) m (selS fr' lv) (fun _ => 0) w' < apS (shs lv) m vs (fun _ => 0) w
def joinV (n : Nat) (lv : List (Nat × S1)) (ws : List Nat) (fr : Fr) (a : (Fr → World → Prop) → Prop) (b : Fr → World → Prop) : Prop :=
  ∃ J : arrS (shs lv) (World → Prop), a (fun fr' w' => apS (shs lv) J (selS fr' lv) (fun _ => False) w') ∧
    ∀ (d : Nat → Value), allS (shs lv) fun vs => ∀ w, apS (shs lv) J vs (fun _ => False) w → b (updS n (havoc n d ws fr) lv vs) w

/- a loop over a function's values -/
def hasRF : Code → Bool
  | .rangeFunc .. => true
  | .seq a b => hasRF a || hasRF b
  | .cond _ a b => hasRF a || hasRF b
  | .block _ a => hasRF a
  | .loop a => hasRF a
  | .scope a => hasRF a
  | _ => false
def Sup (M L : List Asn) : Prop := ∀ h, starL M h → starL L h
/- a function that goes over these values: what it has: D; what it reads besides: Q -/
def Itr (P : Program) (g : FuncId) (first cap : List Value) (D Q : Asn) (xs : List (List Value)) : Prop :=
  ∀ (l : Nat) (E : World → World → Prop), EOk E → ∀ (J : Nat → Asn) (Jx : Asn) (L : List Asn) (w0 : World), St w0 (J 0 :: D :: L) → (∀ h, starL L h → Q h) →
    (∀ i as, xs[i]? = some as → ∀ M w, Sup M L → St w (J i :: M) → yld P E l as w fun v w' => (v = .bool true ∧ St w' (J (i + 1) :: M)) ∨ (v = .bool false ∧ St w' (Jx :: M))) →
    RunE P E g (app3 first [.func (.yield l) #[] #[]] cap) w0 fun _ w' => St w' (J xs.length :: D :: L) ∨ St w' (Jx :: D :: L)
def sameN : List Nat → List (Nat × S1) → Bool
  | [], [] => true
  | a :: l, (b, _) :: m => Nat.beq a b && sameN l m
  | _, _ => false
def exitsOf : Code → List Nat
  | .exit i => [i]
  | .seq a b => app2 (exitsOf a) (exitsOf b)
  | .cond _ a b => app2 (exitsOf a) (exitsOf b)
  | .block i a => delN i (exitsOf a)
  | .loop a => exitsOf a
  | .scope a => exitsOf a
  | _ => []
where delN (i : Nat) : List Nat → List Nat
  | [] => []
  | j :: l => bif Nat.beq j i || memN j l then delN i l else j :: delN i l
def allE : List Nat → (Nat → Prop) → Prop
  | [], _ => True
  | [j], p => p j
  | j :: l, p => p j ∧ allE l p
def rngV (P : Program) (g : FuncId) (first cap : List Value) (sh : List S1) (exs : List Nat) (w : World)
    (asg : List Value → World → (Fr → World → Prop) → Prop)
    (bd : Fr → World → (World → Prop) → (World → Prop) → (Nat → World → Prop) → Prop) (n r : World → Prop) (x : Nat → World → Prop) : Prop :=
  ∃ (xs : List (List Value)) (D Q : Asn) (J : Nat → Asn) (Jr : Asn) (Jx : Nat → Asn) (L : List Asn), St w (J 0 :: D :: L) ∧ (∀ h, starL L h → Q h) ∧ Itr P g first cap D Q xs ∧
    (∀ as, as ∈ xs → exS sh fun vs => as = vs) ∧
    (∀ i, allS sh fun vs => xs[i]? = some vs → ∀ L' w, Sup L' L → St w (J i :: L') →
      asg vs w fun fr1 w1 => ∃ M : Asn, St w1 (M :: L') ∧ ∀ L' w, Sup L' L → St w (M :: L') →
        bd fr1 w (fun w' => St w' (J (i + 1) :: L')) (fun w' => St w' (Jr :: L')) (fun j w' => ifT (memN j exs) (St w' (Jx j :: L')))) ∧
    (∀ w', St w' (J xs.length :: D :: L) → n w') ∧ (∀ w', St w' (Jr :: D :: L) → r w') ∧ allE exs fun j => ∀ w', St w' (Jx j :: D :: L) → x j w'
def den (A : Ann) : Code → Fr → World → (Fr → World → Prop) → (Fr → World → Prop) → (Nat → Fr → World → Prop) → Prop
  | .skip, fr, w, n, r, x => n fr w
  | .region _ ops draw, fr, w, n, r, x => regV P Ty Fn E N ops.toList draw fr w n
  | .seq a b, fr, w, n, r, x =>
    (match lookO (firstR b) A.joins with
    | some lv => joinV N lv (wrs a) fr (fun n' => den A a fr w n' r x) (fun fr w => den A b fr w n r x)
    | none => den A a fr w (fun fr w => den A b fr w n r x) r x)
  | .cond c a b, fr, w, n, r, x => brV (ev fr c) (den A a fr w n r x) (den A b fr w n r x)
  | .block i a, fr, w, n, r, x =>
    (match look i A.blocks with
    | some lv => joinV N lv (wrs a) fr (fun n' => den A a fr w n' r fun j fr w => bif Nat.beq j i then n' fr w else x j fr w) n
    | none => den A a fr w n r fun j fr w => bif Nat.beq j i then n fr w else x j fr w)
  | .loop a, fr, w, n, r, x =>
    (match lookO (firstR a) A.loops with
    | some lv => loopV N lv (wrs a) fr w fun fr w n' => den A a fr w n' r x
    | none => False)
  | .exit i, fr, w, n, r, x => x i fr w
  | .ret, fr, w, n, r, x => r fr w
  | .label _, fr, w, n, r, x => n fr w
  | .rangeFunc f ps a b, fr, w, n, r, x =>
    ifT (!hasRF a && !hasRF b) (match ev fr f, lookO (firstR (.seq a b)) A.rngs with
      | .func (.func g) first cap, some lv => ifT (sameN ps.toList lv) (ifT (Fn g)
        (rngV P g first.toList cap.toList (shs lv) (exitsOf b) w
          (fun vs w K => den A a (updS N fr lv vs) w K (fun _ _ => False) (fun _ _ _ => False))
          (fun fr1 w n' r' x' => den A b fr1 w (fun _ w => n' w) (fun _ w => r' w) (fun j _ w => x' j w)) (n fr) (r fr) (fun j => x j fr)))
      | _, _ => False)
  | _, fr, w, n, r, x => False
end

/- a function's results -/
def resV (P : Program) (Ty : TypeId → Option TyI) (rs : List ResultVar) (fr : Fr) (w : World) (R : Value → Prop) : Prop :=
  let rec go : List ResultVar → (List Value → Prop) → Prop
    | [], k => k []
    | .tmp t :: l, k => go l fun vs => k (getS fr t :: vs)
    | .cell a t :: l, k => (match getS fr a, Ty t with
      | .pointer a, some i => nn a fun ad => ldv w ad i fun v => go l fun vs => k (v :: vs)
      | _, _ => False)
  go rs fun vs => match vs with | [v] => R v | vs => R (.tuple ⟨vs⟩)
def numS : Nat → List Value → Fr
  | _, [] => []
  | i, v :: l => (i, v) :: numS (i + 1) l
/- what a function hands back; where it holds a loop over a function, blocks for deferred calls are shut yet -/
def retV (c : Code) (R : Value → World → Prop) (v : Value) (w : World) : Prop := bif hasRF c then ∀ w2, hp w2 = hp w → R v w2 else R v w
def fnV (P : Program) (Ty : TypeId → Option TyI) (Fn : FuncId → Bool) (E : World → World → Prop) (A : Ann) (fn : Func) (args : List Value) (w : World) (R : Value → World → Prop) : Prop :=
  match fn.body with
  | some c => bif leL args fn.ntmps then
      den P Ty Fn E fn.ntmps A c (numS 0 args) w (fun fr w => resV P Ty fn.results.toList fr w fun v => retV c R v w) (fun fr w => resV P Ty fn.results.toList fr w fun v => retV c R v w) (fun _ _ _ => False)
    else False
  | none => False
end Go.V
