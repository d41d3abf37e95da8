/- Texts of this claim, one behind the other. -/
import Derived.RangeFuncIn
import Derived.RangeFuncLeaves
import Derived.TacticsIn
import Derived.Deep.Quiet
import Derived.Laws.Sem
import Derived.Laws.Cells
import Derived.KernelRfl
import Derived.IntWalk
import Derived.Laws.Slices
import Derived.OrdersIn
import Derived.RangeFuncRecord
import Derived.Deep.AppendSrc
import Derived.Test.YtndaepmjkbmjmaaGreatDoorProg
set_option linter.unusedVariables false
set_option linter.unusedSectionVars false
set_option maxRecDepth 100000
set_option maxHeartbeats 16000000
abbrev Go.aa3:=Option Go.Addr
abbrev Go.aa4:=Go.World
namespace Go
abbrev YR := @of_decide_eq_true
abbrev YS := @of_decide_eq_false
abbrev YT := @List.getElem?_eq_some_iff
abbrev YU := @List.getElem?_eq_getElem
abbrev YV := @List.mem_of_getElem?
abbrev YW := @List.getElem?_map
abbrev YX := @List.getD_eq_getElem?_getD
abbrev YY := @List.mem_append
abbrev YZ := @if_neg
abbrev Y0 := @List.length_append
abbrev Y2 := @List.take_add_one
abbrev Y3 := @List.length_map
abbrev Y4 := @Nat.zero_le
abbrev Y5 := @if_pos
abbrev Y6 := @List.append_assoc
abbrev Y7 := @decide_eq_true_eq
abbrev Y8 := @List.getElem?_append_left
abbrev Y9 := @List.eq_nil_of_length_eq_zero
abbrev Y_ := @List.getElem?_append_right
abbrev Za := @Int.toNat_natCast
abbrev Zb := @List.take_of_length_le
abbrev Zc := @Nat.le_refl
abbrev Zd := @Bool.and_eq_true
abbrev Ze := @List.mem_cons
abbrev Zf := @List.getElem?_eq_none
abbrev Zg := @List.map_append
abbrev Zh := @List.mem_map
abbrev Zi := @List.take_length
abbrev Zj := @List.length_take
abbrev Zk := @List.take_append_drop
abbrev Zl := @List.mem_singleton
abbrev Zm := @List.append_nil
abbrev Zn := @List.length_set
abbrev Zo := @List.mem_range
abbrev Zp := @decide_eq_true
abbrev Zq := @Nat.le_trans
abbrev Zr := @List.getElem?_of_mem
abbrev Zs := @List.filter_append
abbrev Zt := @List.length_filter_le
abbrev Zu := @decide_eq_false
abbrev Zv := @List.getElem?_drop
abbrev Zw := @List.flatMap_cons
abbrev Zx := @Int.natCast_nonneg
abbrev Zy := @List.drop_eq_getElem_cons
abbrev Zz := @List.nil_append
abbrev ZA := @List.mem_filter
abbrev ZB := @List.flatMap_append
abbrev ZC := @List.length_cons
abbrev ZD := @Array.getElem?_toList
abbrev ZE := @List.nodup_append
abbrev ZF := @List.map_cons
abbrev ZG := @Array.getElem?_eq_some_iff
abbrev ZH := @List.nodup_iff_pairwise_ne
abbrev ZI := @Bool.eq_iff_iff
abbrev ZJ := @List.length_nil
abbrev ZK := @List.ext_getElem?
abbrev ZL := @decide_eq_false_iff_not
abbrev ZM := @List.map_set
abbrev ZN := @List.getElem?_set
abbrev ZO := @List.pairwise_map
abbrev ZP := @List.map_congr_left
abbrev ZQ := @List.perm_middle
abbrev ZR := @List.nodup_cons
abbrev ZS := @Nat.add_sub_cancel_left
abbrev ZT := @List.getElem?_take
abbrev ZU := @List.pairwise_cons
abbrev ZV := @Nat.zero_add
abbrev ZW := @Array.getElem?_modify
abbrev ZX := @List.length_range
abbrev ZY := @Option.map_some
abbrev ZZ := @Bool.or_eq_true
abbrev Z0 := @Nat.sub_self
abbrev Z1 := @List.range_succ
abbrev Z2 := @List.getElem?_replicate
abbrev Z3 := @Classical.byContradiction
abbrev Z4 := @Nat.mul_one
abbrev Z5 := @List.filter_congr
abbrev Z6 := @Option.toList_some
abbrev Z7 := @List.length_replicate
abbrev Z8 := @List.getElem?_range
abbrev Z9 := @List.length_drop
abbrev Z_ := @List.filter_cons
abbrev aaa := @List.mem_flatMap
abbrev aab := @List.drop_of_length_le
abbrev aac := @List.mem_of_mem_drop
abbrev aad := @Array.getElem?_setIfInBounds_ne
abbrev aae := @List.set_append_right
abbrev aaf := @List.any_eq_true
abbrev aag := @Bool.not_eq_true'
abbrev aah := @Nat.mul_le_mul_right
abbrev aai := @List.exists_mem_of_ne_nil
abbrev aaj := @List.filter_eq_nil_iff
abbrev aak := @Nat.min_eq_left
abbrev aal := @List.filter_cons_of_pos
abbrev aam := @List.filter_cons_of_neg
abbrev aan := @Array.ext'
abbrev aao := @Nat.succ_mul
abbrev aap := @List.getElem?_set_self
abbrev aaq := @List.mem_or_eq_of_mem_set
abbrev aar := @List.replicate_succ
abbrev aas := @List.length_pos_iff
abbrev aat := @List.contains_iff_mem
abbrev aau := @List.getElem?_zipWith
abbrev aav := @Bool.false_eq_true
abbrev aaw := @Ne.symm
abbrev aax := @Nat.le_of_not_lt
abbrev aay := @List.map_map
abbrev aaz := @Bool.true_and
abbrev aaA := @beq_eq_false_iff_ne
abbrev aaB := @Nat.eq_of_beq_eq_true
abbrev aaC := @List.Perm.append_left
abbrev aaD := @List.all_eq_true
abbrev aaE := @Option.isSome_iff_exists
abbrev aaF := @Nat.lt_of_lt_of_le
abbrev aaG := @Nat.mul_le_mul
abbrev aaH := @List.mem_cons_of_mem
abbrev aaI := @List.mem_append_left
abbrev aaJ := @List.getElem?_set_ne
abbrev aaK := @List.getElem?_cons_zero
abbrev aaL := @List.getElem?_cons_succ
abbrev aaM := @List.all_append
abbrev aaN := @List.idxOf_lt_length_of_mem
abbrev aaO := @List.mem_map_of_mem
abbrev aaP := @Option.map_eq_some_iff
abbrev aaQ := @Nat.add_comm
abbrev aaR := @beq_iff_eq
abbrev aaS := @List.append_of_mem
abbrev aaT := @List.length_singleton
abbrev aaU := @List.set_cons_zero
abbrev aaV := @Nat.pos_of_ne_zero
abbrev aaW := @List.pairwise_iff_getElem
abbrev aaX := @List.getLast?_eq_getElem?
abbrev aaY := @Bool.or_eq_false_iff
abbrev aaZ := @List.pairwise_append
abbrev aa0 := @List.mem_of_mem_take
abbrev aa1 := @List.sum_cons
abbrev aa2 := @Array.length_toList
end Go
namespace Go.V
end Go.V
namespace Go.Proofs.YtndaepmjkbmjmaaGreatDoor
end Go.Proofs.YtndaepmjkbmjmaaGreatDoor
open Go.V Go.Proofs.YtndaepmjkbmjmaaGreatDoor
namespace Go.Proofs.YtndaepmjkbmjmaaGreatDoor
abbrev ν:=Nat->Value
theorem ω {p:Prop} (h:p:=by omega):p:=h
theorem σ {p:Prop} (h:p:=by simp):p:=h
inductive Cs where
 | int (k:IntKind) | bool | str | slice | ptr | map | fn | val
 deriving Inhabited
inductive S1 where
 | one (c:Cs) | agg (l:List Cs)
 deriving Inhabited
inductive Sh where
 | s (x:S1) | tup (l:List S1)
 deriving Inhabited
def Cs.ex:Cs->(Value->Prop)->Prop
 | .int k,p=>∃ n:Int,p (.int k n)
 | .bool,p=>∃ b:Bool,p (.bool b)
 | .str,p=>∃ s:ByteArray,p (.string s)
 | .slice,p=>∃ (a:aa3) (l c:Nat),p (.slice a l c)
 | .ptr,p=>∃ a:aa3,p (.pointer a)
 | .map,p=>∃ r:Option Nat,p (.map r)
 | .fn,p=>∃ (g:FuncId) (c:List Value),p (.func (.func g) #[] ⟨c⟩)
 | .val,p=>∃ v:Value,p v
def Cs.all:Cs->(Value->Prop)->Prop
 | .int k,p=>∀ n:Int,p (.int k n)
 | .bool,p=>∀ b:Bool,p (.bool b)
 | .str,p=>∀ s:ByteArray,p (.string s)
 | .slice,p=>∀ (a:aa3) (l c:Nat),p (.slice a l c)
 | .ptr,p=>∀ a:aa3,p (.pointer a)
 | .map,p=>∀ r:Option Nat,p (.map r)
 | .fn,p=>∀ (g:FuncId) (c:List Value),p (.func (.func g) #[] ⟨c⟩)
 | .val,p=>∀ v:Value,p v
def WG:List Cs->(List Value->Prop)->Prop
 | [],p=>p []
 | c :: l,p=>c.ex λv=>WG l λvs=>p (v :: vs)
def Sj:List Cs->(List Value->Prop)->Prop
 | [],p=>p []
 | c :: l,p=>c.all λv=>Sj l λvs=>p (v :: vs)
def S1.ex:S1->(Value->Prop)->Prop
 | .one c,p=>c.ex p
 | .agg l,p=>WG l λvs=>p (.agg ⟨vs⟩)
def S1.all:S1->(Value->Prop)->Prop
 | .one c,p=>c.all p
 | .agg l,p=>Sj l λvs=>p (.agg ⟨vs⟩)
def UX:List S1->(List Value->Prop)->Prop
 | [],p=>p []
 | c :: l,p=>c.ex λv=>UX l λvs=>p (v :: vs)
def Sh.ex:Sh->(Value->Prop)->Prop
 | .s x,p=>x.ex p
 | .tup l,p=>UX l λvs=>p (.tuple ⟨vs⟩)
def Sh.is (sh:Sh) (v:Value) (k:Value->Prop):Prop:=sh.ex λu=>v = u/\k u
theorem Cs.lr {c:Cs} {p:Value->Prop} (h:c.ex p):∃ v,p v:=by
 cases c <;> simp only [Cs.ex] at h
 case slice=>obtain ⟨a,l,c,h⟩:=h; exact ⟨_,h⟩
 case fn=>obtain ⟨a,l,h⟩:=h; exact ⟨_,h⟩
 all_goals (obtain ⟨a,h⟩:=h; exact ⟨_,h⟩)
theorem CM {l:List Cs}:∀ {p:List Value->Prop},WG l p->∃ v,v.length = l.length/\p v:=by
 induction l with
 | nil=>exact λh=>⟨[],rfl,h⟩
 | cons c l ih=>intro p h; obtain ⟨v,h⟩:=Cs.lr h; obtain ⟨vs,u,h⟩:=ih h; exact ⟨v :: vs,by simp [u],h⟩
theorem S1.lr {c:S1} {p:Value->Prop} (h:c.ex p):∃ v,p v:=by
 cases c with
 | one c=>exact Cs.lr h
 | agg l=>obtain ⟨vs,_,h⟩:=CM h; exact ⟨_,h⟩
theorem CN {l:List S1}:∀ {p:List Value->Prop},UX l p->∃ v,p v:=by
 induction l with
 | nil=>exact λh=>⟨[],h⟩
 | cons c l ih=>intro p h; obtain ⟨v,h⟩:=S1.lr h; obtain ⟨vs,h⟩:=ih h; exact ⟨v :: vs,h⟩
theorem Sh.lr {c:Sh} {p:Value->Prop} (h:c.ex p):∃ v,p v:=by
 cases c with
 | s c=>exact S1.lr h
 | tup l=>obtain ⟨vs,h⟩:=CN h; exact ⟨_,h⟩
theorem Sh.eH {sh:Sh} {v:Value} {k:Value->Prop} (h:sh.is v k):k v:=by
 obtain ⟨u,rfl,h⟩:=Sh.lr h; exact h
inductive Kd where
 | bool | int (k:IntKind) | string | slice (e:TypeId) | ptr (e:TypeId) | map (k e:TypeId) | struct | array (n:Nat) (e:TypeId) | func | iface | tuple | other
 deriving Inhabited
def fb:TypeDesc->Kd
 | .bool=>.bool | .int k=>.int k | .string=>.string | .slice e=>.slice e | .pointer e=>.ptr e | .map k e=>.map k e
 | .struct _=>.struct | .array n e=>.array n e | .func ..=>.func | .interface _=>.iface | .tuple _=>.tuple | _=>.other
def Cs.of:Value->Cs
 | .int k _=>.int k | .bool _=>.bool | .string _=>.str | .slice ..=>.slice | .pointer _=>.ptr | .map _=>.map | .nilFunc=>.fn | _=>.val
def S1.of:Value->S1
 | .agg cs=>.agg (cs.toList.map Cs.of)
 | v=>.one (Cs.of v)
structure dg where
 kd:Kd
 size:Nat
 bytes:Nat
 zero:Option Value
 flds:List (Nat × Nat × Bool)      -- offset,size,is the field's type a struct or an array
 tup:List S1
 cmp:Bool:=false
 deriving Inhabited
def Kd.isAgg:Kd->Bool
 | .struct | .array ..=>true
 | _=>false
def zI (P:Program):TypeDesc->Bool
 | .struct fs=>fs.toList.all λf=>(P.info? f.type).isSome && (P.underlying f.type).isSome
 | _=>true
def XJ (P:Program) (t:TypeId):Option dg :=
  match P.info? t,P.underlying t with
  | some i,some d=>bif zI P d then some
    { kd:=fb d,size:=i.size,bytes:=i.bytes,zero:=i.zero,cmp:=i.comparable
      flds:=match d with
        | .struct fs=>fs.toList.map λf=>(f.offset,P.cellsOf f.type,match P.underlying f.type with | some (.struct _) | some (.array ..)=>true | _=>false)
        | _=>[]
      tup:=match d with
        | .tuple ts=>ts.toList.map λe=>S1.of (((P.info? e).bind (·.zero)).getD undef)
        | _=>[] } else none
  | _,_=>none
def dP (P:Program) (Ty:TypeId->Option dg):Prop:=∀ t i,Ty t = some i->∃ c,XJ P t = some { i with cmp:=c }
def OT:List (TypeId × dg)->TypeId->Option dg
 | [],_=>none
 | (t,i) :: l,u=>bif Nat.beq t u then some i else OT l u
theorem Sk {P:Program} {l:List (TypeId × dg)} (h:l.map (λx=>XJ P x.1) = l.map (λx=>some x.2)):dP P (OT l):=by
 intro t i hi
 induction l with
 | nil=>simp [OT] at hi
 | cons x l ih =>
  obtain ⟨u,j⟩:=x;simp only [ZF,List.cons.injEq] at h;simp only [OT,Bool.cond_eq_ite] at hi
  by_cases z:Nat.beq u t = true
  ·rw [Y5 z] at hi; cases hi; rw [<- aaB z]; exact ⟨i.cmp,h.1⟩
  ·rw [YZ z] at hi; exact ih h.2 hi
def Yr (Ty:TypeId->Option dg):TypeId->Option dg:=λt=>match Ty t with
 | some i=>some { i with cmp:=false }
 | none=>none
def L0 (Ty:TypeId->Option dg) (t:TypeId):Sh :=
 match Ty t with
 | some i=>match i.kd with | .tuple=>.tup i.tup | _=>(match i.zero with | some z=>.s (S1.of z) | none=>.s (.one .val))
 | none=>.s (.one .val)
structure Ev (w w' : aa4):Prop where
 os:w'.os = w.os
 tape:w'.tape = w.tape
 output:w'.output = w.output
 size:w.heap.size<=w'.heap.size
 dfr:∀ (b:Nat) (d:Option (List Deferred)),w.heap[b]? = some (Obj.deferred d)->w'.heap[b]? = some (Obj.deferred d)
 lop:∀ (b:Nat) (d:Loop),w.heap[b]? = some (Obj.loop d)->w'.heap[b]? = some (Obj.loop d)
theorem Ev.refl (w:aa4):Ev w w:=⟨rfl,rfl,rfl,Zc _,λ_ _ h=>h,λ_ _ h=>h⟩
theorem Ev.trans {a b c:aa4} (h:Ev a b) (k:Ev b c):Ev a c :=
 ⟨k.os.trans h.os,k.tape.trans h.tape,k.output.trans h.output,Zq h.size k.size,λx d u=>k.dfr x d (h.dfr x d u),λx d u=>k.lop x d (h.lop x d u)⟩
theorem Ev.drew (w:aa4) (n:Nat):Ev w { w with drawn:=n }:=⟨rfl,rfl,rfl,Zc _,λ_ _ h=>h,λ_ _ h=>h⟩
theorem Ev.push (w:aa4) (o:Obj):Ev w { w with heap:=w.heap.push o }:=by
 refine ⟨rfl,rfl,rfl,σ,?_,?_⟩ <;>
 ·intro b d h;have u:b < w.heap.size:=(ZG.1 h).1;simp only [Array.getElem?_push]; rw [YZ ω]; exact h
theorem Ev.setCell (w:aa4) (a:Addr) (v:Value):Ev w (w.setCell a v):=by
 refine ⟨rfl,rfl,rfl,by simp [World.setCell],?_,?_⟩ <;>
 ·intro b d h;simp only [World.setCell,ZW]
  split
  ·rename_i e; subst e; simp [h]
  ·exact h
structure Gx (E:aa4->aa4->Prop):Prop where
 trans:∀ {a b c:aa4},E a b->E b c->E a c
 ofEv:∀ a b:aa4,Ev a b->E a b
 dfr:∀ {a b:aa4},E a b->∀ (k:Nat) (d:Option (List Deferred)),a.heap[k]? = some (Obj.deferred d)->b.heap[k]? = some (Obj.deferred d)
 size:∀ {a b:aa4},E a b->a.heap.size<=b.heap.size
theorem XK:Gx Ev:=⟨λh k=>h.trans k,λ_ _ h=>h,λh k d u=>h.dfr k d u,λh=>h.size⟩
def vt (P:Program) (E:aa4->aa4->Prop) (f:FuncId) (args:List Value) (w:aa4) (R:Value->aa4->Prop):Prop :=
 Calls P f ⟨args⟩ w λa b=>∃ c,a = .returned c/\E w b/\R c b
abbrev aA (P:Program) (f:FuncId) (args:List Value) (w:aa4) (R:Value->aa4->Prop):Prop:=vt P Ev f args w R
theorem aA.mono {P:Program} {f:FuncId} {args:List Value} {w:aa4} {R R' : Value->aa4->Prop} (h:aA P f args w R) (hr:∀ v w',R v w'->R' v w'):aA P f args w R' :=
 Calls.mono h λ_ _ ⟨v,G,z,u⟩=>⟨v,G,z,hr _ _ u⟩
theorem vt.mono {P:Program} {E:aa4->aa4->Prop} {f:FuncId} {args:List Value} {w:aa4} {R R' : Value->aa4->Prop} (h:vt P E f args w R) (hr:∀ v w',R v w'->R' v w'):vt P E f args w R' :=
 Calls.mono h λ_ _ ⟨v,G,z,u⟩=>⟨v,G,z,hr _ _ u⟩
theorem aA.YA {P:Program} {E:aa4->aa4->Prop} (hE:Gx E) {f:FuncId} {args:List Value} {w:aa4} {R:Value->aa4->Prop} (h:aA P f args w R):vt P E f args w R :=
 Calls.mono h λ_ _ ⟨v,G,u,z⟩=>⟨v,G,hE.ofEv _ _ u,z⟩
def bf {α : Type} (P:Program) (s:Sem α) (w:aa4) (R:α->aa4->Prop):Prop :=
 ∃ v w',s.run P w = .ok v w'/\Ev w w'/\R v w'
theorem bf.mono {α : Type} {P:Program} {s:Sem α} {w:aa4} {R R' : α->aa4->Prop} (h:bf P s w R) (hr:∀ v w',R v w'->R' v w'):bf P s w R' :=
 let ⟨v,w',G,u,z⟩:=h; ⟨v,w',G,u,hr _ _ z⟩
abbrev Fr:=List (Nat × Value)
def ew:Fr->Nat->Value
 | [],_=>undef
 | (d,v) :: l,t=>bif Nat.beq d t then v else ew l t
def put (n:Nat) (fr:Fr):Option Tmp->Value->Fr
 | some d,v=>bif Nat.ble (d + 1) n then (d,v) :: fr else fr
 | none,_=>fr
def ev (fr:Fr):Operand->Value
 | .tmp t=>ew fr t
 | .const v=>v
 | .global g=>.pointer (some ⟨g,0,none⟩)
 | .func f=>.func (.func f) #[] #[]
def zJ (fr:Fr):List Operand->List Value
 | []=>[]
 | x :: l=>ev fr x :: zJ fr l
theorem CO (fr:Fr):∀ l,zJ fr l = l.map (ev fr)
 | []=>rfl
 | x :: l=>by simp [zJ,CO fr l]
def a_ (n:Nat) (fr:Fr) (ds:List Deferred):Act:={ tmps:=⟨(List.range n).map (ew fr)⟩,defers:=ds }
def Fits (n:Nat) (fr:Fr):Prop:=∀ t,n<=t->ew fr t = undef
theorem u9 (n:Nat) (fr:Fr) (ds:List Deferred) (hf:Fits n fr) (t:Nat):(a_ n fr ds).tmps.getD t undef = ew fr t:=by
 by_cases h:t < n
 ·simp [a_,h]
 ·simp [a_,h,hf t ω]
theorem Ku (n:Nat) (fr:Fr) (ds:List Deferred) (hf:Fits n fr) (x:Operand):(a_ n fr ds).eval x = ev fr x:=by
 cases x with
 | tmp t=>exact u9 n fr ds hf t
 | _=>rfl
theorem L3 (n:Nat) (fr:Fr) (ds:List Deferred) (hf:Fits n fr):(a_ n fr ds).eval = ev fr:=funext (Ku n fr ds hf)
theorem zK (d:Nat) (v:Value) (l:Fr) (t:Nat):ew ((d,v) :: l) t = if d = t then v else ew l t:=by
 simp only [ew,Bool.cond_eq_ite]
 by_cases h:d = t
 ·subst h; simp
 ·rw [YZ h,YZ]; simpa using h
theorem H4 (n:Nat) (fr:Fr) (d:Nat) (v:Value):put n fr (some d) v = if d < n then (d,v) :: fr else fr:=by
 simp only [put,Bool.cond_eq_ite,Nat.ble_eq]; rfl
theorem ya {n:Nat} {fr:Fr} (hf:Fits n fr) (d:Option Tmp) (v:Value):Fits n (put n fr d v):=by
 cases d with
 | none=>exact hf
 | some d =>
  rw [H4]
  split
  ·intro t ht; rw [zK,YZ ω]; exact hf t ht
  ·exact hf
theorem lu (n:Nat) (fr:Fr) (d:Nat) (v:Value) (t:Nat):ew (put n fr (some d) v) t = if d = t/\d < n then v else ew fr t:=by
 rw [H4]
 by_cases h:d < n
 ·rw [Y5 h,zK]; simp [h]
 ·rw [YZ h]; simp [h]
theorem Gy (n:Nat) (fr:Fr) (ds:List Deferred) (d:Option Tmp) (v:Value):(a_ n fr ds).put d v = a_ n (put n fr d v) ds:=by
 cases d with
 | none=>rfl
 | some d =>
  simp only [Act.put,a_,Act.mk.injEq,and_true];apply aan;apply ZK;intro i;simp only [Array.toList_setIfInBounds,ZN,YW,Y3,ZX]
  by_cases hi:i < n
  ·simp only [Z8 hi,ZY,lu]
   by_cases u:d = i
   ·subst u; simp [hi]
   ·simp [u]
  ·rw [Zf (by simpa using hi)]
   by_cases u:d = i
   ·subst u; simp [hi]
   ·simp [u]
theorem Bf {n:Nat} {fr fr' : Fr} (ds:List Deferred) (h:∀ t,t < n->ew fr t = ew fr' t):a_ n fr ds = a_ n fr' ds:=by
 simp only [a_,Act.mk.injEq,and_true];congr 1;exact ZP λt ht=>h t (by simpa using ht)
def br:Bool->Prop->Prop->Prop
 | true,a,_=>a
 | false,_,b=>b
theorem ae {c:Bool} {a b:Prop} (h1:c = true->a) (h2:c = false->b):br c a b:=by
 cases c
 ·exact h2 rfl
 ·exact h1 rfl
def XL (v:Value) (a b:Prop):Prop:=match v with | .bool c=>br c a b | _=>False
def WR (c:Bool) (k:Bool->Prop):Prop:=br c (k true) (k false)
theorem Nr {c:Bool} {k:Bool->Prop} (h:WR c k):k c:=by cases c <;> exact h
def nn (a:aa3) (k:Addr->Prop):Prop:=match a with | some x=>k x | none=>False
def ax (z:Int):Prop:=-9223372036854775808<=z/\z<=9223372036854775807
def YB (z:Int):Int:=IntKind.i64.wrap z
theorem L4 {z:Int} (h:ax z):IntKind.i64.wrap z = z:=IntWalk.i64_in z ⟨h.1,h.2⟩
def Gz:List Value->Nat->Value->List Value
 | [],_,_=>[]
 | _ :: l,0,v=>v :: l
 | x :: l,n + 1,v=>x :: Gz l n v
theorem L5:∀ (l:List Value) (n:Nat) (v:Value),Gz l n v = l.set n v
 | [],_,_=>rfl
 | _ :: _,0,_=>rfl
 | x :: l,n + 1,v=>by simp [Gz,L5 l n v]
def rowAt (w:aa4) (a:Addr) (i:Nat):Nat->Option (List Value)
 | 0=>some []
 | n + 1=>match w.cell? (a.add i),rowAt w a (i + 1) n with
  | some v,some vs=>some (v :: vs)
  | _,_=>none
def WH (w:aa4) (a:Addr) (i:dg) (k:Value->Prop):Prop :=
 match i.zero with
 | none=>False
 | some z=>match i.kd.isAgg,S1.of z with
  | true,.agg l=>WG l λvs=>rowAt w a 0 i.size = some vs/\k (.agg ⟨vs⟩)
  | false,.one c=>c.ex λv=>w.cell? a = some v/\k v
  | _,_=>False
def aG:Value->Bool
 | .agg _ | .tuple _=>false
 | _=>true
def cO (w:aa4) (a:Addr) (i:Nat):List Value->aa4
 | []=>w
 | v :: l=>cO (w.setCell (a.add i) v) a (i + 1) l
def j8 (w:aa4) (a:Addr) (i:Nat):List Value->Prop
 | []=>True
 | v :: l=>aG v = true/\(∃ u,w.cell? (a.add i) = some u)/\w.frozen? (a.add i) = false/\j8 w a (i + 1) l
def st1 (w:aa4) (a:Addr) (v:Value) (k:aa4->Prop):Prop :=
 (∃ u,w.cell? a = some u)/\w.frozen? a = false/\aG v = true/\∀ w',w' = w.setCell a v->k w'
def da (w:aa4) (a:Addr) (vs:List Value) (k:aa4->Prop):Prop :=
 j8 w a 0 vs/\∀ w',w' = cO w a 0 vs->k w'
def cellsOf:Value->List Value
 | .agg cs=>cs.toList
 | v=>[v]
def Bg:List Value->Nat->Bool
 | [],n=>Nat.beq n 0
 | _ :: l,n=>match n with
  | n + 1=>Bg l n
  | 0=>false
theorem tC:∀ (l:List Value) (n:Nat),Bg l n = true->l.length = n
 | [],n,h=>by simp [Bg] at h; simp [h]
 | _ :: l,0,h=>by simp [Bg] at h
 | _ :: l,n + 1,h=>by simp [tC l n h]
def XM:List Value->Nat->Bool
 | [],_=>true
 | _ :: l,n + 1=>XM l n
 | _,_=>false
theorem OU:∀ (l:List Value) (n:Nat),XM l n = true->l.length<=n
 | [],_,_=>Y4 _
 | _ :: l,n + 1,h=>by have:=OU l n h; simp; omega
def XN:Nat->List Value->Bool
 | 0,_=>true
 | n + 1,_ :: l=>XN n l
 | _,_=>false
theorem OV:∀ (n:Nat) (l:List Value),XN n l = true->n<=l.length
 | 0,_,_=>Y4 _
 | n + 1,_ :: l,h=>by have:=OV n l h; simp; omega
def XO (w:aa4) (a:Addr) (i:dg) (v:Value) (k:aa4->Prop):Prop :=
 match i.kd.isAgg,v with
 | true,.agg cs=>bif Bg cs.toList i.size then da w a cs.toList k else False
 | false,v=>bif Nat.beq i.size 1 then st1 w a v k else False
 | _,_=>False
def new (w:aa4) (o:Obj) (k:Nat->aa4->Prop):Prop:=∀ b w',b = w.heap.size->w' = { w with heap:=w.heap.push o }->k b w'
abbrev Hp:=Nat->Option Obj
abbrev az:=Hp->Prop
def Kv:Option Obj->Option Obj
 | some (.deferred _)=>none
 | o=>o
theorem oR {x:Option Obj} {o:Obj} (h:Kv x = some o):x = some o:=by
 unfold Kv at h; split at h
 ·cases h
 ·exact h
def H5:Obj->Bool
 | .deferred _=>false
 | _=>true
theorem CP {o:Obj} (h:H5 o = true):Kv (some o) = some o:=by cases o <;> first | rfl | cases h
def hp (w:aa4):Hp:=λb=>Kv w.heap[b]?
theorem WS {w:aa4} {b:Nat} (h:w.heap.size<=b):hp w b = none:=by simp [hp,Kv,h]
def sub (a b:Hp):Prop:=∀ k o,a k = some o->b k = some o
def GC (a b:Hp):Prop:=∀ k,a k = none\/b k = none
theorem sub.refl (a:Hp):sub a a:=λ_ _ h=>h
theorem sub.trans {a b c:Hp} (h:sub a b) (k:sub b c):sub a c:=λx o u=>k x o (h x o u)
theorem GC.symm {a b:Hp} (h:GC a b):GC b a:=λk=>(h k).symm
theorem GC.sub {a b c d:Hp} (h:GC a b) (h1:sub c a) (h2:sub d b):GC c d:=by
 intro k
 rcases h k with h | h
 ·left; cases hc:c k with
  | none=>rfl
  | some o=>rw [h1 k o hc] at h; cases h
 ·right; cases hc:d k with
  | none=>rfl
  | some o=>rw [h2 k o hc] at h; cases h
def OM (a b:Hp):Hp:=λk=>match a k with | some o=>some o | none=>b k
theorem u_ (a b:Hp):sub a (OM a b):=λk o h=>by simp [OM,h]
theorem va {a b:Hp} (h:GC a b):sub b (OM a b):=λk o u=>by
 rcases h k with h | h
 ·simp [OM,h,u]
 ·rw [h] at u; cases u
theorem Ce {a b c:Hp} (h1:sub a c) (h2:sub b c):sub (OM a b) c:=λk o h=>by
 unfold OM at h; split at h
 ·rename_i o' ho; cases h; exact h1 k _ ho
 ·exact h2 k o h
theorem Cf {a b c:Hp} (h1:GC a c) (h2:GC b c):GC (OM a b) c:=by
 intro k
 rcases h1 k with h | h
 ·rcases h2 k with h' | h'
  ·left; simp [OM,h,h']
  ·exact .inr h'
 ·exact .inr h
def aD:List az->az
 | [],_=>True
 | A :: L,h=>∃ h1 h2,GC h1 h2/\sub h1 h/\sub h2 h/\A h1/\aD L h2
theorem fV:∀ {L:List az} {h h' : Hp},aD L h->sub h h'->aD L h'
 | [],_,_,_,_=>trivial
 | A :: L,h,h',⟨h1,h2,d,s1,s2,ha,hl⟩,s=>⟨h1,h2,d,s1.trans s,s2.trans s,ha,hl⟩
theorem ql {A B:az} {L:List az} {h:Hp}:aD (A :: B :: L) h->aD (B :: A :: L) h
 | ⟨h1,h2,d,s1,s2,ha,h3,h4,d',s3,s4,hb,hl⟩ =>
  have d14:GC h1 h4:=d.sub (sub.refl _) s4
  ⟨h3,OM h1 h4,(Cf (d.sub (sub.refl _) s3) d'.symm).symm,s3.trans s2,Ce s1 (s4.trans s2),hb,h1,h4,d14,u_ _ _,va d14,ha,hl⟩
theorem tD {A:az} {L L' : List az} {h:Hp} (hm:∀ h,aD L h->aD L' h):aD (A :: L) h->aD (A :: L') h
 | ⟨h1,h2,d,s1,s2,ha,hl⟩=>⟨h1,h2,d,s1,s2,ha,hm _ hl⟩
theorem Kw {A B:az} {L:List az} {h:Hp} (hm:∀ h,A h->B h):aD (A :: L) h->aD (B :: L) h
 | ⟨h1,h2,d,s1,s2,ha,hl⟩=>⟨h1,h2,d,s1,s2,hm _ ha,hl⟩
theorem aY {A:az} {L:List az} {h:Hp}:aD (A :: L) h->aD L h
 | ⟨h1,h2,d,s1,s2,ha,hl⟩=>fV hl s2
theorem Kx {L L' : List az} (p:L.Perm L'):∀ {h:Hp},aD L h->aD L' h:=by
 induction p with
 | nil=>exact λh=>h
 | cons A p ih=>exact λh=>tD (λ_=>ih) h
 | swap A B l=>exact λh=>ql h
 | trans p q ih1 ih2=>exact λh=>ih2 (ih1 h)
def aC (M:List az):az:=aD M
theorem lZ:∀ {M L:List az} {h:Hp},aD (aC M :: L) h↔aD (M ++ L) h
 | [],L,h=>⟨λ⟨h1,h2,d,s1,s2,ha,hl⟩=>fV hl s2,λhl=>⟨λ_=>none,h,λ_=>.inl rfl,λ_ _ h=>(nomatch h),sub.refl _,trivial,hl⟩⟩
 | A :: M,L,h=>by
  constructor
  ·rintro ⟨h1,h2,d,s1,s2,⟨h3,h4,d',s3,s4,ha,hm⟩,hl⟩
   have d42:GC h4 h2:=d.sub s4 (sub.refl _)
   exact ⟨h3,OM h4 h2,(Cf d'.symm (d.symm.sub (sub.refl _) s3)).symm,s3.trans s1,Ce (s4.trans s1) s2,ha,lZ.1 ⟨h4,h2,d42,u_ _ _,va d42,hm,hl⟩⟩
  ·rintro ⟨h1,h2,d,s1,s2,ha,hr⟩
   obtain ⟨h3,h4,d',s3,s4,hm,hl⟩:=lZ.2 hr
   have d13:GC h1 h3:=d.sub (sub.refl _) s3
   exact ⟨OM h1 h3,h4,Cf (d.sub (sub.refl _) s4) d',Ce s1 (s3.trans s2),s4.trans s2,⟨h1,h3,d13,u_ _ _,va d13,ha,hm⟩,hl⟩
def ex {α : Type} (A:α->az):az:=λh=>∃ x,A x h
theorem OW {α : Type} {A:α->az} {L:List az} {h:Hp}:aD (ex A :: L) h↔∃ x,aD (A x :: L) h :=
 ⟨λ⟨U,O,d,z,u,⟨x,G⟩,R⟩=>⟨x,U,O,d,z,u,G,R⟩,λ⟨x,U,O,d,z,u,G,R⟩=>⟨U,O,d,z,u,⟨x,G⟩,R⟩⟩
def pu (p:Prop):az:=λ_=>p
theorem OX {p:Prop} {L:List az} {h:Hp}:aD (pu p :: L) h↔p/\aD L h :=
 ⟨λ⟨U,R,d,O,z,G,u⟩=>⟨G,fV u z⟩,λ⟨hp,u⟩=>⟨λ_=>none,h,λ_=>.inl rfl,λ_ _ h=>(nomatch h),sub.refl _,hp,u⟩⟩
def blk (b:Nat) (o:Obj):az:=λh=>h b = some o
def one (b:Nat) (o:Obj):Hp:=λk=>if k = b then some o else none
theorem H6 (b:Nat) (o:Obj):one b o b = some o:=by simp [one]
theorem EN {b:Nat} {o:Obj} {L:List az} {h:Hp}:aD (blk b o :: L) h->h b = some o
 | ⟨h1,h2,d,s1,s2,ha,hl⟩=>s1 _ _ ha
theorem nR {b:Nat} {o o' : Obj} {L:List az} {h h' : Hp} (hs:aD (blk b o :: L) h) (h0:∀ k,k≠b->h' k = h k) (h1:h' b = some o'):aD (blk b o' :: L) h':=by
  obtain ⟨g1,g2,d,s1,s2,ha,hl⟩:=hs
  have hb : g2 b = none := by rcases d b with h | h; · rw [show g1 b = some o from ha] at h; cases h
                              · exact h
  refine ⟨one b o',g2,λk=>?_,λk x hk=>?_,λk x hk=>?_,H6 b o',hl⟩
  · by_cases hk:k = b
    · subst hk; exact .inr hb
    · exact .inl (by simp [one,hk])
  · unfold one at hk; split at hk
    · rename_i e; cases hk; rw [e,h1]
    · cases hk
  · have hk' : k≠b:=λe=>by rw [e,hb] at hk; cases hk
    rw [h0 k hk']; exact s2 k x hk
theorem EO {b:Nat} {o:Obj} {L:List az} {h h' : Hp} (hs:aD L h) (hb:h b = none) (h0:∀ k,k≠b->h' k = h k) (h1:h' b = some o):aD (blk b o :: L) h':=by
 refine ⟨one b o,h,λk=>?_,λk x u=>?_,λk x u=>?_,H6 b o,hs⟩
 ·by_cases u:k = b
  ·subst u; exact .inr hb
  ·exact .inl (by simp [one,u])
 ·unfold one at u; split at u
  ·rename_i e; cases u; rw [e,h1]
  ·cases u
 ·have z : k≠b:=λe=>by rw [e,hb] at u; cases u
  rw [h0 k z]; exact u
def has (h0:Hp):az:=λh=>sub h0 h
theorem lQ {h0:Hp} {L:List az} {h:Hp}:aD (has h0 :: L) h->sub h0 h
 | ⟨h1,h2,d,s1,s2,ha,hl⟩=>sub.trans ha s1
def St (w:aa4) (L:List az):Prop:=aD L (hp w)
def qm:List az->Nat->az
 | [],_=>pu True
 | A :: _,0=>A
 | _ :: L,n + 1=>qm L n
section
variable {w w' : aa4} {L:List az} {A B:az}
theorem St.perm {L' : List az} (h:St w L) (p:L.Perm L'):St w L':=Kx p h
theorem St.swap {L:List az} {A B:az} (h:St w (A :: B :: L)):St w (B :: A :: L):=ql h
theorem St.H7 {L:List az} {A B C:az} (h:St w (A :: B :: C :: L)):St w (C :: A :: B :: L):=ql (tD (λ_=>ql) h)
theorem St.tail (h:St w (A :: L)):St w L:=aY h
theorem St.head (h:St w (A :: L)) (hm:∀ h,A h->B h):St w (B :: L):=Kw hm h
theorem St.flat {M:List az}:St w (aC M :: L)↔St w (M ++ L):=lZ
theorem St.ex {α : Type} {A:α->az}:St w (Proofs.YtndaepmjkbmjmaaGreatDoor.ex A :: L)↔∃ x,St w (A x :: L):=OW
theorem St.pu {p:Prop}:St w (Proofs.YtndaepmjkbmjmaaGreatDoor.pu p :: L)↔p/\St w L:=OX
theorem St.get {b:Nat} {o:Obj} (h:St w (blk b o :: L)):w.heap[b]? = some o:=oR (EN h)
theorem St.has {h0:Hp} (h:St w (Proofs.YtndaepmjkbmjmaaGreatDoor.has h0 :: L)):sub h0 (hp w):=lQ h
theorem St.push (h:St w L) (o:Obj) (ho:H5 o = true:=by rfl):St { w with heap:=w.heap.push o } (blk w.heap.size o :: L) :=
 EO h (WS (Zc _)) (λk u=>by simp [hp,Array.getElem?_push,u]) (by simp [hp,CP ho])
theorem St.setObj {b:Nat} {o:Obj} (h:St w (blk b o :: L)) (o' : Obj) (ho:H5 o' = true:=by rfl):St { w with heap:=w.heap.setIfInBounds b o' } (blk b o' :: L):=by
 have u:=(ZG.1 h.get).1;exact nR h (λk z=>by simp [hp,aad (aaw z)]) (by simp [hp,u,CP ho])
theorem St.eq (h:St w L) (he:hp w' = hp w):St w' L:=by unfold St; rw [he]; exact h
theorem St.same (h:St w L) (he:w'.heap = w.heap):St w' L:=h.eq (by unfold hp; rw [he])
theorem St.setCell {b:Nat} {c:Array Value} {e:TypeId} {fz:Nat × Nat} (h:St w (blk b (.cells c e fz) :: L)) (i:Nat) (v:Value) :
  St (w.setCell ⟨b,i,none⟩ v) (blk b (.cells (c.setIfInBounds i v) e fz) :: L):=by
 have u:=h.get
 refine nR h (λk z=>?_) ?_
 ·simp only [hp,World.setCell,ZW]; rw [YZ (λe=>z e.symm)]
 ·simp only [hp,World.setCell,ZW]; simp [u,Kv]
theorem OY (w:aa4) (d:Option (List Deferred)):hp { w with heap:=w.heap.push (.deferred d) } = hp w:=by
 funext b
 simp only [hp,Array.getElem?_push]
 split
 ·rename_i e; subst e; simp [Kv]
 ·rfl
theorem Sl {w:aa4} {D:Nat} {d d' : Option (List Deferred)} (h:w.heap[D]? = some (.deferred d)):hp { w with heap:=w.heap.setIfInBounds D (.deferred d') } = hp w:=by
 funext b
 simp only [hp]
 by_cases u:b = D
 ·subst u;rw [Array.getElem?_setIfInBounds_self_of_lt (ZG.1 h).1,h]; rfl
 ·rw [aad (aaw u)]
theorem ig (h:hp w' = hp w) (a:Addr):w'.cell? a = w.cell? a:=by
 have u:=congrFun h a.block;simp only [hp] at u;unfold World.cell?;cases h1:w'.heap[a.block]? with
 | none =>
  rw [h1] at u;cases h2:w.heap[a.block]? with
  | none=>rfl
  | some o=>rw [h2] at u; cases o <;> first | rfl | cases u
 | some o =>
  rw [h1] at u;cases h2:w.heap[a.block]? with
  | none=>rw [h2] at u; cases o <;> first | rfl | cases u
  | some o'=>rw [h2] at u; cases o <;> cases o' <;> first | rfl | (cases u; rfl) | cases u
theorem H8 (h:hp w' = hp w) (a:Addr):∀ (n i:Nat),rowAt w' a i n = rowAt w a i n
 | 0,i=>rfl
 | n + 1,i=>by simp only [rowAt,ig h,H8 h a n]
end
def kx:IntKind->Nat
 | .i8=>0 | .i16=>1 | .i32=>2 | .i64=>3 | .u8=>4 | .u16=>5 | .u32=>6 | .u64=>7
theorem OZ {a b:IntKind} (h:Nat.beq (kx a) (kx b) = true):a = b:=by
 have:=aaB h;cases a <;> cases b <;> simp_all [kx]
def H9 (wd:Bool) (k:IntKind) (z:Int) (K:Value->Prop):Prop :=
 match k with
 | .i64=>(match wd with | true=>K (.int .i64 (YB z)) | false=>ax z/\K (.int .i64 z))
 | k=>K (.int k (k.wrap z))
def l5 (op:BinOp) (k:IntKind) (x y:Int):Int :=
 match op with
 | .and=>k.wrap ((BitVec.ofInt k.bits x) &&& (BitVec.ofInt k.bits y)).toNat
 | .or=>k.wrap ((BitVec.ofInt k.bits x) ||| (BitVec.ofInt k.bits y)).toNat
 | .xor=>k.wrap ((BitVec.ofInt k.bits x) ^^^ (BitVec.ofInt k.bits y)).toNat
 | _=>k.wrap ((BitVec.ofInt k.bits x) &&& ~~~(BitVec.ofInt k.bits y)).toNat
def O0 (k:IntKind) (a b:Int):Int:=k.wrap (a * 2 ^ (min b.toNat k.bits))
def bQ (k:IntKind) (a b:Int):Int:=a.fdiv (2 ^ (min b.toNat k.bits))
def nz (b:Int):Prop:=b≠0
def ns (b:Int):Prop:=0<=b
def GD (i:Int) (n:Nat):Prop:=0<=i/\i < n
def tE (l c:Int) (b:Nat):Prop:=0<=l/\l = c/\b * l<=140737488355328
def O1 (wd:Bool) (op:BinOp) (k:IntKind) (a b:Int) (K:Value->Prop):Prop :=
 match op with
 | .add=>H9 wd k (a + b) K
 | .sub=>H9 wd k (a - b) K
 | .mul=>H9 wd k (a * b) K
 | .quo=>nz b/\H9 false k (a.tdiv b) K
 | .rem=>nz b/\K (.int k (a.tmod b))
 | .and=>K (.int k (l5 .and k a b))
 | .or=>K (.int k (l5 .or k a b))
 | .xor=>K (.int k (l5 .xor k a b))
 | .andNot=>K (.int k (l5 .andNot k a b))
 | .eql=>K (.bool (a == b))
 | .neq=>K (.bool (a != b))
 | .lss=>K (.bool (decide (a < b)))
 | .leq=>K (.bool (decide (a<=b)))
 | .gtr=>K (.bool (decide (b < a)))
 | .geq=>K (.bool (decide (b<=a)))
 | .shl=>ns b/\K (.int k (O0 k a b))
 | .shr=>ns b/\K (.int k (bQ k a b))
def GF:BinOp->Bool
 | .shl | .shr=>true
 | _=>false
def O2 (op:BinOp) (x y:ByteArray) (K:Value->Prop):Prop :=
 match op with
 | .add=>(x.size:Int) + y.size<=9223372036854775807/\K (.string (x ++ y))
 | .eql=>K (.bool (x.toList == y.toList))
 | .neq=>K (.bool (!(x.toList == y.toList)))
 | .lss=>K (.bool (Op.bytesLess x.toList y.toList))
 | .leq=>K (.bool (Op.bytesLess x.toList y.toList || x.toList == y.toList))
 | .gtr=>K (.bool (!(Op.bytesLess x.toList y.toList || x.toList == y.toList)))
 | .geq=>K (.bool (!Op.bytesLess x.toList y.toList))
 | _=>False
def Uv (op:BinOp) (t:Bool) (K:Value->Prop):Prop :=
 match op with
 | .eql=>K (.bool t)
 | .neq=>K (.bool (!t))
 | _=>False
def aj (Ty:TypeId->Option dg) (t:TypeId):Kd:=match Ty t with | some i=>i.kd | none=>.other
def YC (Ty:TypeId->Option dg) (t:TypeId):Bool:=match Ty t with | some i=>(match i.cmp with | true=>false | false=>true) | none=>false
def Fl (Ty:TypeId->Option dg) (t:TypeId):Option Nat:=match Ty t with | some i=>some i.size | none=>none
def Uw:Kd->Bool
 | .ptr _=>true
 | _=>false
def L6:Kd->Bool
 | .slice _=>true
 | _=>false
def Ux:Kd->Bool
 | .map ..=>true
 | _=>false
def je (op:BinOp) (t:TypeId) (xo yo:Operand) (x y:Value):Sem Value:=do eqGuard op t xo yo x y; Go.binOp op t x y
def XP (op:BinOp) (t:Bool) (K:Bool->Prop):Prop :=
 match op with
 | .eql=>K t
 | .neq=>K (!t)
 | _=>False
def UY (Ty:TypeId->Option dg) (rs:Sem Value->(Value->Prop)->Prop) (op:BinOp) (t:TypeId) (xo yo:Operand) (a b:aa3) (K:Bool->Prop):Prop :=
 match b with
 | none=>bif Uw (aj Ty t) then XP op a.isNone K else False
 | some b=>rs (je op t xo yo (.pointer a) (.pointer (some b))) λv=>∃ q,v = .bool q/\K q
def UZ (Ty:TypeId->Option dg) (rs:Sem Value->(Value->Prop)->Prop) (op:BinOp) (t:TypeId) (xo yo:Operand) (x y:Value) (K:Value->Prop):Prop :=
 match x,y with
 | .int k a,.int k' b=>bif GF op || Nat.beq (kx k) (kx k') then O1 (YC Ty t) op k a b K else False
 | .string a,.string b=>O2 op a b K
 | .bool a,.bool b=>(match aj Ty t with | .bool=>Uv op (a == b) K | _=>False)
 | .pointer a,.pointer b=>UY Ty rs op t xo yo a b λq=>K (.bool q)
 | .slice a _ _,.slice none _ _=>bif L6 (aj Ty t) then Uv op a.isNone K else False
 | .func (.func _) _ _,.nilFunc=>(match aj Ty t with | .func=>Uv op false K | _=>False)
 | .map a,.map none=>bif Ux (aj Ty t) then Uv op a.isNone K else False
 | x,y=>rs (je op t xo yo x y) λv=>∃ b,v = .bool b/\K (.bool b)
def H_:List Value->List Value->List Value
 | [],m=>m
 | x :: l,m=>x :: H_ l m
theorem Cg:∀ l m,H_ l m = l ++ m
 | [],_=>rfl
 | x :: l,m=>by simp [H_,Cg l m]
def Fm:Nat->List Value->List Value
 | 0,_=>[]
 | n + 1,z=>H_ z (Fm n z)
def ir:Nat->List Value->List Value
 | 0,_=>[]
 | n + 1,z=>z ++ ir n z
def setMany (cells:List Value) (off:Nat):List Value->List Value
 | []=>cells
 | v :: l=>setMany (Gz cells off v) (off + 1) l
def yb (place:Nat->Option (Nat × Nat)) (cells:List Value):List (Nat × Value)->Option (List Value)
 | []=>some cells
 | (i,v) :: rest =>
  match place i with
  | none=>none
  | some (off,size)=>bif Bg (cellsOf v) size && XN (off + size) cells then yb place (setMany cells off (cellsOf v)) rest else none
def O3 (o:Option (List Value)) (k:List Value->Prop):Prop:=match o with | some l=>k l | none=>False
def Bh (fr:Fr):List (Nat × Operand)->List (Nat × Value)
 | []=>[]
 | (i,x) :: l=>(i,ev fr x) :: Bh fr l
def CQ (fs:List (Nat × Nat × Bool)) (i:Nat):Option (Nat × Nat):=match fs[i]? with | some (o,s,_)=>some (o,s) | none=>none
def XQ (ad:Addr) (n:Nat):Addr:=bif Nat.beq n 0 then ad else ad.add n
theorem U0 (ad:Addr) (n:Nat):XQ ad n = ad.add n:=by
 cases n
 ·simp [XQ,Addr.add]
 ·rfl
def cE (i:Nat):Nat->Nat
 | 1=>i
 | sz=>i * sz
theorem aN (i sz:Nat):cE i sz = i * sz:=by unfold cE; split <;> simp
def idx (a:aa3) (len:Nat) (i:Int) (sz:Nat) (k:Addr->Prop):Prop :=
 ∃ ad,a = some ad/\0<=i/\i < len/\k (ad.add (cE i.toNat sz))
def sb (s:ByteArray) (n:Nat):UInt8:=(s.data[n]?).getD 0
def fT (a:aa3) (l m sz:Nat):aa3:=if m = l then a else a.map (·.add (cE l sz))
def lR (a:aa3) (len cap:Nat) (lo hi mx:Option Int) (sz:Nat) (k:aa3->Nat->Nat->Prop):Prop :=
 let m:Int:=mx.getD cap
 let h:Int:=hi.getD len
 let l:Int:=lo.getD 0
 (mx = none\/(hi≠none/\0<=m/\m<=cap))/\(hi = none\/(0<=h/\h<=m))/\(0<=l/\l<=h) /\
  k (fT a l.toNat m.toNat sz) (h.toNat - l.toNat) (m.toNat - l.toNat)
def WT (s:ByteArray) (lo hi:Option Int) (k:ByteArray->Prop):Prop :=
 let h:Int:=hi.getD s.size
 let l:Int:=lo.getD 0
 (hi = none\/(0<=h/\h<=s.size))/\(0<=l/\l<=h)/\k (s.extract l.toNat h.toNat)
def L7 (fr:Fr) (x:Option Operand) (k:Option Int->Prop):Prop :=
 match x with
 | none=>k none
 | some x=>match ev fr x with
  | .int _ n=>k (some n)
  | _=>False
def Uy (l c:Int) (i:dg) (e:TypeId) (w:aa4) (k:Value->aa4->Prop):Prop :=
 match i.zero with
 | some z=>tE l c i.bytes/\new w (.cells ⟨ir l.toNat (cellsOf z)⟩ e) λb w'=>k (.slice (some ⟨b,0,none⟩) l.toNat l.toNat) w'
 | none=>False
def XR (P:Program) (E:aa4->aa4->Prop) (l:Nat) (args:List Value) (w:aa4) (R:Value->aa4->Prop):Prop :=
 ∃ a b c d,(Instr.yield l ⟨args⟩).run P w = .ok (.round l a b c d) w /\
  RoundIn Fence.wide 0 P l a b c d w λa b=>∃ c,a = .returned c/\E w b/\R c b
def Uz (v:Value) (i:Nat) (k:Value->Prop):Prop :=
 match v with
 | .tuple vs=>(match vs.toList[i]? with | some u=>k u | none=>False)
 | _=>False
def WU (v:Value) (f:Option (Nat × Nat × Bool)) (k:Value->Prop):Prop :=
 match v,f with
 | .agg cs,some (o,s,true)=>k (.agg ⟨(cs.toList.drop o).take s⟩)
 | .agg cs,some (o,_,false)=>(match cs.toList[o]? with | some u=>k u | none=>False)
 | _,_=>False
def UA (v:Value) (sh:Sh) (k:Value->Prop):Prop :=
 (v = .tuple #[.bool false]/\k (.tuple #[.bool false]))\/(match sh with
  | .tup (_ :: l)=>UX l λus=>v = .tuple ⟨.bool true :: us⟩/\k (.tuple ⟨.bool true :: us⟩)
  | .tup []=>∃ (n:Int) (u:Value),v = .tuple ⟨[.bool true,.int .i64 n,u]⟩/\k (.tuple ⟨[.bool true,.int .i64 n,u]⟩)
  | _=>False)
def U1 (v:Value) (sh:Sh) (k:Value->Prop):Prop :=
 match sh with
 | .tup []=>∃ (n:Int) (u:Value),v = .tuple ⟨[.int .i64 n,u]⟩/\k (.tuple ⟨[.int .i64 n,u]⟩)
 | .tup l=>UX l λus=>v = .tuple ⟨us⟩/\k (.tuple ⟨us⟩)
 | _=>False
def BA (first args cap:List Value):List Value:=H_ first (H_ args cap)
theorem GG (f a c:List Value):BA f a c = f ++ a ++ c:=by simp [BA,Cg]
def yc:Bool->Prop->Prop
 | true,p=>p
 | false,_=>False
theorem bS {c:Bool} {p:Prop}:yc c p↔c = true/\p:=by cases c <;> simp [yc]
def Ys (d c:Bool) (p q:Prop):Prop:=match d with
 | true=>(match c with | true=>p | false=>q)
 | false=>yc c p
def isDir:Operand->Bool
 | .func _=>true
 | _=>false
def U2 (P:Program) (g:FuncId) (args:List Value) (w:aa4) (R:Value->aa4->Prop):Prop:=∃ a b,(callFunc g ⟨args⟩).run P w = .ok (.value a) b/\Ev w b/\R a b
def O4 (P:Program) (Fn:FuncId->Bool) (E:aa4->aa4->Prop) (f:Value) (args:List Value) (sh:Sh) (w:aa4) (K:Value->aa4->Prop) (d:Bool):Prop :=
 match f with
 | .func (.func g) first cap=>Ys d (Fn g) (vt P E g (BA first.toList args cap.toList) w λv w'=>sh.is v λu=>K u w') (U2 P g (BA first.toList args cap.toList) w λv w'=>sh.is v λu=>K u w')
 | .func (.yield l) first _=>XR P E l (H_ first.toList args) w λv w'=>sh.is v λu=>K u w'
 | _=>False
def XS (P:Program) (w:aa4) (s:Sem Value) (k:Value->Prop):Prop:=∃ v,s.run P w = .ok v w/\k v
def YD (P:Program) (C:aa4->Prop) (s:Sem Value) (k:Value->Prop):Prop:=∃ v,(∀ w,C w->s.run P w = .ok v w)/\k v
def XT (C:aa4->Prop) (a:Addr) (i:dg) (k:Value->Prop):Prop :=
 match i.zero with
 | none=>False
 | some z=>match i.kd.isAgg,S1.of z with
  | true,.agg l=>WG l λvs=>(∀ w,C w->rowAt w a 0 i.size = some vs)/\k (.agg ⟨vs⟩)
  | false,.one c=>c.ex λv=>(∀ w,C w->w.cell? a = some v)/\k v
  | _,_=>False
def L8:Kd->Bool | .int _=>true | _=>false
def Yt (b:Bool) (rs:Sem Value->(Value->Prop)->Prop):Sem Value->(Value->Prop)->Prop:=match b with | true=>λ_ _=>False | false=>rs
def tF (P:Program) (Ty:TypeId->Option dg) (ld:Addr->dg->(Value->Prop)->Prop) (rs:Sem Value->(Value->Prop)->Prop) (o:Oper) (fr:Fr) (K:Value->Prop):Prop :=
 match o.op with
 | .move x=>K (ev fr x)
 | .assign x=>K (ev fr x)
 | .pick c a b=>(match ev fr c with | .bool t=>K (match t with | true=>ev fr a | false=>ev fr b) | _=>False)
 | .build t ps=>(match Ty t with
  | some i=>(match i.zero,i.kd with
   | some z,.struct=>O3 (yb (CQ i.flds) (cellsOf z) (Bh fr ps.toList)) λcs=>K (.agg ⟨cs⟩)
   | some z,.array _ e=>(match Fl Ty e with | some s=>O3 (yb (λk=>some (k * s,s)) (cellsOf z) (Bh fr ps.toList)) λcs=>K (.agg ⟨cs⟩) | none=>False)
   | _,_=>False)
  | none=>False)
 | .load t x=>(match ev fr x,Ty t with
  | .pointer a,some i=>nn a λad=>ld ad i K
  | _,_=>False)
 | .nilCheck x=>(match ev fr x with
  | .pointer a=>nn a λad=>K (.pointer (some ad))
  | .func (.func f) first cap=>K (.func (.func f) first cap)
  | .func (.yield f) first cap=>K (.func (.yield f) first cap)
  | _=>False)
 | .binOp op t x y _=>UZ Ty (Yt (L8 (aj Ty t)) rs) op t x y (ev fr x) (ev fr y) K
 | .unOp op _ x=>(match op,ev fr x with
  | .not,.bool b=>K (.bool (!b))
  | .neg,.int k n=>H9 false k (0 - n) K
  | .xor,.int k n=>K (.int k (l5 .xor k (if k.signed then -1 else k.max) n))
  | _,_=>False)
 | .convert s d x=>(match aj Ty s,aj Ty d,ev fr x with
  | .int _,.int k,.int _ n=>H9 false k n K
  | .string,.string,.string s=>K (.string s)
  | _,_,_=>False)
 | .makeInterface t x=>(match Ty t with | some i=>(match i.kd with | .iface=>False | _=>K (.iface t (ev fr x))) | none=>False)
 | .makeFunc fn first cap=>K (.func fn ⟨zJ fr first.toList⟩ ⟨zJ fr cap.toList⟩)
 | .slice t x lo hi mx=>(match aj Ty t,ev fr x with
  | .slice e,.slice a len cap=>(match Fl Ty e with
   | some sz=>L7 fr lo λlo=>L7 fr hi λhi=>L7 fr mx λmx=>lR a len cap lo hi mx sz λa l c=>K (.slice a l c)
   | none=>False)
  | .string,.string s=>(match mx with | none=>L7 fr lo λlo=>L7 fr hi λhi=>WT s lo hi λs=>K (.string s) | some _=>False)
  | _,_=>False)
 | .fieldAddr s x f=>(match Ty s,ev fr x with
  | some i,.pointer a=>(match i.kd,i.flds[f]? with
   | .struct,some (off,sz,_)=>bif Nat.ble 1 sz then nn a λad=>K (.pointer (some (XQ ad off))) else False
   | _,_=>False)
  | _,_=>False)
 | .field t x f=>(match Ty t with
  | some i=>(match i.kd with | .struct=>WU (ev fr x) (i.flds[f]?) K | _=>False)
  | none=>False)
 | .indexAddr t x ix=>(match aj Ty t,ev fr x,ev fr ix with
  | .slice e,.slice a len cap,.int _ i=>(match Fl Ty e with | some sz=>idx a len i sz λad=>K (.pointer (some ad)) | none=>False)
  | .array n e,.pointer a,.int _ i=>(match Fl Ty e with | some sz=>idx a n i sz λad=>K (.pointer (some ad)) | none=>False)
  | _,_,_=>False)
 | .index t x ix=>(match aj Ty t,ev fr x,ev fr ix with
  | .string,.string s,.int _ i=>GD i s.size/\K (.int .u8 (sb s i.toNat).toNat)
  | _,x,y=>rs (Instr.index t x y) λv=>(L0 Ty o.type).is v K)
 | .extract t i=>Uz (ev fr t) i K
 | .call c=>(match c.callee,zJ fr c.args.toList with
  | .builtin .len,[.slice a l cap]=>(match c.argTypes.toList with | t :: _=>bif L6 (aj Ty t) then K (.int .i64 l) else False | _=>False)
  | .builtin .len,[.string s]=>(match c.argTypes.toList with | t :: _=>(match aj Ty t with | .string=>K (.int .i64 s.size) | _=>False) | _=>False)
  | .builtin .len,args=>rs (Builtin.len_ c.argTypes o.type ⟨args⟩) λv=>(L0 Ty o.type).is v K
  | .builtin .min,[.int k a,.int _ b]=>K (.int k (if b < a then b else a))
  | .builtin .max,[.int k a,.int _ b]=>K (.int k (if a < b then b else a))
  | _,_=>False)
 | _=>False
def eJ (Ty:TypeId->Option dg) (o:Oper):Bool :=
 match o.op with
 | .move _ | .assign _ | .pick .. | .build .. | .load .. | .nilCheck _ | .binOp .. | .unOp .. | .makeInterface .. | .makeFunc .. | .slice .. | .fieldAddr .. | .field .. | .indexAddr .. | .index .. | .extract ..=>true
 | .convert s d _=>(match aj Ty s,aj Ty d with
  | .int _,.int _=>true
  | .string,.string=>true
  | _,_=>false)
 | .call c=>(match c.callee with
  | .builtin .len | .builtin .min | .builtin .max=>true
  | _=>false)
 | _=>false
def Yu (P:Program) (Ty:TypeId->Option dg) (b:Builtin) (tys:Array TypeId) (ty:TypeId) (args:List Value) (w:aa4) (K:Value->aa4->Prop):Prop :=
 match b with
 | .append=>bf P (Builtin.append_ tys ty ⟨args⟩) w λv w'=>(L0 Ty ty).is v λu=>K u w'
 | .copy=>bf P (Builtin.copy_ tys ty ⟨args⟩) w λv w'=>(L0 Ty ty).is v λu=>K u w'
 | .delete=>bf P (Builtin.delete_ tys ty ⟨args⟩) w λv w'=>K v w'
 | .clear=>bf P (Builtin.clear_ tys ty ⟨args⟩) w λv w'=>K v w'
 | .cap=>bf P (Builtin.cap_ tys ty ⟨args⟩) w λv w'=>(L0 Ty ty).is v λu=>K u w'
 | .unsafeSliceData=>bf P (Builtin.unsafeSliceData_ tys ty ⟨args⟩) w λv w'=>(L0 Ty ty).is v λu=>K u w'
 | .unsafeString=>bf P (Builtin.unsafeString_ tys ty ⟨args⟩) w λv w'=>(L0 Ty ty).is v λu=>K u w'
 | _=>False
def U3 (Ty:TypeId->Option dg) (t:TypeId):Sh:=match aj Ty t with
 | .map _ e=>(match L0 Ty e with | .s s=>.tup [s,.one (.int .i64)] | h=>h)
 | _=>.s (.one .val)
def O5 (P:Program) (Ty:TypeId->Option dg) (Fn:FuncId->Bool) (E:aa4->aa4->Prop) (o:Oper) (fr:Fr) (w:aa4) (K:Value->aa4->Prop):Prop :=
 match o.op with
 | .alloc t=>(match Ty t with
  | some i=>(match i.zero with | some z=>new w (.cells ⟨cellsOf z⟩ t) λb w'=>K (.pointer (some ⟨b,0,none⟩)) w' | none=>False)
  | none=>False)
 | .box t x=>new w (.cells ⟨cellsOf (ev fr x)⟩ t) λb w'=>K (.pointer (some ⟨b,0,none⟩)) w'
 | .buildSlice t n ps=>(match aj Ty t with
  | .slice e=>(match Ty e with
   | some i=>(match i.zero with
    | some z=>bif Bg (cellsOf z) i.size && (Nat.ble n 4096 && Nat.ble i.size 4096) && Nat.ble 1 i.size then O3 (yb (λk=>some (k * i.size,i.size)) (Fm n (cellsOf z)) (Bh fr ps.toList)) λcs=>new w (.cells ⟨cs⟩ e) λb w'=>K (.slice (some ⟨b,0,none⟩) n n) w' else False
    | none=>False)
   | none=>False)
  | _=>False)
 | .store t a x=>(match ev fr a,Ty t with
  | .pointer a,some i=>nn a λad=>XO w ad i (ev fr x) λw'=>K undef w'
  | _,_=>False)
 | .convert s d x=>bf P (Go.convert s d (ev fr x)) w λv w'=>(L0 Ty d).is v λu=>K u w'
 | .makeMap t none=>new w (.map #[] 0) λb w'=>K (.map (some b)) w'
 | .makeSlice t l c=>(match aj Ty t with
  | .slice e=>(match Ty e,ev fr l,ev fr c with
   | some i,.int _ l,.int _ c=>bif (match i.zero with | some z=>Bg (cellsOf z) i.size | none=>false) && Nat.ble 1 i.bytes && Nat.ble 1 i.size then Uy l c i e w K else False
   | _,_,_=>False)
  | _=>False)
 | .lookup t m k ok=>bf P (Instr.lookup t (ev fr m) (ev fr k) ok) w λv w'=>(L0 Ty o.type).is v λu=>K u w'
 | .mapUpdate t m k x=>bf P (Instr.mapUpdate t (ev fr m) (ev fr k) (ev fr x)) w λ_ w'=>K undef w'
 | .insert t m k x=>bf P (Instr.mapUpdate t (ev fr m) (ev fr k) (ev fr x)) w λ_ w'=>K undef w'
 | .mapEntry t m k=>bf P (Instr.mapEntry t (ev fr m) (ev fr k)) w λv w'=>(U3 Ty t).is v λu=>K u w'
 | .entryStore t m s x=>bf P (Instr.entryStore t (ev fr m) (ev fr s) (ev fr x)) w λ_ w'=>K undef w'
 | .range t x=>bf P (Instr.range t (ev fr x)) w λv w'=>(Sh.s (.one .ptr)).is v λu=>K u w'
 | .next it isS=>bf P (Instr.next (ev fr it) isS o.type) w λv w'=>UA v (match isS with | true=>.tup [.one .bool,.one (.int .i64),.one (.int .i32)] | false=>L0 Ty o.type) λu=>K u w'
 | .entry it=>bf P (Instr.entry (ev fr it)) w λv w'=>U1 v (L0 Ty o.type) λu=>K u w'
 | .typeAssert x t u ok=>bf P (Instr.typeAssert (ev fr x) t u ok) w λv w'=>(L0 Ty o.type).is v λu=>K u w'
 | .call c=>(match c.callee with
  | .builtin b=>Yu P Ty b c.argTypes o.type (zJ fr c.args.toList) w K
  | .value f=>O4 P Fn E (ev fr f) (zJ fr c.args.toList) (L0 Ty o.type) w K (isDir f)
  | _=>False)
 | _=>False
def L9 (P:Program) (Ty:TypeId->Option dg) (Fn:FuncId->Bool) (E:aa4->aa4->Prop) (o:Oper) (fr:Fr) (w:aa4) (K:Value->aa4->Prop):Prop :=
 bif eJ Ty o then tF P Ty (WH w) (XS P w) o fr λv=>K v w else O5 P Ty Fn E o fr w K
def Cs.arr:Cs->Type->Type
 | .int _,β=>Int->β
 | .bool,β=>Bool->β
 | .str,β=>ByteArray->β
 | .slice,β=>aa3->Nat->Nat->β
 | .ptr,β=>aa3->β
 | .map,β=>Option Nat->β
 | .fn,β=>FuncId->List Value->β
 | .val,β=>Value->β
def Ns:List Cs->Type->Type
 | [],β=>β
 | c :: l,β=>c.arr (Ns l β)
def S1.arr:S1->Type->Type
 | .one c,β=>c.arr β
 | .agg l,β=>Ns l β
def CR:List S1->Type->Type
 | [],β=>β
 | c :: l,β=>c.arr (CR l β)
def Cs.Sm:(c:Cs)->{β : Type}->β->c.arr β
 | .int _,_,b=>λ_=>b
 | .bool,_,b=>λ_=>b
 | .str,_,b=>λ_=>b
 | .slice,_,b=>λ_ _ _=>b
 | .ptr,_,b=>λ_=>b
 | .map,_,b=>λ_=>b
 | .fn,_,b=>λ_ _=>b
 | .val,_,b=>λ_=>b
def Ky:(l:List Cs)->{β : Type}->β->Ns l β
 | [],_,b=>b
 | c :: l,_,b=>c.Sm (Ky l b)
def S1.Sm:(c:S1)->{β : Type}->β->c.arr β
 | .one c,_,b=>c.Sm b
 | .agg l,_,b=>Ky l b
def Nt:(l:List S1)->{β : Type}->β->CR l β
 | [],_,b=>b
 | c :: l,_,b=>c.Sm (Nt l b)
def Cs.ap:(c:Cs)->{β : Type}->c.arr β->Value->β->β
 | .int k,_,f,.int k' n,d=>bif Nat.beq (kx k) (kx k') then f n else d
 | .bool,_,f,.bool b,_=>f b
 | .str,_,f,.string s,_=>f s
 | .slice,_,f,.slice a l c,_=>f a l c
 | .ptr,_,f,.pointer a,_=>f a
 | .map,_,f,.map r,_=>f r
 | .fn,_,f,.func (.func g) ⟨[]⟩ ⟨c⟩,_=>f g c
 | .val,_,f,v,_=>f v
 | _,_,_,_,d=>d
def WI:(l:List Cs)->{β : Type}->Ns l β->List Value->β->β
 | [],_,f,[],_=>f
 | c :: l,_,f,v :: vs,d=>WI l (c.ap f v (Ky l d)) vs d
 | _,_,_,_,d=>d
def S1.ap:(c:S1)->{β : Type}->c.arr β->Value->β->β
 | .one c,_,f,v,d=>c.ap f v d
 | .agg l,_,f,.agg cs,d=>WI l f cs.toList d
 | _,_,_,_,d=>d
def Fo:(l:List S1)->{β : Type}->CR l β->List Value->β->β
 | [],_,f,[],_=>f
 | c :: l,_,f,v :: vs,d=>Fo l (c.ap f v (Nt l d)) vs d
 | _,_,_,_,d=>d
def Ia:List S1->(List Value->Prop)->Prop
 | [],p=>p []
 | c :: l,p=>c.all λv=>Ia l λvs=>p (v :: vs)
def dstsOf:List Oper->List Nat
 | []=>[]
 | o :: l=>match o.dst with | some d=>d :: dstsOf l | none=>dstsOf l
def Kz:List Nat->List Nat->List Nat
 | [],m=>m
 | x :: l,m=>x :: Kz l m
def qj:Code->List Nat
 | .region _ ops _=>dstsOf ops.toList
 | .seq a b=>Kz (qj a) (qj b)
 | .cond _ a b=>Kz (qj a) (qj b)
 | .block _ a=>qj a
 | .loop a=>qj a
 | .scope a=>qj a
 | _=>[]
def oU (n:Nat) (d:Nat->Value):List Nat->Fr->Fr
 | [],fr=>fr
 | s :: l,fr=>oU n d l (put n fr (some s) (d s))
def tG (fr:Fr):List (Nat × S1)->List Value
 | []=>[]
 | (s,_) :: l=>ew fr s :: tG fr l
def lx (n:Nat) (fr:Fr):List (Nat × S1)->List Value->Fr
 | (s,_) :: l,v :: vs=>lx n (put n fr (some s) v) l vs
 | _,_=>fr
def xY:List (Nat × S1)->List S1
 | []=>[]
 | (_,s) :: l=>s :: xY l
structure bm where
 loops:List (Nat × List (Nat × S1)):=[]
 joins:List (Nat × List (Nat × S1)):=[]
 blocks:List (Nat × List (Nat × S1)):=[]
 rngs:List (Nat × List (Nat × S1)):=[]
def look (k:Nat):List (Nat × List (Nat × S1))->Option (List (Nat × S1))
 | []=>none
 | (j,x) :: l=>bif Nat.beq j k then some x else look k l
def nS:Code->Option Nat
 | .region i _ _=>some i
 | .seq a b=>(match nS a with | some i=>some i | none=>nS b)
 | .cond _ a b=>(match nS a with | some i=>some i | none=>nS b)
 | .block _ a=>nS a
 | .loop a=>nS a
 | .scope a=>nS a
 | _=>none
def O6 (k:Option Nat) (l:List (Nat × List (Nat × S1))):Option (List (Nat × S1)):=match k with | some k=>look k l | none=>none
def KA:List Oper->Nat->Option Oper
 | [],_=>none
 | o :: _,0=>some o
 | _ :: l,n + 1=>KA l n
def Bi (all:List Oper) (j:Nat):Option Tmp:=match KA all j with | some o=>o.dst | none=>none
def L_:Bool->Bool->Bool
 | true,true=>true
 | false,false=>true
 | _,_=>false
def Ib (all:List Oper) (fr:Fr) (o:Oper) (yes no:Prop):Prop :=
 match o.guard with
 | none=>yes
 | some (j,t)=>match Bi all j with
  | some d=>(match ew fr d with | .bool b=>bif L_ b t then yes else no | _=>no)
  | none=>no
def O7:List Oper->Nat->Bool
 | [],_=>false
 | o :: l,i=>match o.guard with | some (j,_)=>Nat.beq j i || O7 l i | none=>O7 l i
def CS (g:Bool) (v:Value) (k:Value->Prop):Prop :=
 match g,v with
 | true,.bool b=>WR b λb=>k (.bool b)
 | _,v=>k v
section
variable (P:Program) (Ty:TypeId->Option dg) (Fn:FuncId->Bool) (E:aa4->aa4->Prop) (N:Nat)
def zL (all:List Oper):Nat->List Oper->Fr->aa4->(Fr->aa4->Prop)->Prop
 | _,[],fr,w,K=>K fr w
 | i,o :: l,fr,w,K =>
  Ib all fr o (L9 P Ty Fn E o fr w λv w'=>CS (O7 all i) v λv=>zL all (i + 1) l (put N fr o.dst v) w' K)
   (zL all (i + 1) l (put N fr o.dst undef) w K)
def KB:List Bool->Nat->Bool
 | [],_=>true
 | b :: _,0=>b
 | _ :: l,n + 1=>KB l n
def Fp:List Bool->Nat->Bool
 | [],_=>false
 | b :: _,0=>b
 | _ :: l,n + 1=>Fp l n
def gJ:List Bool->Nat->List Bool
 | [],_=>[]
 | _ :: l,0=>true :: l
 | b :: l,n + 1=>b :: gJ l n
def CT (ls:List Bool):List Edge->Bool
 | []=>true
 | e :: l=>(match e.ground with | .textOnly _ | .gcOnly _=>true | _=>Fp ls e.on) && CT ls l
def Ic (ls:List Bool) (i:Nat) (o:Oper):Bool:=!KB ls i && CT ls o.after.toList
def iu (Ty:TypeId->Option dg) (ls:List Bool):Nat->List Oper->Option (Nat × Oper)
 | _,[]=>none
 | i,o :: l=>bif eJ Ty o && Ic ls i o then some (i,o) else iu Ty ls (i + 1) l
def fm (ls:List Bool):Nat->List Oper->List (Nat × Oper)
 | _,[]=>[]
 | i,o :: l=>bif Ic ls i o then (i,o) :: fm ls (i + 1) l else fm ls (i + 1) l
def Ma (n:Nat):List Bool:=match n with | 0=>[] | n + 1=>false :: Ma n
def qo (x:Nat):List Nat->Bool
 | []=>false
 | y :: l=>Nat.beq x y || qo x l
def Sn:Option Operand->List Operand->List Operand
 | none,l=>l
 | some x,l=>x :: l
def Sp:List Operand->List Operand->List Operand
 | [],m=>m
 | x :: l,m=>x :: Sp l m
def Sq:List (Nat × Operand)->List Operand
 | []=>[]
 | (_,x) :: l=>x :: Sq l
def O8:Op->List Operand
 | .move x | .assign x | .box _ x | .load _ x | .nilCheck x | .unOp _ _ x | .convert _ _ x | .makeInterface _ x | .fieldAddr _ x _ | .field _ x _ | .range _ x | .next x _ | .typeAssert x _ _ _ | .extract x _=>[x]
 | .pick c a b=>[c,a,b]
 | .build _ ps | .buildSlice _ _ ps=>Sq ps.toList
 | .store _ a v | .binOp _ _ a v _ | .makeSlice _ a v | .indexAddr _ a v | .index _ a v | .lookup _ a v _ | .mapEntry _ a v=>[a,v]
 | .makeFunc _ first cap=>Sp first.toList cap.toList
 | .slice _ x l h m=>x :: Sn l (Sn h (Sn m []))
 | .mapUpdate _ m k v | .entryStore _ m k v | .insert _ m k v=>[m,k,v]
 | .call c=>(match c.callee with | .value f=>f :: c.args.toList | .invoke r _=>r :: c.args.toList | .builtin _=>c.args.toList)
 | o=>o.operands.toList
def Fq:List Operand->List Nat->List Nat
 | [],m=>m
 | .tmp t :: l,m=>t :: Fq l m
 | _ :: l,m=>Fq l m
def looks (all:List Oper) (o:Oper):List Nat :=
 Fq (O8 o.op) (match o.guard with | some (g,_)=>(match Bi all g with | some d=>[d] | none=>[]) | none=>[])
def GH (d:Option Tmp) (l:List Nat):Bool:=match d with | some d=>!qo d l | none=>true
def UB (a b:Option Tmp):Bool:=match a,b with | some a,some b=>!Nat.beq a b | _,_=>true
def zM (all:List Oper) (x y:Oper):Bool:=GH x.dst (looks all y) && UB x.dst y.dst && GH y.dst (looks all x)
def waits (i:Nat):List Edge->Bool
 | []=>false
 | e :: l=>(match e.ground with | .textOnly _ | .gcOnly _=>false | _=>Nat.beq e.on i) || waits i l
def Mb (all:List Oper) (ls:List Bool) (i:Nat) (o:Oper):Nat->List Oper->Bool
 | _,[]=>true
 | j,p :: l=>(Nat.beq j i || KB ls j || waits i p.after.toList || zM all o p) && Mb all ls i o (j + 1) l
def U4:List (Nat × Oper)->(Nat × Oper->Prop)->Prop
 | [],_=>True
 | [x],f=>f x
 | x :: l,f=>f x/\U4 l f
def yd:List Edge->List Nat->List Nat
 | [],m=>m
 | e :: l,m=>match e.ground with | .textOnly _ | .gcOnly _=>yd l m | _=>e.on :: yd l m
def U5 (all:List Oper):Nat->List Nat->List Nat->List Nat
 | 0,_,done=>done
 | _ + 1,[],done=>done
 | n + 1,j :: todo,done=>match qo j done with
  | true=>U5 all n todo done
  | false=>U5 all n (match KA all j with | some o=>yd o.after.toList todo | none=>todo) (j :: done)
def Fs (Ty:TypeId->Option dg) (cl:List Nat):Nat->List Oper->Bool
 | _,[]=>false
 | i,o :: l=>(eJ Ty o && !qo i cl) || Fs Ty cl (i + 1) l
def WV (Ty:TypeId->Option dg) (all:List Oper) (es:List Edge):Bool:=Fs Ty (U5 all 1000 (yd es []) []) 0 all
def GI (Ty:TypeId->Option dg) (o:Oper):Bool:=match o.op with | .move _ | .assign _ | .indexAddr .. | .fieldAddr ..=>true | .binOp _ t _ _ _=>L8 (aj Ty t) | _=>false
def ye (Ty:TypeId->Option dg) (o:Oper):Bool:=eJ Ty o && !GI Ty o
def wP (Ty:TypeId->Option dg) (cl:List Nat):Nat->List Oper->Bool
 | _,[]=>false
 | i,o :: l=>(ye Ty o && !qo i cl) || wP Ty cl (i + 1) l
def CU (Ty:TypeId->Option dg) (all:List Oper) (es:List Edge):Bool:=wP Ty (U5 all 1000 (yd es []) []) 0 all
def Ft (Ty:TypeId->Option dg) (all:List Oper) (o:Oper):Bool:=match o.op with | .store ..=>CU Ty all o.after.toList | _=>WV Ty all o.after.toList
def U6 (o:Oper):Bool:=match o.op with | .load ..=>true | _=>false
def UC (all:List Oper) (i:Nat):List Oper->Bool
 | []=>false
 | o :: l=>(U6 o && qo i (U5 all 1000 (yd o.after.toList []) [])) || UC all i l
def Yv (b s:Bool) (C:aa4->Prop) (w' : aa4) (f:(aa4->Prop)->Prop):Prop :=
 match b with
 | true=>(match s with | true=>∃ C' : aa4->Prop,C' w'/\(∀ w,C' w->C w)/\f C' | false=>C w'/\f C)
 | false=>f C
def Bj (C:aa4->Prop) (all:List Oper) (K:Fr->aa4->Prop):Nat->List Bool->Fr->aa4->Prop
 | 0,ls,fr,w=>(match fm ls 0 all with | []=>K fr w | _=>False)
 | n + 1,ls,fr,w =>
  match iu Ty ls 0 all with
  | some (i,o)=>yc (Mb all ls i o 0 all) (
    Ib all fr o (tF P Ty (XT C) (YD P C) o fr λv=>CS (O7 all i) v λv=>Bj C all K n (gJ ls i) (put N fr o.dst v) w)
     (Bj C all K n (gJ ls i) (put N fr o.dst undef) w))
  | none=>match fm ls 0 all with
   | []=>K fr w
   | es=>U4 es λx =>
     Ib all fr x.2 (O5 P Ty Fn E x.2 fr w λv w'=>CS (O7 all x.1) v λv=>Yv (Ft Ty all x.2) (UC all x.1 all) C w' λC=>Bj C all K n (gJ ls x.1) (put N fr x.2.dst v) w')
      (Bj C all K n (gJ ls x.1) (put N fr x.2.dst undef) w)
def Mc:List Oper->Bool
 | []=>true
 | o :: l=>(match o.op with | .select ..=>false | _=>true) && Mc l
def drawn (w w' : aa4):Prop:=w' = { w with drawn:=w.drawn + 1 }
def Sr (ops:List Oper) (draw:Bool) (fr:Fr) (w:aa4) (K:Fr->aa4->Prop):Prop :=
 match draw with
 | false=>zL P Ty Fn E N ops 0 ops fr w K
 | true=>yc (Mc ops) (∀ w',drawn w w'->∃ C:aa4->Prop,C w'/\Bj P Ty Fn E N C ops K (lenO ops) (Ma (lenO ops)) fr w')
where
 lenO:List Oper->Nat
  | []=>0
  | _ :: l=>Nat.succ (lenO l)
def WW (n:Nat) (lv:List (Nat × S1)) (ws:List Nat) (fr:Fr) (w:aa4) (body:Fr->aa4->(Fr->aa4->Prop)->Prop):Prop :=
 ∃ (I:CR (xY lv) (aa4->Prop)) (m:CR (xY lv) (aa4->Nat)),
  Fo (xY lv) I (tG fr lv) (λ_=>False) w /\
  ∀ (d:Nat->Value),Ia (xY lv) λvs=>∀ w,Fo (xY lv) I vs (λ_=>False) w ->
   body (lx n (oU n d ws fr) lv vs) w λfr' w' =>
    Fo (xY lv) I (tG fr' lv) (λ_=>False) w'/\Fo (xY lv) m (tG fr' lv) (λ_=>0) w' < Fo (xY lv) m vs (λ_=>0) w
def UD (n:Nat) (lv:List (Nat × S1)) (ws:List Nat) (fr:Fr) (a:(Fr->aa4->Prop)->Prop) (b:Fr->aa4->Prop):Prop :=
 ∃ J:CR (xY lv) (aa4->Prop),a (λfr' w'=>Fo (xY lv) J (tG fr' lv) (λ_=>False) w') /\
  ∀ (d:Nat->Value),Ia (xY lv) λvs=>∀ w,Fo (xY lv) J vs (λ_=>False) w->b (lx n (oU n d ws fr) lv vs) w
def dL:Code->Bool
 | .rangeFunc ..=>true
 | .seq a b=>dL a || dL b
 | .cond _ a b=>dL a || dL b
 | .block _ a=>dL a
 | .loop a=>dL a
 | .scope a=>dL a
 | _=>false
def Ss (M L:List az):Prop:=∀ h,aD M h->aD L h
def WJ (P:Program) (g:FuncId) (first cap:List Value) (D Q:az) (xs:List (List Value)):Prop :=
 ∀ (l:Nat) (E:aa4->aa4->Prop),Gx E->∀ (J:Nat->az) (Jx:az) (L:List az) (w0:aa4),St w0 (J 0 :: D :: L)->(∀ h,aD L h->Q h) ->
  (∀ i us,xs[i]? = some us->∀ M w,Ss M L->St w (J i :: M)->XR P E l us w λv w'=>(v = .bool true/\St w' (J (i + 1) :: M))\/(v = .bool false/\St w' (Jx :: M))) ->
  vt P E g (BA first [.func (.yield l) #[] #[]] cap) w0 λ_ w'=>St w' (J xs.length :: D :: L)\/St w' (Jx :: D :: L)
def tH:List Nat->List (Nat × S1)->Bool
 | [],[]=>true
 | a :: l,(b,_) :: m=>Nat.beq a b && tH l m
 | _,_=>false
def fW:Code->List Nat
 | .exit i=>[i]
 | .seq a b=>Kz (fW a) (fW b)
 | .cond _ a b=>Kz (fW a) (fW b)
 | .block i a=>delN i (fW a)
 | .loop a=>fW a
 | .scope a=>fW a
 | _=>[]
where delN (i:Nat):List Nat->List Nat
 | []=>[]
 | j :: l=>bif Nat.beq j i || qo j l then delN i l else j :: delN i l
def U7:List Nat->(Nat->Prop)->Prop
 | [],_=>True
 | [j],p=>p j
 | j :: l,p=>p j/\U7 l p
def WX (P:Program) (g:FuncId) (first cap:List Value) (sh:List S1) (exs:List Nat) (w:aa4)
  (asg:List Value->aa4->(Fr->aa4->Prop)->Prop)
  (bd:Fr->aa4->(aa4->Prop)->(aa4->Prop)->(Nat->aa4->Prop)->Prop) (n r:aa4->Prop) (x:Nat->aa4->Prop):Prop :=
 ∃ (xs:List (List Value)) (D Q:az) (J:Nat->az) (Jr:az) (Jx:Nat->az) (L:List az),St w (J 0 :: D :: L)/\(∀ h,aD L h->Q h)/\WJ P g first cap D Q xs /\
  (∀ us,us∈xs->UX sh λvs=>us = vs) /\
  (∀ i,Ia sh λvs=>xs[i]? = some vs->∀ L' w,Ss L' L->St w (J i :: L') ->
   asg vs w λfr1 w1=>∃ M:az,St w1 (M :: L')/\∀ L' w,Ss L' L->St w (M :: L') ->
    bd fr1 w (λw'=>St w' (J (i + 1) :: L')) (λw'=>St w' (Jr :: L')) (λj w'=>yc (qo j exs) (St w' (Jx j :: L')))) /\
  (∀ w',St w' (J xs.length :: D :: L)->n w')/\(∀ w',St w' (Jr :: D :: L)->r w')/\U7 exs λj=>∀ w',St w' (Jx j :: D :: L)->x j w'
def den (A:bm):Code->Fr->aa4->(Fr->aa4->Prop)->(Fr->aa4->Prop)->(Nat->Fr->aa4->Prop)->Prop
 | .skip,fr,w,n,r,x=>n fr w
 | .region _ ops draw,fr,w,n,r,x=>Sr P Ty Fn E N ops.toList draw fr w n
 | .seq a b,fr,w,n,r,x =>
  (match O6 (nS b) A.joins with
  | some lv=>UD N lv (qj a) fr (λn'=>den A a fr w n' r x) (λfr w=>den A b fr w n r x)
  | none=>den A a fr w (λfr w=>den A b fr w n r x) r x)
 | .cond c a b,fr,w,n,r,x=>XL (ev fr c) (den A a fr w n r x) (den A b fr w n r x)
 | .block i a,fr,w,n,r,x =>
  (match look i A.blocks with
  | some lv=>UD N lv (qj a) fr (λn'=>den A a fr w n' r λj fr w=>bif Nat.beq j i then n' fr w else x j fr w) n
  | none=>den A a fr w n r λj fr w=>bif Nat.beq j i then n fr w else x j fr w)
 | .loop a,fr,w,n,r,x =>
  (match O6 (nS a) A.loops with
  | some lv=>WW N lv (qj a) fr w λfr w n'=>den A a fr w n' r x
  | none=>False)
 | .exit i,fr,w,n,r,x=>x i fr w
 | .ret,fr,w,n,r,x=>r fr w
 | .label _,fr,w,n,r,x=>n fr w
 | .scope a,fr,w,n,r,x=>den A a fr w n r x
 | .rangeFunc f ps a b,fr,w,n,r,x =>
  yc (!dL a && !dL b) (match ev fr f,O6 (nS (.seq a b)) A.rngs with
   | .func (.func g) first cap,some lv=>yc (tH ps.toList lv) (yc (Fn g)
    (WX P g first.toList cap.toList (xY lv) (fW b) w
     (λvs w K=>den A a (lx N fr lv vs) w K (λ_ _=>False) (λ_ _ _=>False))
     (λfr1 w n' r' x'=>den A b fr1 w (λ_ w=>n' w) (λ_ w=>r' w) (λj _ w=>x' j w)) (n fr) (r fr) (λj=>x j fr)))
   | _,_=>False)
 | _,fr,w,n,r,x=>False
end
def Nu (P:Program) (Ty:TypeId->Option dg) (rs:List ResultVar) (fr:Fr) (w:aa4) (R:Value->Prop):Prop :=
 let rec go:List ResultVar->(List Value->Prop)->Prop
  | [],k=>k []
  | .tmp t :: l,k=>go l λvs=>k (ew fr t :: vs)
  | .cell a t :: l,k=>(match ew fr a,Ty t with
   | .pointer a,some i=>nn a λad=>WH w ad i λv=>go l λvs=>k (v :: vs)
   | _,_=>False)
 go rs λvs=>match vs with | [v]=>R v | vs=>R (.tuple ⟨vs⟩)
def Ie:Nat->List Value->Fr
 | _,[]=>[]
 | i,v :: l=>(i,v) :: Ie (i + 1) l
def O9 (c:Code) (R:Value->aa4->Prop) (v:Value) (w:aa4):Prop:=bif dL c then ∀ a,hp a = hp w->R v a else R v w
def WK (P:Program) (Ty:TypeId->Option dg) (Fn:FuncId->Bool) (E:aa4->aa4->Prop) (A:bm) (fn:Func) (args:List Value) (w:aa4) (R:Value->aa4->Prop):Prop :=
 match fn.body with
 | some c=>bif XM args fn.ntmps then
   den P Ty Fn E fn.ntmps A c (Ie 0 args) w (λa b=>Nu P Ty fn.results.toList a b λa=>O9 c R a b) (λa b=>Nu P Ty fn.results.toList a b λa=>O9 c R a b) (λ_ _ _=>False)
  else False
 | none=>False
def Ch (P:Program) (E:aa4->aa4->Prop) (o:Oper) (ρ : Operand->Value) (w:aa4) (K:Value->aa4->Prop):Prop :=
 match (execOp ρ o).run P w with
 | .ok (.value v) w'=>E w w'/\K v w'
 | .ok .skip w'=>E w w'/\K undef w'
 | .ok (.enter f args) w'=>E w w'/\Calls P f args w' λe w''=>∃ v,e = .returned v/\E w' w''/\K v w''
 | .ok (.round l f tmps assign body) w'=>E w w'/\RoundIn Fence.wide 0 P l f tmps assign body w' λe w''=>∃ v,e = .returned v/\E w' w''/\K v w''
 | _=>False
theorem Ch.mono {P:Program} {E:aa4->aa4->Prop} {o:Oper} {ρ : Operand->Value} {w:aa4} {K K' : Value->aa4->Prop} (h:Ch P E o ρ w K) (hk:∀ v w',E w w'->K v w'->K' v w')
  (ht:∀ {a b c:aa4},E a b->E b c->E a c):Ch P E o ρ w K':=by
 unfold Ch at *
 split at h
 ·exact ⟨h.1,hk _ _ h.1 h.2⟩
 ·exact ⟨h.1,hk _ _ h.1 h.2⟩
 ·exact ⟨h.1,Calls.mono h.2 λe G ⟨v,O,u,z⟩=>⟨v,O,u,hk _ _ (ht h.1 u) z⟩⟩
 ·exact ⟨h.1,RoundIn.mono h.2 λe G ⟨v,O,u,z⟩=>⟨v,O,u,hk _ _ (ht h.1 u) z⟩⟩
 ·exact h.elim
def wQ (P:Program):TypeDesc->List (Nat × Nat × Bool)
 | .struct fs=>fs.toList.map λf=>(f.offset,P.cellsOf f.type,match P.underlying f.type with | some (.struct _) | some (.array ..)=>true | _=>false)
 | _=>[]
structure XU (P:Program) (t:TypeId) (i:dg) (info:TypeInfo) (d:TypeDesc):Prop where
 inf:P.info? t = some info
 und:P.underlying t = some d
 kd:i.kd = fb d
 size:i.size = info.size
 bytes:i.bytes = info.bytes
 zero:i.zero = info.zero
 flds:i.flds = wQ P d
 ok:zI P d = true
theorem oV {P:Program} {Ty:TypeId->Option dg} (h:dP P Ty) {t:TypeId} {i:dg} (hi:Ty t = some i):∃ info d,XU P t i info d:=by
 obtain ⟨c,this⟩:=h t i hi;unfold XJ at this
 split at this
 ·rename_i a b ha hb;simp only [Bool.cond_eq_ite] at this
  split at this
  ·rename_i hok;have e:=Option.some.inj this;exact ⟨a,b,ha,hb,(congrArg dg.kd e).symm,(congrArg dg.size e).symm,(congrArg dg.bytes e).symm,(congrArg dg.zero e).symm,(congrArg dg.flds e).symm.trans (by unfold wQ; rfl),hok⟩
  ·cases this
 ·cases this
theorem KC {Ty:TypeId->Option dg} {t:TypeId} {k:Kd} (h:aj Ty t = k) (hk:k≠.other):∃ i,Ty t = some i/\i.kd = k:=by
 unfold aj at h
 split at h
 ·rename_i i hi; exact ⟨i,hi,h⟩
 ·exact absurd h.symm hk
theorem dQ {d:TypeDesc} {e:TypeId} (h:Kd.slice e = fb d):d = .slice e:=by cases d <;> simp [fb] at h; subst h; rfl
theorem Ig {d:TypeDesc} {n:Nat} {e:TypeId} (h:Kd.array n e = fb d):d = .array n e:=by cases d <;> simp [fb] at h; obtain ⟨rfl,rfl⟩:=h; rfl
theorem KD {d:TypeDesc} {e:IntKind} (h:Kd.int e = fb d):d = .int e:=by cases d <;> simp [fb] at h; subst h; rfl
theorem oW {d:TypeDesc} (h:Kd.string = fb d):d = .string:=by cases d <;> simp [fb] at h; rfl
theorem Su {d:TypeDesc} (h:Kd.bool = fb d):d = .bool:=by cases d <;> simp [fb] at h; rfl
theorem KE {d:TypeDesc} {e:TypeId} (h:Kd.ptr e = fb d):d = .pointer e:=by cases d <;> simp [fb] at h; subst h; rfl
theorem U8 {d:TypeDesc} {k e:TypeId} (h:Kd.map k e = fb d):d = .map k e:=by cases d <;> simp [fb] at h; obtain ⟨rfl,rfl⟩:=h; rfl
theorem zN {d:TypeDesc} (h:Kd.struct = fb d):∃ fs,d = .struct fs:=by cases d <;> simp [fb] at h; exact ⟨_,rfl⟩
theorem Sv {d:TypeDesc} (h:Kd.func = fb d):∃ a b c,d = .func a b c:=by cases d <;> simp [fb] at h; exact ⟨_,_,_,rfl⟩
theorem db {P:Program} {Ty:TypeId->Option dg} (h:dP P Ty) {t:TypeId} {k:Kd} (hk:aj Ty t = k) (hne:k≠.other):∃ d,P.underlying t = some d/\k = fb d:=by
 obtain ⟨i,hi,u⟩:=KC hk hne;obtain ⟨G,d,z⟩:=oV h hi;exact ⟨d,z.und,by rw [<- u,z.kd]⟩
section
variable {P:Program} {w:aa4}
theorem aZ {t:TypeId} {d:TypeDesc} (h:P.underlying t = some d):(underlying t).run P w = .ok d w:=by simp [underlying,h]
theorem Ih {t:TypeId} {i:TypeInfo} (h:P.info? t = some i):(typeInfo t).run P w = .ok i w:=by simp [typeInfo,h]
theorem b8 {t:TypeId} {i:TypeInfo} (h:P.info? t = some i):(sizeOf t).run P w = .ok i.size w:=by simp [sizeOf,typeInfo,h]
theorem j9 {t:TypeId} {i:TypeInfo} {z:Value} (h:P.info? t = some i) (hz:i.zero = some z):(zeroValue t).run P w = .ok z w:=by simp [zeroValue,typeInfo,h,hz]
theorem dR {t:TypeId} {d:TypeDesc} (h:P.underlying t = some d):(isAgg t).run P w = .ok (fb d).isAgg w:=by
 simp only [isAgg,Sem.run_bind,aZ h,Result.andThen_ok];cases d <;> simp [fb,Kd.isAgg]
theorem vb {Ty:TypeId->Option dg} (h:dP P Ty) {t:TypeId} {s:Nat} (hs:Fl Ty t = some s):∃ info,P.info? t = some info/\info.size = s:=by
 unfold Fl at hs
 split at hs
 ·rename_i i hi;obtain ⟨info,d,u⟩:=oV h hi;cases hs;exact ⟨info,u.inf,u.size.symm⟩
 ·cases hs
theorem Bk:∀ (n i:Nat) (a:Addr) (vs:List Value),rowAt w a i n = some vs->vs.length = n/\∀ j v,vs[j]? = some v->w.cell? (a.add (i + j)) = some v
 | 0,i,a,vs,h=>by simp [rowAt] at h; subst h; simp
 | n + 1,i,a,vs,h=>by
  unfold rowAt at h
  split at h
  ·rename_i v us hv hus
   cases h
   obtain ⟨h1,h2⟩:=Bk n (i + 1) a us hus
   refine ⟨by simp [h1],λj u hj=>?_⟩
   cases j with
   | zero=>simpa using hj ▸ hv
   | succ j=>have:=h2 j u (by simpa using hj); rwa [show i + 1 + j = i + (j + 1) by omega] at this
  ·cases h
def ny (w:aa4) (a:Addr) (i:dg) (v:Value):Prop :=
 match i.kd.isAgg with
 | true=>∃ vs,rowAt w a 0 i.size = some vs/\v = .agg ⟨vs⟩
 | false=>w.cell? a = some v
theorem Fu {Ty:TypeId->Option dg} (h:dP P Ty) {t:TypeId} {i:dg} (hi:Ty t = some i) {a:Addr} {v:Value} (hl:ny w a i v):(loadVar t a).run P w = .ok v w:=by
 obtain ⟨u,d,z⟩:=oV h hi;unfold ny at hl;simp only [loadVar,Sem.run_bind,dR z.und,Result.andThen_ok,<- z.kd];cases hk:i.kd.isAgg with
 | true =>
  rw [hk] at hl;obtain ⟨vs,O,rfl⟩:=hl;obtain ⟨V,R⟩:=Bk _ _ _ _ O;have U:u.size = vs.length:=by rw [V,z.size]
  have:=run_loadCells_list (P:=P) w a vs (λj v G=>by have:=R j v G; rwa [ZV] at this);simp [b8 z.inf,U,this]
 | false =>
  rw [hk] at hl;simp [hl]
theorem Ii {a:Addr} {i:dg} {k:Value->Prop} (h:WH w a i k):∃ v,ny w a i v/\k v:=by
 unfold WH at h
 split at h
 ·exact h.elim
 ·split at h
  ·rename_i hk _;obtain ⟨vs,_,z,u⟩:=CM h;exact ⟨_,by unfold ny; rw [hk]; exact ⟨vs,z,rfl⟩,u⟩
  ·rename_i hk _;obtain ⟨v,hv,u⟩:=Cs.lr h;exact ⟨v,by unfold ny; rw [hk]; exact hv,u⟩
  ·exact h.elim
theorem O_ {C:aa4->Prop} {a:Addr} {i:dg} {k:Value->Prop} (h:XT C a i k):∃ v,(∀ w,C w->ny w a i v)/\k v:=by
 unfold XT at h
 split at h
 ·exact h.elim
 ·split at h
  ·rename_i hk _;obtain ⟨vs,_,G,u⟩:=CM h;exact ⟨_,λw z=>by unfold ny; rw [hk]; exact ⟨vs,G w z,rfl⟩,u⟩
  ·rename_i hk _;obtain ⟨v,hv,u⟩:=Cs.lr h;exact ⟨v,λw z=>by unfold ny; rw [hk]; exact hv w z,u⟩
  ·exact h.elim
end
section
variable {P:Program} {Ty:TypeId->Option dg}
theorem lU {wd:Bool} {k:IntKind} {z:Int} {K:Value->Prop} (h:H9 wd k z K):K (.int k (k.wrap z)):=by
 unfold H9 at h
 split at h
 ·split at h
  ·exact h
  ·rw [L4 h.1]; exact h.2
 ·exact h
theorem Nv {wd:Bool} {op:BinOp} {k k' : IntKind} {a b:Int} {t:TypeId} {K:Value->Prop} (hk:(GF op || Nat.beq (kx k) (kx k')) = true) (h:O1 wd op k a b K) :
  ∃ v,(∀ w,(Go.binOp op t (.int k a) (.int k' b)).run P w = .ok v w)/\K v:=by
 have u:GF op = false->k = k':=λz=>OZ (by simpa [z] using hk);unfold O1 at h;cases op <;> dsimp only at h
 case add=>refine ⟨_,λw=>?_,lU h⟩; simp [Go.binOp,<- u rfl,Op.intArith]
 case sub=>refine ⟨_,λw=>?_,lU h⟩; simp [Go.binOp,<- u rfl,Op.intArith]
 case mul=>refine ⟨_,λw=>?_,lU h⟩; simp [Go.binOp,<- u rfl,Op.intArith]
 case quo=>refine ⟨_,λw=>?_,lU h.2⟩; simp [Go.binOp,<- u rfl,Op.intDiv,show ¬ b = 0 from h.1]
 case rem=>refine ⟨_,λw=>?_,h.2⟩; simp [Go.binOp,<- u rfl,Op.intDiv,show ¬ b = 0 from h.1]
 case and=>refine ⟨_,λw=>?_,h⟩; simp [Go.binOp,<- u rfl,Op.intBits,l5]
 case or=>refine ⟨_,λw=>?_,h⟩; simp [Go.binOp,<- u rfl,Op.intBits,l5]
 case xor=>refine ⟨_,λw=>?_,h⟩; simp [Go.binOp,<- u rfl,Op.intBits,l5]
 case andNot=>refine ⟨_,λw=>?_,h⟩; simp [Go.binOp,<- u rfl,Op.intBits,l5]
 case eql=>refine ⟨_,λw=>?_,h⟩; simp [Go.binOp,<- u rfl,Op.intCmp]
 case neq=>refine ⟨_,λw=>?_,h⟩; simp [Go.binOp,<- u rfl,Op.intCmp]
 case lss=>refine ⟨_,λw=>?_,h⟩; simp [Go.binOp,<- u rfl,Op.intCmp]
 case leq=>refine ⟨_,λw=>?_,h⟩; simp [Go.binOp,<- u rfl,Op.intCmp]
 case gtr=>refine ⟨_,λw=>?_,h⟩; simp [Go.binOp,<- u rfl,Op.intCmp]
 case geq=>refine ⟨_,λw=>?_,h⟩; simp [Go.binOp,<- u rfl,Op.intCmp]
 case shl=>refine ⟨_,λw=>?_,h.2⟩; simp [Go.binOp,Op.shift,O0,Int.not_lt.2 h.1]
 case shr=>refine ⟨_,λw=>?_,h.2⟩; simp [Go.binOp,Op.shift,bQ,Int.not_lt.2 h.1]
theorem Nw {op:BinOp} {a b:ByteArray} {t:TypeId} {K:Value->Prop} (h:O2 op a b K) :
  ∃ v,(∀ w,(Go.binOp op t (.string a) (.string b)).run P w = .ok v w)/\K v:=by
 unfold O2 at h;cases op <;> dsimp only at h <;> first | exact h.elim | skip
 case add =>
  refine ⟨_,λw=>?_,h.2⟩;simp [Go.binOp,Op.stringOp];exact h.1
 all_goals (refine ⟨_,λw=>?_,h⟩; simp [Go.binOp,Op.stringOp])
theorem CV {op:BinOp} {t:TypeId} {xo yo:Operand} {x y:Value} {w:aa4} (h:∀ a b,¬ (x = .agg a/\y = .agg b)) (h2:¬ (x = .nilIface/\y = .nilIface)) :
  (eqGuard op t xo yo x y).run P w = .ok () w:=by
 unfold eqGuard
 by_cases u:(!(match op with | .eql | .neq=>true | _=>false)) = true
 ·cases op <;> simp_all
 ·cases op <;> simp at u <;> (cases x <;> cases y <;> simp_all)
theorem yf {op:BinOp} {t:TypeId} {x y:Value} {r:Bool} {K:Value->Prop} (he:∀ w,(Op.equal t x y).run P w = .ok r w)
  (hb:∀ op,(op = .eql\/op = .neq)->Go.binOp op t x y = (match op with | .eql=>(do pure (.bool (<- Op.equal t x y))) | _=>(do pure (.bool (!(<- Op.equal t x y)))))) (h:Uv op r K) :
  ∃ v,(∀ w,(Go.binOp op t x y).run P w = .ok v w)/\K v:=by
 unfold Uv at h;cases op <;> dsimp only at h <;> first | exact h.elim | skip
 case eql=>refine ⟨_,λw=>?_,h⟩; rw [hb .eql (.inl rfl)]; simp [he w]
 case neq=>refine ⟨_,λw=>?_,h⟩; rw [hb .neq (.inr rfl)]; simp [he w]
theorem fE {c:Bool} {p:Prop} (h:bif c then p else False):c = true/\p:=by cases c <;> simp_all
theorem Nx (d:Nat) {t:TypeId} (h:P.underlying t = some .bool) (a b:Bool) (w:aa4):(Op.equalIn (d + 1) t (.bool a) (.bool b)).run P w = .ok (a == b) w:=by
 simp [Op.equalIn,aZ h]
theorem KF {t:TypeId} (h:P.underlying t = some .bool) (a b:Bool) (w:aa4):(Op.equal t (.bool a) (.bool b)).run P w = .ok (a == b) w:=Nx 9999 h a b w
theorem GJ (d:Nat) {t e:TypeId} (h:P.underlying t = some (.pointer e)) (a:aa3) (w:aa4):(Op.equalIn (d + 1) t (.pointer a) (.pointer none)).run P w = .ok a.isNone w:=by
 cases a <;> simp [Op.equalIn,aZ h]
theorem EP {t e:TypeId} (h:P.underlying t = some (.pointer e)) (a:aa3) (w:aa4):(Op.equal t (.pointer a) (.pointer none)).run P w = .ok a.isNone w:=GJ 9999 h a w
theorem CW (d:Nat) {t e:TypeId} (h:P.underlying t = some (.slice e)) (a:aa3) (l c l' c' : Nat) (w:aa4):(Op.equalIn (d + 1) t (.slice a l c) (.slice none l' c')).run P w = .ok a.isNone w:=by
 cases a <;> simp [Op.equalIn,aZ h]
theorem BB {t e:TypeId} (h:P.underlying t = some (.slice e)) (a:aa3) (l c l' c' : Nat) (w:aa4):(Op.equal t (.slice a l c) (.slice none l' c')).run P w = .ok a.isNone w:=CW 9999 h a l c l' c' w
theorem GK (d:Nat) {t k e:TypeId} (h:P.underlying t = some (.map k e)) (a:Option Nat) (w:aa4):(Op.equalIn (d + 1) t (.map a) (.map none)).run P w = .ok a.isNone w:=by
 cases a <;> simp [Op.equalIn,aZ h]
theorem ER {t k e:TypeId} (h:P.underlying t = some (.map k e)) (a:Option Nat) (w:aa4):(Op.equal t (.map a) (.map none)).run P w = .ok a.isNone w:=GK 9999 h a w
theorem ES (d:Nat) {t:TypeId} {a b:Array TypeId} {c:Bool} (h:P.underlying t = some (.func a b c)) (f:Fn) (x y:Array Value) (w:aa4):(Op.equalIn (d + 1) t (.func f x y) .nilFunc).run P w = .ok false w:=by
 simp [Op.equalIn,aZ h]
theorem CX {t:TypeId} {a b:Array TypeId} {c:Bool} (h:P.underlying t = some (.func a b c)) (f:Fn) (x y:Array Value) (w:aa4):(Op.equal t (.func f x y) .nilFunc).run P w = .ok false w:=ES 9999 h f x y w
theorem jN {op:BinOp} {t:TypeId} {xo yo:Operand} {x y:Value} {K:Value->Prop} (h1:∀ a b,¬ (x = .agg a/\y = .agg b)) (h2:¬ (x = .nilIface/\y = .nilIface))
  (h:∃ v,(∀ w,(Go.binOp op t x y).run P w = .ok v w)/\K v):∃ v,(∀ w,(do eqGuard op t xo yo x y; Go.binOp op t x y:Sem Value).run P w = .ok v w)/\K v:=by
 obtain ⟨v,hv,u⟩:=h;exact ⟨v,λw=>by simp [CV h1 h2,hv],u⟩
theorem Sw {op:BinOp} {t:Bool} {K:Value->Prop} (h:XP op t λq=>K (.bool q)):Uv op t K:=by cases op <;> simp [XP,Uv] at h ⊢ <;> exact h
theorem Pa (hT:dP P Ty) {C:aa4->Prop} {rs:Sem Value->(Value->Prop)->Prop} (hrs:∀ s k,rs s k->∃ v,(∀ w,C w->s.run P w = .ok v w)/\k v)
  {op:BinOp} {t:TypeId} {xo yo:Operand} {x y:Value} {K:Value->Prop} (h:UZ Ty rs op t xo yo x y K) :
  ∃ v,(∀ w,C w->(do eqGuard op t xo yo x y; Go.binOp op t x y:Sem Value).run P w = .ok v w)/\K v:=by
 have all:(∃ v,(∀ w,(do eqGuard op t xo yo x y; Go.binOp op t x y:Sem Value).run P w = .ok v w)/\K v)->∃ v,(∀ w,C w->(do eqGuard op t xo yo x y; Go.binOp op t x y:Sem Value).run P w = .ok v w)/\K v :=
  λ⟨v,a,b⟩=>⟨v,λw _=>a w,b⟩
 unfold UZ at h
 split at h
 ·obtain ⟨G,h⟩:=fE h;exact all (jN σ σ (Nv G h))
 ·exact all (jN σ σ (Nw h))
 ·split at h
  ·rename_i hk;obtain ⟨d,z,u⟩:=db hT hk σ;rw [Su u] at z;exact all (jN σ σ (yf (KF z _ _) (λop O=>by rcases O with rfl | rfl <;> simp [Go.binOp]) h))
  ·exact h.elim
 ·unfold UY at h
  split at h
  ·obtain ⟨G,h⟩:=fE h;cases hk:aj Ty t <;> rw [hk] at G <;> simp [Uw] at G;obtain ⟨d,z,u⟩:=db hT hk σ;rw [KE u] at z;exact all (jN σ σ (yf (EP z _) (λop O=>by rcases O with rfl | rfl <;> simp [Go.binOp]) (Sw h)))
  ·obtain ⟨v,U,b,rfl,R⟩:=hrs _ _ h;exact ⟨_,U,R⟩
 ·obtain ⟨G,h⟩:=fE h;cases hk:aj Ty t <;> rw [hk] at G <;> simp [L6] at G;obtain ⟨d,z,u⟩:=db hT hk σ;rw [dQ u] at z;exact all (jN σ σ (yf (BB z _ _ _ _ _) (λop O=>by rcases O with rfl | rfl <;> simp [Go.binOp]) h))
 ·split at h
  ·rename_i hk;obtain ⟨d,z,u⟩:=db hT hk σ;obtain ⟨_,_,_,V⟩:=Sv u;rw [V] at z;exact all (jN σ σ (yf (CX z _ _ _) (λop O=>by rcases O with rfl | rfl <;> simp [Go.binOp]) h))
  ·exact h.elim
 ·obtain ⟨G,h⟩:=fE h;cases hk:aj Ty t <;> rw [hk] at G <;> simp [Ux] at G;obtain ⟨d,z,u⟩:=db hT hk σ;rw [U8 u] at z;exact all (jN σ σ (yf (ER z _) (λop O=>by rcases O with rfl | rfl <;> simp [Go.binOp]) h))
 ·obtain ⟨v,U,b,rfl,R⟩:=hrs _ _ h;exact ⟨_,U,R⟩
end
section
variable {P:Program} {Ty:TypeId->Option dg}
theorem dp (v:Value):cellsOf v = v.cells.toList:=by cases v <;> rfl
theorem Ij:∀ (vs:List Value) (off k:Nat) (cs:List Value),
  (vs.zipIdx k).foldl (λ(a:Array Value) (x:Value × Nat)=>a.setIfInBounds (off + x.2) x.1) ⟨cs⟩ = ⟨setMany cs (off + k) vs⟩
 | [],_,_,_=>rfl
 | v :: vs,off,k,cs=>by
  simp only [List.zipIdx_cons,List.foldl_cons]
  have:=Ij vs off (k + 1) (Gz cs (off + k) v)
  rw [<- Nat.add_assoc] at this
  rw [setMany,<- this]
  congr 1
  rw [L5]; simp
theorem fill_eq {pl:Nat->Option (Nat × Nat)}:∀ (ps:List (Nat × Value)) (cs out:List Value),yb pl cs ps = some out->Instr.fill pl ⟨cs⟩ ps = some ⟨out⟩
 | [],cs,out,h=>by simp [yb] at h; subst h; rfl
 | (i,v) :: ps,cs,out,h=>by
  unfold yb at h
  unfold Instr.fill
  cases hp:pl i with
  | none=>rw [hp] at h; simp at h
  | some os =>
   obtain ⟨off,size⟩:=os
   rw [hp] at h
   simp only [Bool.cond_eq_ite] at h
   split at h
   ·rename_i hc
    simp only [Zd] at hc
    have h1:=tC _ _ hc.1
    have h2:=OV _ _ hc.2
    rw [dp] at h1
    have h1' : v.cells.size = size:=by simpa using h1
    have h2' : off + v.cells.size<=cs.length:=ω
    have ih:=fill_eq ps _ out h
    simp only [h1',ne_eq,not_true_eq_false,List.size_toArray,decide_false,Bool.false_or]
    rw [YZ (by simp; omega)]
    rw [<- ih]
    congr 1
    have:=Ij v.cells.toList off 0 cs
    rw [dp,show off = off + 0 from rfl,<- this]
    rw [<- Array.foldl_toList]
    simp [Array.toList_zipIdx]
   ·cases h
theorem Ik (fr:Fr):∀ l,Bh fr l = l.map λ(i,x)=>(i,ev fr x)
 | []=>rfl
 | (i,x) :: l=>by simp [Bh,Ik fr l]
theorem zO {o:Option (List Value)} {k:List Value->Prop} (h:O3 o k):∃ l,o = some l/\k l:=by
 unfold O3 at h; split at h
 ·exact ⟨_,rfl,h⟩
 ·exact h.elim
theorem yg {a:aa3} {k:Addr->Prop} (h:nn a k):∃ x,a = some x/\k x:=by
 unfold nn at h; split at h
 ·exact ⟨_,rfl,h⟩
 ·exact h.elim
theorem parts_eq (fr:Fr) (ps:Array (Nat × Operand)):(ps.map λ(i,x)=>(i,ev fr x)).toList = Bh fr ps.toList:=by
 rw [Ik]; simp
theorem Fv {α β : Type} (f:α->Sem β) (g:α->β) (w:aa4):∀ (l:List α),(∀ x∈l,(f x).run P w = .ok (g x) w)->(l.mapM f).run P w = .ok (l.map g) w
 | [],_=>σ
 | x :: l,h=>by
  simp only [List.mapM_cons,Sem.run_bind,h x σ,Result.andThen_ok,Fv f g w l (λy hy=>h y (by simp [hy])),Sem.run_pure,ZF]
theorem Pb {α β : Type} (f:α->Sem β) (g:α->β) (w:aa4) (a:Array α) (h:∀ x∈a.toList,(f x).run P w = .ok (g x) w):(a.mapM f).run P w = .ok (a.map g) w:=by
 rw [Array.mapM_eq_mapM_toList];simp only [Sem.run_map,Fv f g w a.toList h,Result.andThen_ok];congr 1;apply aan;simp
theorem run_places (fs:Array Go.Field) (w:aa4) (hsz:∀ f∈fs.toList,∃ i,P.info? f.type = some i) :
  (fs.mapM λf=>do pure (f.offset,<- sizeOf f.type):Sem (Array (Nat × Nat))).run P w = .ok (fs.map λf=>(f.offset,P.cellsOf f.type)) w:=by
 refine Pb _ _ w fs λf hf=>?_;obtain ⟨i,hi⟩:=hsz f hf;simp [b8 hi,Program.cellsOf,hi]
theorem tI {fs:Array Go.Field} (h:zI P (.struct fs) = true):∀ f∈fs.toList,∃ i,P.info? f.type = some i:=by
 intro f hf;simp only [zI,aaD] at h;have:=h f hf;simp only [Zd] at this;exact aaE.1 this.1
theorem CY {fs:Array Go.Field} (h:zI P (.struct fs) = true):∀ f∈fs.toList,∃ i,P.underlying f.type = some i:=by
 intro f hf;simp only [zI,aaD] at h;have:=h f hf;simp only [Zd] at this;exact aaE.1 this.2
theorem KG {p q:Nat->Option (Nat × Nat)} (h:∀ i,p i = q i):∀ (ps:List (Nat × Value)) (cs:List Value),yb p cs ps = yb q cs ps:=by
 have:p = q:=funext h;subst this; intros; rfl
theorem Il (fs:Array Go.Field) (i:Nat):CQ (wQ P (.struct fs)) i = (fs.map λf=>(f.offset,P.cellsOf f.type))[i]?:=by
 simp only [CQ,wQ,YW,Array.getElem?_map,ZD];cases fs[i]? <;> rfl
theorem Pc {fr:Fr} {x:Option Operand} {k:Option Int->Prop} (h:L7 fr x k):(x = none/\k none)\/∃ y kk n,x = some y/\ev fr y = .int kk n/\k (some n):=by
 unfold L7 at h
 split at h
 ·exact .inl ⟨rfl,h⟩
 ·split at h
  ·rename_i y _ kk n hv; exact .inr ⟨y,kk,n,rfl,hv,h⟩
  ·exact h.elim
theorem dj {k:IntKind} {n:Int} {y:Nat} {c:BoundsCode} {w:aa4} (h:0<=n/\n<=y):(Instr.sliceBound (.int k n) y c).run P w = .ok n.toNat w:=by
 simp [Instr.sliceBound,asIntOf,h]
end
section
variable {P:Program} {Ty:TypeId->Option dg}
theorem gK {fr:Fr} {x:Operand} {k:Option Int->Prop} (h:L7 fr (some x) k):∃ kk n,ev fr x = .int kk n/\k (some n):=by
 rcases Pc h with ⟨h,_⟩ | ⟨y,kk,n,h,z,u⟩
 ·cases h
 ·cases h; exact ⟨kk,n,z,u⟩
theorem gL {fr:Fr} {k:Option Int->Prop} (h:L7 fr none k):k none:=h
theorem ET {t e:TypeId} {info:TypeInfo} (hu:P.underlying t = some (.slice e)) (hin:P.info? e = some info) {a:aa3} {len cap:Nat} {fr:Fr} {lo hi mx:Option Operand} {K:Value->Prop}
  (h:L7 fr lo λlo=>L7 fr hi λhi=>L7 fr mx λmx=>lR a len cap lo hi mx info.size λa l c=>K (.slice a l c)) :
  ∃ v,(∀ w,(Instr.sliceAt t (.slice a len cap) (lo.map (ev fr)) (hi.map (ev fr)) (mx.map (ev fr))).run P w = .ok v w)/\K v:=by
 cases lo with
 | none =>
  have h:=gL h;cases hi with
  | none =>
   have h:=gL h;cases mx with
   | none =>
    have h:=gL h;obtain ⟨_,_,_,h⟩:=h;refine ⟨_,λw=>?_,h⟩;simp [Instr.sliceAt,Instr.slice,Instr.sliceBounds,aZ hu,b8 hin,fT,aN]
   | some mx =>
    obtain ⟨V,m,O,h⟩:=gK h;obtain ⟨z,_⟩:=h;simp at z
  | some hi =>
   obtain ⟨X,u,R,h⟩:=gK h;cases mx with
   | none =>
    have h:=gL h;obtain ⟨_,z,_,h⟩:=h;have z:0<=u/\u<=(cap:Int):=by simpa using z
    refine ⟨_,λw=>?_,h⟩;simp [Instr.sliceAt,Instr.slice,Instr.sliceBounds,aZ hu,b8 hin,fT,aN,R,dj z]
   | some mx =>
    obtain ⟨V,m,O,h⟩:=gK h;obtain ⟨z,G,_,h⟩:=h;have z:0<=m/\m<=(cap:Int):=by simpa using z
    have G:0<=u/\u<=m:=by simpa using G
    refine ⟨_,λw=>?_,h⟩;simp [Instr.sliceAt,Instr.slice,Instr.sliceBounds,aZ hu,b8 hin,fT,aN,R,O,dj z,dj (y:=m.toNat) (show 0<=u/\u<=(m.toNat:Nat) by omega)]
 | some lo =>
  obtain ⟨Y,l,U,h⟩:=gK h;cases hi with
  | none =>
   have h:=gL h;cases mx with
   | none =>
    have h:=gL h;obtain ⟨_,_,G,h⟩:=h;have G:0<=l/\l<=(len:Int):=by simpa using G
    refine ⟨_,λw=>?_,h⟩;simp [Instr.sliceAt,Instr.slice,Instr.sliceBounds,aZ hu,b8 hin,fT,aN,U,dj G]
   | some mx =>
    obtain ⟨V,m,O,h⟩:=gK h;obtain ⟨z,_⟩:=h;simp at z
  | some hi =>
   obtain ⟨X,u,R,h⟩:=gK h;cases mx with
   | none =>
    have h:=gL h;obtain ⟨_,z,G,h⟩:=h;have z:0<=u/\u<=(cap:Int):=by simpa using z
    have G:0<=l/\l<=u:=by simpa using G
    refine ⟨_,λw=>?_,h⟩;simp [Instr.sliceAt,Instr.slice,Instr.sliceBounds,aZ hu,b8 hin,fT,aN,U,R,dj z,dj (y:=u.toNat) (show 0<=l/\l<=(u.toNat:Nat) by omega)]
   | some mx =>
    obtain ⟨V,m,O,h⟩:=gK h;obtain ⟨z,G,W,h⟩:=h;have z:0<=m/\m<=(cap:Int):=by simpa using z
    have G:0<=u/\u<=m:=by simpa using G
    have W:0<=l/\l<=u:=by simpa using W
    refine ⟨_,λw=>?_,h⟩;simp [Instr.sliceAt,Instr.slice,Instr.sliceBounds,aZ hu,b8 hin,fT,aN,U,R,O,dj z,dj (y:=m.toNat) (show 0<=u/\u<=(m.toNat:Nat) by omega),dj (y:=u.toNat) (show 0<=l/\l<=(u.toNat:Nat) by omega)]
theorem EU {t:TypeId} (hu:P.underlying t = some .string) {s:ByteArray} {fr:Fr} {lo hi:Option Operand} {K:Value->Prop}
  (h:L7 fr lo λlo=>L7 fr hi λhi=>WT s lo hi λs=>K (.string s)) :
  ∃ v,(∀ w,(Instr.sliceAt t (.string s) (lo.map (ev fr)) (hi.map (ev fr)) none).run P w = .ok v w)/\K v:=by
 cases lo with
 | none =>
  have h:=gL h;cases hi with
  | none =>
   have h:=gL h;obtain ⟨_,_,h⟩:=h;refine ⟨_,λw=>?_,h⟩;simp [Instr.sliceAt,Instr.slice,Instr.sliceBounds,aZ hu]
  | some hi =>
   obtain ⟨U,u,G,h⟩:=gK h;obtain ⟨z,_,h⟩:=h;have z:0<=u/\u<=(s.size:Int):=by simpa using z
   refine ⟨_,λw=>?_,h⟩;simp [Instr.sliceAt,Instr.slice,Instr.sliceBounds,aZ hu,G,dj z]
 | some lo =>
  obtain ⟨V,l,R,h⟩:=gK h;cases hi with
  | none =>
   have h:=gL h;obtain ⟨_,O,h⟩:=h;have O:0<=l/\l<=(s.size:Int):=by simpa using O
   refine ⟨_,λw=>?_,h⟩;simp [Instr.sliceAt,Instr.slice,Instr.sliceBounds,aZ hu,R,dj O]
  | some hi =>
   obtain ⟨U,u,G,h⟩:=gK h;obtain ⟨z,O,h⟩:=h;have z:0<=u/\u<=(s.size:Int):=by simpa using z
   have O:0<=l/\l<=u:=by simpa using O
   refine ⟨_,λw=>?_,h⟩;simp [Instr.sliceAt,Instr.slice,Instr.sliceBounds,aZ hu,R,G,dj z,dj (y:=u.toNat) (show 0<=l/\l<=(u.toNat:Nat) by omega)]
theorem tJ (hT:dP P Ty) {C:aa4->Prop} {ld:Addr->dg->(Value->Prop)->Prop} {rs:Sem Value->(Value->Prop)->Prop}
  (hld:∀ ad i k,ld ad i k->∃ v,(∀ w,C w->ny w ad i v)/\k v) (hrs:∀ s k,rs s k->∃ v,(∀ w,C w->s.run P w = .ok v w)/\k v)
  {o:Oper} {fr:Fr} {K:Value->Prop} (h:tF P Ty ld rs o fr K):∃ v,(∀ w,C w->(execOp (ev fr) o).run P w = .ok (.value v) w)/\K v:=by
 obtain ⟨b4,op,b3,pos,aI,aT⟩:=o;unfold tF at h;cases op <;> dsimp only at h <;> first | exact h.elim | skip
 case move x=>exact ⟨_,λw _=>rfl,h⟩
 case assign x=>exact ⟨_,λw _=>rfl,h⟩
 case pick c a b =>
  split at h
  ·rename_i t ht;refine ⟨_,λw _=>?_,h⟩;simp only [execOp,Sem.run_bind,ht,asBool,Sem.run_pure,Result.andThen_ok];cases t <;> simp
  ·exact h.elim
 case build t ps =>
  split at h
  ·rename_i i hi;obtain ⟨Y,d,R⟩:=oV hT hi
   split at h
   ·rename_i z hz hk;obtain ⟨fs,rfl⟩:=zN (hk ▸ R.kd);obtain ⟨cs,U,hK⟩:=zO h;refine ⟨_,λw _=>?_,hK⟩;rw [R.flds,KG (Il fs)] at U;have aa : Y.zero = some z:=by rw [<- R.zero,hz]
    have hf:=fill_eq _ _ _ U;rw [dp] at hf;have hf:Instr.fill _ z.cells _ = _:=hf;have b0:=run_places (P:=P) fs w (tI R.ok);simp only [execOp,Instr.build,Sem.run_bind,j9 R.inf aa,aZ R.und,Result.andThen_ok,b0,parts_eq];simp only [hf,Sem.run_pure,Result.andThen_ok]
   ·rename_i z n e hz hk;have he:=Ig (hk ▸ R.kd);subst he
    split at h
    ·rename_i s hs;obtain ⟨ie,Z,b2⟩:=vb hT hs;obtain ⟨cs,U,hK⟩:=zO h;refine ⟨_,λw _=>?_,hK⟩;have aa : Y.zero = some z:=by rw [<- R.zero,hz]
     have hf:=fill_eq _ _ _ U;rw [dp] at hf;have hf:Instr.fill _ z.cells _ = _:=hf;simp only [execOp,Instr.build,Sem.run_bind,j9 R.inf aa,aZ R.und,Result.andThen_ok,b8 Z,b2,parts_eq];simp only [hf,Sem.run_pure,Result.andThen_ok]
    ·exact h.elim
   ·exact h.elim
  ·exact h.elim
 case load t x =>
  split at h
  ·rename_i a i hx hi;obtain ⟨ad,rfl,h⟩:=yg h;obtain ⟨v,hv,hK⟩:=hld _ _ _ h;refine ⟨v,λw hw=>?_,hK⟩;simp [execOp,Instr.loadAt,hx,Instr.sureAddr,Fu hT hi (hv w hw)]
  ·exact h.elim
 case nilCheck x =>
  split at h
  ·rename_i a hx;obtain ⟨ad,rfl,h⟩:=yg h;exact ⟨_,λw _=>by simp [execOp,hx],h⟩
  ·rename_i hx; exact ⟨_,λw _=>by simp [execOp,hx],h⟩
  ·rename_i hx; exact ⟨_,λw _=>by simp [execOp,hx],h⟩
  ·exact h.elim
 case binOp op t x y yt =>
  obtain ⟨v,hv,hK⟩:=Pa hT (rs:=Yt (L8 (aj Ty t)) rs) (λs k h=>by
   cases hb:L8 (aj Ty t) with
   | true=>rw [hb] at h; exact h.elim
   | false=>rw [hb] at h; exact hrs s k h) h
  refine ⟨v,λw hw=>?_,hK⟩;have:=hv w hw;simp only [execOp,Sem.run_bind] at this ⊢;rw [this]; rfl
 case unOp op t x =>
  split at h
  ·rename_i hx; exact ⟨_,λw _=>by simp [execOp,hx,Op.unary],h⟩
  ·rename_i hx; exact ⟨_,λw _=>by simp [execOp,hx,Op.unary,Op.intArith],lU h⟩
  ·rename_i hx; exact ⟨_,λw _=>by simp [execOp,hx,Op.unary,Op.intBits,l5],h⟩
  ·exact h.elim
 case convert s d x =>
  split at h
  ·rename_i k1 k2 k3 n X h2 hx;obtain ⟨d1,G,O⟩:=db hT X σ;obtain ⟨d2,a5,a6⟩:=db hT h2 σ;rw [KD O] at G; rw [KD a6] at a5;exact ⟨_,λw _=>by simp [execOp,hx,Go.convert,aZ G,aZ a5,Conv.intToInt],lU h⟩
  ·rename_i s X h2 hx;obtain ⟨d1,G,O⟩:=db hT X σ;obtain ⟨d2,a5,a6⟩:=db hT h2 σ;rw [oW O] at G; rw [oW a6] at a5;exact ⟨_,λw _=>by simp [execOp,hx,Go.convert,aZ G,aZ a5],h⟩
  ·exact h.elim
 case makeInterface t x =>
  split at h
  ·rename_i i hi;obtain ⟨Y,d,R⟩:=oV hT hi
   split at h
   ·exact h.elim
   ·rename_i hk;refine ⟨_,λw _=>?_,h⟩;simp only [execOp,Instr.makeInterface,Sem.run_bind,aZ R.und,Result.andThen_ok];cases d <;> simp_all [R.kd,fb]
  ·exact h.elim
 case makeFunc fn first cap =>
  refine ⟨_,λw _=>?_,h⟩;have e:∀ a:Array Operand,a.map (ev fr) = ⟨a.toList.map (ev fr)⟩:=λa=>by apply aan; simp
  simp [execOp,Instr.makeFunc,CO,e]
 case slice t x lo hi mx =>
  split at h
  ·rename_i e a len cap X hx;obtain ⟨d1,G,O⟩:=db hT X σ;rw [dQ O] at G
   split at h
   ·rename_i sz W;obtain ⟨ie,Z,rfl⟩:=vb hT W;obtain ⟨v,hv,hK⟩:=ET G Z h;exact ⟨v,λw _=>by simp [execOp,hx,hv w],hK⟩
   ·exact h.elim
  ·rename_i s X hx;obtain ⟨d1,G,O⟩:=db hT X σ;rw [oW O] at G
   split at h
   ·obtain ⟨v,hv,hK⟩:=EU G h;exact ⟨v,λw _=>by simp [execOp,hx,hv w],hK⟩
   ·exact h.elim
  ·exact h.elim
 case fieldAddr s x f =>
  split at h
  ·rename_i i a hi hx;obtain ⟨Y,d,R⟩:=oV hT hi
   split at h
   ·rename_i off sz g hk hf;obtain ⟨fs,rfl⟩:=zN (hk ▸ R.kd);obtain ⟨U,h⟩:=fE h;obtain ⟨ad,rfl,h⟩:=yg h;refine ⟨_,λw _=>?_,h⟩;rw [R.flds] at hf;simp only [wQ,YW,aaP,Prod.mk.injEq] at hf;obtain ⟨F,hF,rfl,W,_⟩:=hf;obtain ⟨iF,a1⟩:=tI R.ok F (YV hF)
    have b1:iF.size≠0:=by
     have:P.cellsOf F.type = iF.size:=by simp [Program.cellsOf,a1]
     rw [<- this,W];have:=Nat.le_of_ble_eq_true U; omega
    have a0 : fs[f]? = some F:=by simpa using hF
    simp [execOp,hx,Instr.fieldAt,aZ R.und,a0,Instr.sureAddr,fieldPlace,b8 a1,b1,U0]
   ·exact h.elim
  ·exact h.elim
 case field t x f =>
  split at h
  ·rename_i i hi;obtain ⟨Y,d,R⟩:=oV hT hi
   split at h
   ·rename_i hk;obtain ⟨fs,rfl⟩:=zN (hk ▸ R.kd);unfold WU at h
    split at h
    ·rename_i cs off sz hx hf;rw [R.flds] at hf;simp only [wQ,YW,aaP,Prod.mk.injEq] at hf;obtain ⟨F,hF,rfl,rfl,a8⟩:=hf;obtain ⟨iF,a1⟩:=tI R.ok F (YV hF);obtain ⟨dF,a3⟩:=CY R.ok F (YV hF);have a0 : fs[f]? = some F:=by simpa using hF
     have a4:(fb dF).isAgg = true:=by rw [a3] at a8; cases dF <;> simp_all [fb,Kd.isAgg]
     have W:P.cellsOf F.type = iF.size:=by simp [Program.cellsOf,a1]
     refine ⟨_,λw _=>?_,h⟩;simp only [execOp,hx,Instr.field,Sem.run_bind,aZ R.und,a0,asAgg,Sem.run_pure,Result.andThen_ok,part,dR a3,a4,if_true,b8 a1,W];congr 3;apply aan;simp [List.extract_eq_take_drop]
    ·rename_i cs off sz hx hf;rw [R.flds] at hf;simp only [wQ,YW,aaP,Prod.mk.injEq] at hf;obtain ⟨F,hF,rfl,rfl,a8⟩:=hf;obtain ⟨dF,a3⟩:=CY R.ok F (YV hF);have a0 : fs[f]? = some F:=by simpa using hF
     have a4:(fb dF).isAgg = false:=by rw [a3] at a8; cases dF <;> simp_all [fb,Kd.isAgg]
     split at h
     ·rename_i u hu;refine ⟨_,λw _=>?_,h⟩;have a9 : cs[F.offset]? = some u:=by simpa using hu
      simp [execOp,hx,Instr.field,aZ R.und,a0,asAgg,part,dR a3,a4,a9]
     ·exact h.elim
    ·exact h.elim
   ·exact h.elim
  ·exact h.elim
 case indexAddr t x ix =>
  split at h
  ·rename_i e a len cap kk n X hx hix;obtain ⟨d1,G,O⟩:=db hT X σ;rw [dQ O] at G
   split at h
   ·rename_i sz W;obtain ⟨ie,Z,rfl⟩:=vb hT W;obtain ⟨ad,rfl,X,h2,h⟩:=h;refine ⟨_,λw _=>?_,h⟩;simp [execOp,hx,hix,Instr.indexAt,asIntOf,aZ G,b8 Z,X,h2,aN]
   ·exact h.elim
  ·rename_i m e a kk n X hx hix;obtain ⟨d1,G,O⟩:=db hT X σ;rw [Ig O] at G
   split at h
   ·rename_i sz W;obtain ⟨ie,Z,rfl⟩:=vb hT W;obtain ⟨ad,rfl,X,h2,h⟩:=h;refine ⟨_,λw _=>?_,h⟩;simp [execOp,hx,hix,Instr.indexAt,asIntOf,aZ G,b8 Z,X,h2,aN,Instr.sureAddr]
   ·exact h.elim
  ·exact h.elim
 case index t x ix =>
  split at h
  ·rename_i s kk n X hx hix;obtain ⟨d1,G,O⟩:=db hT X σ;rw [oW O] at G;obtain ⟨⟨X,h2⟩,h⟩:=h;refine ⟨_,λw _=>?_,h⟩;have ab:n.toNat < s.size:=ω
   have ac : n.toNat < s.data.size:=ab
   have e:s[n.toNat]? = some (sb s n.toNat):=by
    rw [getElem?_pos s n.toNat ab];simp only [sb,ac,Array.getElem?_eq_getElem,Option.getD_some];rfl
   simp [execOp,hx,hix,Instr.index,asIntOf,aZ G,X,e]
  ·obtain ⟨v,hv,hK⟩:=hrs _ _ h;exact ⟨v,λw hw=>by simp only [execOp,Sem.run_bind,hv w hw]; rfl,Sh.eH hK⟩
 case extract t i =>
  unfold Uz at h
  split at h
  ·rename_i vs hx
   split at h
   ·rename_i u hu;refine ⟨u,λw _=>?_,h⟩;have a9 : vs[i]? = some u:=by simpa using hu
    simp [execOp,hx,Instr.extract,a9]
   ·exact h.elim
  ·exact h.elim
 case call c =>
  obtain ⟨am,a7,V⟩:=c;have R:a7.map (ev fr) = ⟨zJ fr a7.toList⟩:=by rw [CO]; apply aan; simp
  split at h
  ·rename_i a l cap U hv;dsimp only at U hv;subst U
   split at h
   ·rename_i t ts hts;obtain ⟨hk,h⟩:=fE h;cases hkk:aj Ty t <;> rw [hkk] at hk <;> simp [L6] at hk;obtain ⟨d1,G,O⟩:=db hT hkk σ;rw [dQ O] at G;refine ⟨_,λw _=>?_,h⟩;have ht:V[0]? = some t:=by rw [<- ZD,hts]; rfl
    simp [execOp,resolve,invoke,builtin,Builtin.len_,R,hv,ht,aZ G,goInt]
   ·exact h.elim
  ·rename_i s U hv;dsimp only at U hv;subst U
   split at h
   ·rename_i t ts hts
    split at h
    ·rename_i hkk;obtain ⟨d1,G,O⟩:=db hT hkk σ;rw [oW O] at G;refine ⟨_,λw _=>?_,h⟩;have ht:V[0]? = some t:=by rw [<- ZD,hts]; rfl
     simp [execOp,resolve,invoke,builtin,Builtin.len_,R,hv,ht,aZ G,goInt]
    ·exact h.elim
   ·exact h.elim
  ·rename_i U _ _;dsimp only at U;subst U;obtain ⟨v,hv,hK⟩:=hrs _ _ h;refine ⟨v,λw hw=>?_,Sh.eH hK⟩;have:=hv w hw;simp only [execOp,resolve,invoke,builtin,Sem.run_bind,Sem.run_pure,Result.andThen_ok,R,this]
  ·rename_i k a k' b U hv;dsimp only at U hv;subst U;refine ⟨_,λw _=>?_,h⟩;simp [execOp,resolve,invoke,builtin,Builtin.min_,R,hv,Builtin.min2]
  ·rename_i k a k' b U hv;dsimp only at U hv;subst U;refine ⟨_,λw _=>?_,h⟩;simp [execOp,resolve,invoke,builtin,Builtin.max_,R,hv,Builtin.max2]
  ·exact h.elim
end
def tK (P : Program) (Fn : FuncId -> Bool) : Prop := ∀ g, Fn g = true -> ∃ fn, P.funcs[g]? = some fn /\ fn.body.isNone = false /\ (fn.name == "runtime.NumGoroutine") = false
def Pd (P : Program) (g : FuncId) : Bool := match P.funcs[g]? with | some fn => !fn.body.isNone && !(fn.name == "runtime.NumGoroutine") | none => false
def Md (P:Program) (lo:Nat):Nat->Bool
 | 0=>true
 | n + 1=>Pd P (lo + n) && Md P lo n
theorem Im {P:Program} {lo:Nat}:∀ {n:Nat},Md P lo n = true->∀ g,lo<=g->g < lo + n->Pd P g = true
 | 0,_,g,h1,h2=>ω
 | n + 1,h,g,h1,h2=>by
  simp only [Md,Zd] at h
  by_cases hg:g = lo + n
  ·rw [hg]; exact h.1
  ·exact Im h.2 g h1 ω
theorem yh {P:Program} {lo hi:Nat} (h:Md P lo (hi + 1 - lo) = true):tK P λg=>Nat.ble lo g && Nat.ble g hi:=by
 intro g u;simp only [Zd,Nat.ble_eq] at u;have:=Im h g u.1 ω;unfold Pd at this
 split at this
 ·rename_i fn hfn;simp only [Zd,aag] at this;exact ⟨fn,hfn,this.1,this.2⟩
 ·cases this
section
variable {P:Program} {Ty:TypeId->Option dg} {Fn:FuncId->Bool} {E:aa4->aa4->Prop}
theorem fX {o:Oper} {ρ : Operand->Value} {w w' : aa4} {K:Value->aa4->Prop} {v:Value} (h:(execOp ρ o).run P w = .ok (.value v) w') (hE:E w w') (hK:K v w'):Ch P E o ρ w K:=by
 unfold Ch; rw [h]; exact ⟨hE,hK⟩
theorem Io {o:Oper} {ρ : Operand->Value} {w w' : aa4} {K:Value->aa4->Prop} (h:(execOp ρ o).run P w = .ok .skip w') (hE:E w w') (hK:K undef w'):Ch P E o ρ w K:=by
 unfold Ch; rw [h]; exact ⟨hE,hK⟩
theorem Ev.cO (w0:aa4):∀ (vs:List Value) (w:aa4) (a:Addr) (i:Nat),Ev w0 w->Ev w0 (cO w a i vs)
 | [],_,_,_,h=>h
 | v :: vs,w,a,i,h=>Ev.cO w0 vs _ a (i + 1) (h.trans (Ev.setCell _ _ _))
theorem GM (v:Value):aG v = v.oneCell':=by cases v <;> rfl
theorem yi {w:aa4} {a b:Addr} {v u:Value} (h:w.cell? b = some u):∃ u',(w.setCell a v).cell? b = some u':=by
 unfold World.cell? World.setCell at *;simp only [ZW]
 split at h
 ·rename_i c el fz hb
  split at h
  ·cases h
  ·rename_i hs
   by_cases z:a.block = b.block
   ·simp only [z,if_true,hb,ZY];rw [YZ hs]
    split
    ·exact ⟨u,h⟩
    ·by_cases G:a.off = b.off
     ·have:=(ZG.1 h).1;exact ⟨v,by rw [G]; simp [this]⟩
     ·exact ⟨u,by rw [aad G]; exact h⟩
   ·simp only [z,if_false,hb];rw [YZ hs];exact ⟨u,h⟩
 ·cases h
theorem CZ (w:aa4) (a b:Addr) (v:Value):(w.setCell a v).frozen? b = w.frozen? b:=by
 unfold World.frozen? World.setCell;simp only [ZW]
 by_cases u:a.block = b.block
 ·simp only [u,if_true];cases h:w.heap[b.block]? with
  | none=>rfl
  | some o=>cases o <;> rfl
 ·simp only [u,if_false]
theorem oX {w:aa4} {b:Addr} {x:Value} (a:Addr):∀ (vs:List Value) (i:Nat),j8 w a i vs->j8 (w.setCell b x) a i vs
 | [],_,_=>trivial
 | v :: vs,i,⟨h1,⟨u,h2⟩,h3,h4⟩=>⟨h1,yi h2,by rw [CZ]; exact h3,oX a vs (i + 1) h4⟩
theorem jf (a:Addr):∀ (vs:List Value) (w:aa4) (i:Nat),j8 w a i vs->(storeCells a vs i).run P w = .ok () (cO w a i vs)
 | [],w,i,_=>by simp [storeCells,cO]
 | v :: vs,w,i,⟨h1,⟨u,h2⟩,h3,h4⟩=>by
  have ih:=jf a vs (w.setCell (a.add i) v) (i + 1) (oX a vs (i + 1) h4)
  have hs:=run_store P w (a.add i) v .plain (by rw [<- GM]; exact h1)
  simp only [h2,h3] at hs
  simp only [storeCells,Sem.run_bind,hs,cO]
  simpa using ih
theorem add_zero' (a:Addr):a.add 0 = a:=by simp [Addr.add]
theorem Sx (hT:dP P Ty) {t:TypeId} {i:dg} (hi:Ty t = some i) {w:aa4} {ad:Addr} {v:Value} {k:aa4->Prop} (h:XO w ad i v k) :
  ∃ w',(storeVar t ad v).run P w = .ok () w'/\Ev w w'/\k w':=by
 obtain ⟨G,d,R⟩:=oV hT hi;unfold XO at h;cases hk:i.kd.isAgg with
 | true =>
  rw [hk] at h;cases v <;> dsimp only at h <;> first | exact h.elim | skip
  rename_i cs;obtain ⟨V,W,U⟩:=fE h;have Z:=tC _ _ V;refine ⟨_,?_,Ev.cO w _ _ _ _ (Ev.refl _),U _ rfl⟩;have O:cs.size = G.size:=by rw [<- R.size,<- Z]; simp
  simp [storeVar,b8 R.inf,Value.cells,O,jf _ _ _ _ W]
 | false =>
  rw [hk] at h;have h' : bif Nat.beq i.size 1 then st1 w ad v k else False:=by cases v <;> exact h
  obtain ⟨V,⟨u,W⟩,U,X,Y⟩:=fE h';have O:G.size = 1:=by rw [<- R.size]; exact aaB V
  refine ⟨_,?_,Ev.setCell _ _ _,Y _ rfl⟩;have z:v.cells = #[v]:=by cases v <;> first | rfl | cases X
  have:=jf (P:=P) ad [v] w 0 ⟨X,⟨u,by rw [add_zero']; exact W⟩,by rw [add_zero']; exact U,trivial⟩;simp only [cO,add_zero'] at this;simp [storeVar,b8 R.inf,z,O,this]
theorem C0 (z:List Value):∀ n,((Array.range (n * z.length)).map λk=>(⟨z⟩ : Array Value)[k % z.length]!) = ⟨(List.replicate n z).flatten⟩:=by
 intro n;apply aan;simp only [Array.toList_map,Array.toList_range]
 induction n with
 | zero=>simp
 | succ n ih =>
  rw [aao,List.range_add,Zg,List.replicate_succ',List.flatten_append,ih];congr 1;simp only [aay,List.flatten_cons,List.flatten_nil,Zm]
  apply List.ext_getElem
  ·simp
  ·intro i u G;simp only [Y3,ZX] at u;simp [u,Nat.mod_eq_of_lt]
theorem Me (z:List Value):∀ n,ir n z = (List.replicate n z).flatten
 | 0=>rfl
 | n + 1=>by simp [ir,Me z n,aar]
theorem Ip (z:List Value):∀ n,Fm n z = (List.replicate n z).flatten
 | 0=>rfl
 | n + 1=>by simp [Fm,Cg,Ip z n,aar]
theorem dy (hE:∀ a b,Ev a b->E a b) {o:Oper} {ρ : Operand->Value} {w:aa4} {K:Value->aa4->Prop} {s:Sem Value} (he:execOp ρ o = (do pure (.value (<- s)))) {R:Value->aa4->Prop} (h:bf P s w R) (hR:∀ v w',R v w'->K v w'):Ch P E o ρ w K:=by
 obtain ⟨v,w',G,u,z⟩:=h;refine fX (v:=v) (w':=w') ?_ (hE _ _ u) (hR _ _ z);rw [he]; simp [G]
theorem C3 (hE:∀ a b,Ev a b->E a b) {o:Oper} {ρ : Operand->Value} {w:aa4} {K:Value->aa4->Prop} {s:Sem Unit} (he:execOp ρ o = (do s; pure .skip)) {R:Unit->aa4->Prop} (h:bf P s w R) (hR:∀ v w',R v w'->K undef w'):Ch P E o ρ w K:=by
 obtain ⟨v,w',G,u,z⟩:=h;refine Io (w':=w') ?_ (hE _ _ u) (hR _ _ z);rw [he]; simp [G]
theorem Ny {v:Value} {sh:Sh} {k:Value->Prop} (h:U1 v sh k):k v:=by
 unfold U1 at h
 split at h
 ·obtain ⟨n,u,rfl,h⟩:=h; exact h
 ·obtain ⟨us,rfl,z⟩:=CN h; exact z
 ·exact h.elim
theorem KH {v:Value} {sh:Sh} {k:Value->Prop} (h:UA v sh k):k v:=by
 rcases h with ⟨rfl,h⟩ | h
 ·exact h
 ·split at h
  ·obtain ⟨us,G,z⟩:=CN h; rw [G]; exact z
  ·obtain ⟨n,u,G,z⟩:=h; rw [G]; exact z
  ·exact h.elim
theorem yj (hF:tK P Fn) {g:FuncId} (hg:Fn g = true) (args:Array Value) (w:aa4):(callFunc g args).run P w = .ok (.enter g args) w:=by
 obtain ⟨fn,R,G,O⟩:=hF g hg;have u : fn.name ≠ "runtime.NumGoroutine" := by simpa using O
 have z : fn.body≠none:=λe=>by rw [e] at G; cases G
 simp [callFunc,R,z,u]
theorem KI (hF:tK P Fn) (hE:∀ a b,Ev a b->E a b) {o:Oper} {fr:Fr} {w:aa4} {K:Value->aa4->Prop} {f:Operand} {args:Array Operand} {tys:Array TypeId} {sh:Sh}
  (ho:o.op = .call { callee:=.value f,args:=args,argTypes:=tys }) {d:Bool} (h:O4 P Fn E (ev fr f) (zJ fr args.toList) sh w K d):Ch P E o (ev fr) w K:=by
 obtain ⟨dst,op,type,pos,after,guard⟩:=o;dsimp only at ho;subst ho;have X:args.map (ev fr) = ⟨zJ fr args.toList⟩:=by rw [CO]; apply aan; simp
 unfold O4 at h
 split at h
 ·rename_i g first cap hv
  unfold Ys at h;cases hg:Fn g with
  | false =>
   rw [hg] at h;cases d with
   | false=>exact h.elim
   | true =>
   obtain ⟨v,w',V,G,W⟩:=h;refine fX (v:=v) (w':=w') ?_ (hE _ _ G) (Sh.eH W)
   have O:first ++ (⟨zJ fr args.toList⟩ : Array Value) ++ cap = ⟨BA first.toList (zJ fr args.toList) cap.toList⟩:=by
    apply aan; simp [GG]
   simp only [execOp,resolve,X,hv,Deferred.ofValue,invoke,Sem.run_bind,Sem.run_pure,Result.andThen_ok,O,V]
  | true =>
  rw [hg] at h;have h:=(by cases d <;> exact h:vt P E g (BA first.toList (zJ fr args.toList) cap.toList) w λv w'=>sh.is v λu=>K u w')
  have Y:(execOp (ev fr) { dst:=dst,op:=.call { callee:=.value f,args:=args,argTypes:=tys },type:=type,pos:=pos,after:=after,guard:=guard }).run P w
    = .ok (.enter g ⟨BA first.toList (zJ fr args.toList) cap.toList⟩) w:=by
   have O:first ++ (⟨zJ fr args.toList⟩ : Array Value) ++ cap = ⟨BA first.toList (zJ fr args.toList) cap.toList⟩:=by
    apply aan; simp [GG]
   simp only [execOp,resolve,X,hv,Deferred.ofValue,invoke,Sem.run_bind,Sem.run_pure,Result.andThen_ok,O,yj hF hg]
  unfold Ch;rw [Y];refine ⟨hE _ _ (Ev.refl _),?_⟩;exact Calls.mono h λe w' ⟨v,V,G,W⟩=>⟨v,V,G,Sh.eH W⟩
 ·rename_i l first cap hv
  obtain ⟨f',R,z,U,Z,hr⟩:=h
  have Y:(execOp (ev fr) { dst:=dst,op:=.call { callee:=.value f,args:=args,argTypes:=tys },type:=type,pos:=pos,after:=after,guard:=guard }).run P w
    = .ok (.round l f' R z U) w:=by
   have O:first ++ (⟨zJ fr args.toList⟩ : Array Value) = ⟨H_ first.toList (zJ fr args.toList)⟩:=by
    apply aan; simp [Cg]
   simp only [execOp,resolve,X,hv,Deferred.ofValue,invoke,Sem.run_bind,Sem.run_pure,Result.andThen_ok,O,Z]
  unfold Ch;rw [Y];refine ⟨hE _ _ (Ev.refl _),?_⟩;exact RoundIn.mono hr λe w' ⟨v,V,G,W⟩=>⟨v,V,G,Sh.eH W⟩
 ·exact h.elim
theorem Fw (hT:dP P Ty) (hF:tK P Fn) (hE:∀ a b,Ev a b->E a b) {o:Oper} {fr:Fr} {w:aa4} {K:Value->aa4->Prop} (h:O5 P Ty Fn E o fr w K):Ch P E o (ev fr) w K:=by
 have h0:=h;obtain ⟨b6,op,V,pos,ac,am⟩:=o;unfold O5 at h;cases op <;> dsimp only at h <;> first | exact h.elim | skip
 case alloc t =>
  split at h
  ·rename_i i hi;obtain ⟨G,d,R⟩:=oV hT hi
   split at h
   ·rename_i z hz;have a3 : G.zero = some z:=by rw [<- R.zero,hz]
    refine fX (w':={ w with heap:=w.heap.push (.cells ⟨cellsOf z⟩ t) }) ?_ (hE _ _ (Ev.push _ _)) (h _ _ rfl rfl);have e:z.cells = ⟨cellsOf z⟩:=by rw [dp]
    simp [execOp,Instr.alloc,j9 R.inf a3,newVar,newRow,e]
   ·exact h.elim
  ·exact h.elim
 case box t x =>
  refine fX (w':={ w with heap:=w.heap.push (.cells ⟨cellsOf (ev fr x)⟩ t) }) ?_ (hE _ _ (Ev.push _ _)) (h _ _ rfl rfl);have e:(ev fr x).cells = ⟨cellsOf (ev fr x)⟩:=by rw [dp]
  simp [execOp,Instr.box,newVar,newRow,e]
 case buildSlice t n ps =>
  split at h
  ·rename_i e hk;obtain ⟨d1,W,a1⟩:=db hT hk σ;rw [dQ a1] at W
   split at h
   ·rename_i i hi;obtain ⟨G,d,R⟩:=oV hT hi
    split at h
    ·rename_i z hz;have a3 : G.zero = some z:=by rw [<- R.zero,hz]
     obtain ⟨hc,h⟩:=fE h;simp only [Zd,Nat.ble_eq] at hc;obtain ⟨⟨hl,a7,b1⟩,hs⟩:=hc;have hl:=tC _ _ hl;obtain ⟨cs,ab,h⟩:=zO h;refine fX (w':={ w with heap:=w.heap.push (.cells ⟨cs⟩ e) }) ?_ (hE _ _ (Ev.push _ _)) (h _ _ rfl rfl);have hf:=fill_eq _ _ _ ab;have a6:z.cells = ⟨cellsOf z⟩:=by rw [dp]
     have X:G.size = (cellsOf z).length:=by rw [hl,R.size]
     have b3:n * G.size<=16777216:=by
      have:n * G.size<=4096 * 4096:=aaG a7 (by rw [<- R.size]; exact b1);omega
     have a5:∀ hh:n * G.size = 0,n = 0:=λhh=>by
      rcases Nat.mul_eq_zero.1 hh with h | h
      ·exact h
      ·rw [<- R.size] at h; omega
     simp only [execOp,Instr.buildSlice,Sem.run_bind,aZ W,b8 R.inf,Result.andThen_ok,parts_eq];rw [YZ ω];have aT:(λk=>some (k * i.size,i.size)) = (λk=>some (k * G.size,G.size)):=by rw [R.size]
     rw [aT] at hf
     by_cases Y:n * G.size = 0
     ·have:=a5 Y;subst this
      have a8:Instr.fill (λi=>some (i * G.size,G.size)) ((Array.range 0).map λ_=>default) (Bh fr ps.toList) = some ⟨cs⟩:=by
       rw [show ((Array.range 0).map λ_=>(default:Value)) = (⟨Fm 0 (cellsOf z)⟩ : Array Value) from by simp [Fm]]; exact hf
      simp [a8,newRow]
     ·simp only [Y,if_false,Sem.run_bind,j9 R.inf a3,Result.andThen_ok,Sem.run_pure,a6];have a0:=C0 (cellsOf z) n;rw [<- X] at a0;have:(⟨cellsOf z⟩ : Array Value).size = G.size:=by simp [X]
      rw [this,a0,<- Ip,hf];simp [newRow]
    ·exact h.elim
   ·exact h.elim
  ·exact h.elim
 case store t a x =>
  split at h
  ·rename_i p i R hi;obtain ⟨ad,rfl,h⟩:=yg h;obtain ⟨w',hr,a9,hK⟩:=Sx hT hi h;refine Io (w':=w') ?_ (hE _ _ a9) hK;simp [execOp,Instr.storeAt,R,Instr.sureAddr,hr]
  ·exact h.elim
 case convert s d x=>exact dy hE rfl h λv w' h=>Sh.eH h
 case makeMap t r =>
  cases r with
  | some r=>exact h.elim
  | none =>
   refine fX (w':={ w with heap:=w.heap.push (.map #[] 0) }) ?_ (hE _ _ (Ev.push _ _)) (h _ _ rfl rfl);simp [execOp,Instr.makeMap]
 case makeSlice t l c =>
  split at h
  ·rename_i e hk;obtain ⟨d1,W,a1⟩:=db hT hk σ;rw [dQ a1] at W
   split at h
   ·rename_i i k1 n1 k2 n2 hi hl hc;obtain ⟨G,d,R⟩:=oV hT hi;obtain ⟨hb,h⟩:=fE h;unfold Uy at h
    split at h
    ·rename_i z hz;rw [hz] at hb;simp only [Zd,Nat.ble_eq] at hb;obtain ⟨⟨Z,b5⟩,hs⟩:=hb;have Z:=tC _ _ Z;obtain ⟨⟨h1,rfl,h3⟩,hK⟩:=h;have a3 : G.zero = some z:=by rw [<- R.zero,hz]
     have a6:z.cells = ⟨cellsOf z⟩:=by rw [dp]
     have X:G.size = (cellsOf z).length:=by rw [Z,R.size]
     refine fX (w':={ w with heap:=w.heap.push (.cells ⟨ir n1.toNat (cellsOf z)⟩ e) }) ?_ (hE _ _ (Ev.push _ _)) (hK _ _ rfl rfl);have aa:(1:Int)<=i.bytes:=ω
     have a7:n1<=140737488355328:=Int.le_trans (by have:=Int.mul_le_mul_of_nonneg_right aa h1; omega) h3;have hw:IntKind.i64.wrap n1 = n1:=L4 ⟨ω,ω⟩;have b4 : (G.bytes:Int) * n1<=140737488355328:=by rw [<- R.bytes]; exact h3
     have hA:¬ n1 < 0:=ω
     have hB:¬ (281474976710656:Int) < G.bytes * n1:=ω
     have a0:=C0 (cellsOf z) n1.toNat;rw [<- X] at a0;have b2:(⟨cellsOf z⟩ : Array Value).size = G.size:=by simp [X]
     have a5:n1.toNat * G.size = 0->n1.toNat = 0:=λhh=>by
      rcases Nat.mul_eq_zero.1 hh with h | h
      ·exact h
      ·rw [<- R.size] at h; omega
     have e0:∀ f:Nat->Value,(Array.range 0).map f = #[]:=λ_=>σ
     have aI:Array.map (λx=>(cellsOf z)[x % (cellsOf z).length]?.getD default) (Array.range (n1.toNat * G.size)) = ⟨(List.replicate n1.toNat (cellsOf z)).flatten⟩:=by
      rw [<- a0,X]; congr 1; funext k; simp
     by_cases Y:n1.toNat * G.size = 0
     ·have b0:=a5 Y;simp [execOp,Instr.makeSlice,aZ W,hl,hc,asInt,asIntOf,Ih R.inf,b8 R.inf,hw,hA,hB,b0,ir,newRow,e0]
     ·simp [execOp,Instr.makeSlice,aZ W,hl,hc,asInt,asIntOf,Ih R.inf,b8 R.inf,hw,hA,hB,newRow,Y,j9 R.inf a3,a6,Me];rw [aI]
    ·exact h.elim
   ·exact h.elim
  ·exact h.elim
 case lookup t m k ok=>exact dy hE rfl h λv w' h=>Sh.eH h
 case mapUpdate t m k x=>exact C3 hE rfl h λv w' h=>h
 case insert t m k x=>exact C3 hE rfl h λv w' h=>h
 case mapEntry t m k=>exact dy hE rfl h λv w' h=>Sh.eH h
 case entryStore t m s x=>exact C3 hE rfl h λv w' h=>h
 case range t x=>exact dy hE rfl h λv w' h=>Sh.eH h
 case next it isS=>exact dy hE rfl h λv w' h=>KH h
 case entry it=>exact dy hE rfl h λv w' h=>Ny h
 case typeAssert x t u ok=>exact dy hE rfl h λv w' h=>Sh.eH h
 case call c =>
  obtain ⟨a4,U,O⟩:=c;have R:U.map (ev fr) = ⟨zJ fr U.toList⟩:=by rw [CO]; apply aan; simp
  cases a4 with
  | value f=>exact KI hF hE rfl h
  | invoke r m=>exact h.elim
  | builtin b =>
   dsimp only at h;unfold Yu at h;cases b <;> dsimp only at h <;> first | exact h.elim | skip
   case append=>exact dy (s:=Builtin.append_ O V ⟨zJ fr U.toList⟩) hE (by simp only [execOp,resolve,invoke,builtin,R]; rfl) h λv w' h=>Sh.eH h
   case copy=>exact dy (s:=Builtin.copy_ O V ⟨zJ fr U.toList⟩) hE (by simp only [execOp,resolve,invoke,builtin,R]; rfl) h λv w' h=>Sh.eH h
   case delete=>exact dy (s:=Builtin.delete_ O V ⟨zJ fr U.toList⟩) hE (by simp only [execOp,resolve,invoke,builtin,R]; rfl) h λv w' h=>h
   case clear=>exact dy (s:=Builtin.clear_ O V ⟨zJ fr U.toList⟩) hE (by simp only [execOp,resolve,invoke,builtin,R]; rfl) h λv w' h=>h
   case cap=>exact dy (s:=Builtin.cap_ O V ⟨zJ fr U.toList⟩) hE (by simp only [execOp,resolve,invoke,builtin,R]; rfl) h λv w' h=>Sh.eH h
   case unsafeSliceData=>exact dy (s:=Builtin.unsafeSliceData_ O V ⟨zJ fr U.toList⟩) hE (by simp only [execOp,resolve,invoke,builtin,R]; rfl) h λv w' h=>Sh.eH h
   case unsafeString=>exact dy (s:=Builtin.unsafeString_ O V ⟨zJ fr U.toList⟩) hE (by simp only [execOp,resolve,invoke,builtin,R]; rfl) h λv w' h=>Sh.eH h
theorem Pe {w:aa4}:∀ (ad:Addr) (i:dg) (k:Value->Prop),WH w ad i k->∃ v,(∀ w',w' = w->ny w' ad i v)/\k v :=
 λ_ _ _ h=>let ⟨v,z,u⟩:=Ii h; ⟨v,λ_ e=>e ▸ z,u⟩
theorem Pf {w:aa4}:∀ (s:Sem Value) (k:Value->Prop),XS P w s k->∃ v,(∀ w',w' = w->s.run P w' = .ok v w')/\k v :=
 λ_ _ ⟨v,u,z⟩=>⟨v,λ_ e=>by subst e; exact u,z⟩
theorem Pg (hT:dP P Ty) (hF:tK P Fn) (hE:∀ a b,Ev a b->E a b) {o:Oper} {fr:Fr} {w:aa4} {K:Value->aa4->Prop} (h:L9 P Ty Fn E o fr w K):Ch P E o (ev fr) w K:=by
 cases hs:eJ Ty o with
 | true =>
  have h' : tF P Ty (WH w) (XS P w) o fr (λv=>K v w):=by simpa only [L9,hs,cond_true] using h
  obtain ⟨v,z,u⟩:=tJ hT Pe Pf (C:=λw'=>w' = w) h';exact fX (z w rfl) (hE _ _ (Ev.refl _)) u
 | false =>
  have h' : O5 P Ty Fn E o fr w K:=by simpa only [L9,hs,cond_false] using h
  exact Fw hT hF hE h'
end
def wf (r:Option Nat):Fence:={ fn:=λ_=>True,depth:=none,alive:=false,round:=r }
def oP (ws:List Nat) (fr fr' : Fr):Prop:=∀ t,t∉ws->ew fr' t = ew fr t
theorem oP.refl (ws:List Nat) (fr:Fr):oP ws fr fr:=λ_ _=>rfl
theorem oP.mono {ws ws' : List Nat} {a b:Fr} (h:oP ws a b) (hs:∀ x∈ws,x∈ws'):oP ws' a b:=λt ht=>h t λu=>ht (hs t u)
theorem oP.trans {ws:List Nat} {a b c:Fr} (h:oP ws a b) (k:oP ws b c):oP ws a c:=λt ht=>(k t ht).trans (h t ht)
theorem oP.put {ws:List Nat} {N:Nat} {a b:Fr} (h:oP ws a b) {d:Option Tmp} (v:Value) (hd:∀ x,d = some x->x∈ws):oP ws a (Proofs.YtndaepmjkbmjmaaGreatDoor.put N b d v):=by
 intro t ht;cases d with
 | none=>exact h t ht
 | some x=>rw [lu,YZ (λ(e:x = t/\x < N)=>ht (e.1 ▸ hd x rfl))]; exact h t ht
section
variable {P:Program} {Ty:TypeId->Option dg} {Fn:FuncId->Bool} {E:aa4->aa4->Prop}
theorem semAt_eq {r:Option Nat} {ρ : Operand->Value} {o:Oper} (h:∀ c,o.op≠.defer c):o.semAt r ρ = execOp ρ o:=by
 cases r with
 | none=>rfl
 | some l=>exact Oper.semAt_some l ρ o h
theorem Iq {o:Oper} {ρ : Operand->Value} {w:aa4} {K:Value->aa4->Prop} (h:Ch P E o ρ w K):∀ c,o.op≠.defer c:=by
 intro c u;unfold Ch at h;simp only [execOp,u,Sem.run_bind] at h;cases hr:(resolve ρ c o.type).run P w with
 | ok d w'=>rw [hr] at h; simp at h
 | halt x w'=>rw [hr] at h; simp at h
theorem Ir {r:Option Nat} {n:Nat} {o:Oper} {a:Act} {w:aa4} {next:Act->aa4->Prop} {Q:Exit->Act->aa4->Prop} (h:Ch P E o a.eval w λv w'=>next (a.put o.dst v) w'):o.wpIn (wf r) n P a w next Q:=by
 refine ⟨λ_ _=>trivial,?_⟩;have G:o.semAt (wf r).round a.eval = execOp a.eval o:=semAt_eq (Iq h);rw [G];unfold Ch at h
 split at h
 ·rename_i v w' hr; rw [hr]; exact h.2
 ·rename_i w' hr; rw [hr]; exact h.2
 ·rename_i f args w' hr;rw [hr];refine ⟨λh=>(by cases h),?_⟩;have O:CallsIn Fence.wide (n - 1) P f args w' λe u=>∃ v,e = .returned v/\E w' u/\next (a.put o.dst v) u:=callsIn_wide.2 h.2
  exact CallsIn.mono (F:=wf r) O λe u ⟨v,G,_,z⟩=>by subst G; exact z
 ·rename_i l f tmps assign body w' hr;rw [hr];refine ⟨λh=>(by cases h),trivial,λc cs _=>?_⟩;obtain ⟨e,u,⟨v,rfl,_,z⟩,R⟩:=h.2.2 c cs (room_wide _);exact ⟨.returned v,u,z,R⟩
 ·exact h.elim
def iT (all:List Oper) (fr:Fr) (o:Oper):Bool :=
 match o.guard with
 | none=>true
 | some (j,t)=>match Bi all j with
  | some d=>(match ew fr d with | .bool b=>L_ b t | _=>false)
  | none=>false
theorem zP {all:List Oper} {fr:Fr} {o:Oper} {yes no:Prop}:Ib all fr o yes no↔(if iT all fr o = true then yes else no):=by
 unfold Ib iT;cases o.guard with
 | none=>simp
 | some g =>
  obtain ⟨j,t⟩:=g;cases hd:Bi all j with
  | none=>simp [hd]
  | some d =>
   cases hv:ew fr d with
   | bool b=>simp only [hd,hv]; cases L_ b t <;> simp
   | _=>simp [hd,hv]
theorem GN:∀ (l:List Oper) (n:Nat),KA l n = l[n]?
 | [],n=>by simp [KA]
 | o :: l,0=>by simp [KA]
 | o :: l,n + 1=>by simp [KA,GN l n]
theorem Ph (a b:Bool):L_ a b = (a == b):=by cases a <;> cases b <;> rfl
theorem Fx {N:Nat} {fr:Fr} (hf:Fits N fr) (ds:List Deferred) (all:List Oper) (o:Oper):Region.wanted o (yielded ⟨all⟩ (a_ N fr ds).tmps) = iT all fr o:=by
 unfold Region.wanted iT;cases hg:o.guard with
 | none=>rfl
 | some g =>
  obtain ⟨j,t⟩:=g
  have z:Bi all j = ((⟨all⟩ : Array Oper)[j]?).bind (·.dst):=by
   unfold Bi; rw [GN]; simp only [List.getElem?_toArray]; cases all[j]? <;> rfl
  simp only [yielded,<- z];cases hdj:Bi all j with
  | none=>rfl
  | some d =>
   simp only [Option.bind_some]
   have u:(a_ N fr ds).tmps[d]? = if d < N then some (ew fr d) else none:=by
    simp only [a_,List.getElem?_toArray,YW]
    by_cases h:d < N
    ·simp [h]
    ·simp [h]
   rw [u]
   by_cases h:d < N
   ·rw [Y5 h];cases hv:ew fr d <;> simp [Ph]
   ·rw [YZ h,hf d (aax h)];rfl
theorem nB {g:Bool} {v:Value} {k:Value->Prop} (h:CS g v k):k v:=by
 unfold CS at h
 split at h
 ·exact Nr h
 ·exact h
theorem Fy (hT:dP P Ty) (hF:tK P Fn) (hE:Gx E) {N:Nat} {r:Option Nat} {n:Nat} {all:List Oper} {ds:List Deferred} {K:Fr->aa4->Prop} {Q:Exit->Act->aa4->Prop} :
  ∀ (l:List Oper) (i:Nat) (fr:Fr) (w:aa4),zL P Ty Fn E N all i l fr w K->Fits N fr ->
   (∀ fr' w',Fits N fr'->oP (dstsOf l) fr fr'->E w w'->K fr' w'->Q .normal (a_ N fr' ds) w')->wpListIn (wf r) n P ⟨all⟩ Q l (a_ N fr ds) w
 | [],i,fr,w,h,hf,hQ=>hQ fr w hf (oP.refl _ _) (hE.ofEv _ _ (Ev.refl w)) h
 | o :: l,i,fr,w,h,hf,hQ=>by
  have sub:∀ x,o.dst = some x->x∈dstsOf (o :: l):=λx hx=>by simp [dstsOf,hx]
  have subl:∀ x∈dstsOf l,x∈dstsOf (o :: l):=λx hx=>by
   unfold dstsOf; cases o.dst <;> simp [hx]
  have next:∀ v w',E w w'->zL P Ty Fn E N all (i + 1) l (put N fr o.dst v) w' K->wpListIn (wf r) n P ⟨all⟩ Q l ((a_ N fr ds).put o.dst v) w':=λv w' hew hd=>by
   rw [Gy]
   exact Fy hT hF hE l (i + 1) _ w' hd (ya hf _ _) λfr' w'' h1 h2 h3 h4 =>
    hQ fr' w'' h1 (((oP.refl _ fr).put v sub).trans (h2.mono subl)) (hE.trans hew h3) h4
  simp only [zL] at h
  rw [zP] at h
  simp only [wpListIn,Fx hf]
  by_cases hw:iT all fr o = true
  ·rw [Y5 hw] at h ⊢
   have hs:=Pg hT hF hE.ofEv h
   refine Ir (E:=E) ?_
   rw [L3 N fr ds hf]
   exact hs.mono (λv w' hew hk=>next v w' hew (nB hk)) hE.trans
  ·rw [YZ hw] at h ⊢
   exact ⟨λ_ _=>trivial,next undef w (hE.ofEv _ _ (Ev.refl w)) h⟩
end
def ar (ls:List Bool):Array Bool:=⟨ls⟩
theorem GO:∀ (ls:List Bool) (i:Nat),KB ls i = (ar ls).getD i true
 | [],i=>by simp [KB,ar]
 | b :: l,0=>by simp [KB,ar]
 | b :: l,n + 1=>by
  have:=GO l n
  simp only [KB,this,ar]
  by_cases h:n < l.length <;> simp [h]
theorem Is:∀ (ls:List Bool) (i:Nat),Fp ls i = (ar ls).getD i false
 | [],i=>by simp [Fp,ar]
 | b :: l,0=>by simp [Fp,ar]
 | b :: l,n + 1=>by
  have:=Is l n
  simp only [Fp,this,ar]
  by_cases h:n < l.length <;> simp [h]
theorem C4 : ∀ (ls:List Bool) (i:Nat),gJ ls i = ls.set i true
 | [],i=>by simp [gJ]
 | b :: l,0=>by simp [gJ]
 | b :: l,n + 1=>by simp [gJ,C4 l n]
theorem vc (ls:List Bool) (i:Nat):ar (gJ ls i) = (ar ls).setIfInBounds i true:=by
 rw [C4]; apply aan; simp [ar]
theorem Nz (ls:List Bool) (i j:Nat):gJ (gJ ls i) j = gJ (gJ ls j) i:=by
 simp only [C4]
 by_cases h:i = j
 ·subst h; rfl
 ·exact List.set_comm _ _ h
theorem C5 {ls:List Bool}:∀ {es:List Edge},CT ls es = true↔∀ e∈es,Region.binds .any e = true->(ar ls).getD e.on false = true
 | []=>by simp [CT]
 | e :: l=>by
  have ih:=C5 (ls:=ls) (es:=l)
  simp only [CT,Zd,ih,Ze,forall_eq_or_imp]
  cases hg:e.ground <;> simp [Region.binds,hg,Is]
theorem Fz {i:Nat}:∀ {es:List Edge},waits i es = true↔∃ e∈es,Region.binds .any e = true/\e.on = i
 | []=>by simp [waits]
 | e :: l=>by
  have ih:=Fz (i:=i) (es:=l)
  simp only [waits,ZZ,ih,Ze,exists_eq_or_imp]
  cases hg:e.ground <;> simp [Region.binds,hg]
theorem jZ {ls:List Bool} {i:Nat} {o:Oper}:Ic ls i o = true↔(ar ls).getD i true = false/\∀ e∈o.after,Region.binds .any e = true->(ar ls).getD e.on false = true:=by
 unfold Ic;rw [Zd,C5,GO];simp
theorem C6 {ls:List Bool}:∀ {l:List Oper} {i:Nat} {x:Nat × Oper},x∈fm ls i l↔∃ k,x.1 = i + k/\l[k]? = some x.2/\Ic ls x.1 x.2 = true
 | [],i,x=>by simp [fm]
 | o :: l,i,x=>by
  have ih:=C6 (ls:=ls) (l:=l) (i:=i + 1) (x:=x)
  have:x∈fm ls i (o :: l)↔(x = (i,o)/\Ic ls i o = true)\/x∈fm ls (i + 1) l:=by
   simp only [fm]
   cases h:Ic ls i o <;> simp
  rw [this,ih]
  constructor
  ·rintro (⟨rfl,h⟩ | ⟨k,h1,h2,h3⟩)
   ·exact ⟨0,rfl,rfl,h⟩
   ·exact ⟨k + 1,ω,by simpa using h2,h3⟩
  ·rintro ⟨k,h1,h2,h3⟩
   cases k with
   | zero=>exact .inl ⟨by obtain ⟨a,b⟩:=x; simp at h1 h2; simp [h1,h2],by obtain ⟨a,b⟩:=x; simp at h1 h2; subst h1; subst h2; exact h3⟩
   | succ k=>exact .inr ⟨k,ω,by simpa using h2,h3⟩
theorem gM {ls:List Bool} {l:List Oper} {x:Nat × Oper}:x∈fm ls 0 l↔l[x.1]? = some x.2/\Ic ls x.1 x.2 = true:=by
 rw [C6]
 constructor
 ·rintro ⟨k,u,z,G⟩; rw [ZV] at u; rw [u]; exact ⟨z,u ▸ G⟩
 ·rintro ⟨u,z⟩; exact ⟨x.1,ω,u,z⟩
theorem nT {ls:List Bool} {l:List Oper} {j:Nat}:j∈Region.ready .any ⟨l⟩ (ar ls)↔∃ o,(j,o)∈fm ls 0 l:=by
 rw [mem_ready]
 constructor
 ·rintro ⟨h0,o,U,z⟩;exact ⟨o,gM.2 ⟨by simpa using U,jZ.2 ⟨h0,z⟩⟩⟩
 ·rintro ⟨o,h⟩;obtain ⟨R,G⟩:=gM.1 h;obtain ⟨O,u⟩:=jZ.1 G;exact ⟨O,o,by simpa using R,u⟩
theorem C7 {ls:List Bool} {i j:Nat} {o:Oper} (h:Ic ls j o = true) (hne:j≠i):Ic (gJ ls i) j o = true:=by
 rw [jZ] at *;rw [vc];exact ⟨by rw [getD_set_ne true (aaw hne)]; exact h.1,λe z u=>getD_set_true (h.2 e z u)⟩
theorem Mf:∀ l m,Sp l m = l ++ m
 | [],_=>rfl
 | x :: l,m=>by simp [Sp,Mf l m]
theorem GP:∀ l,Sq l = l.map (·.2)
 | []=>rfl
 | (a,x) :: l=>by simp [Sq,GP l]
theorem Pj (o:Op):∀ x,x∈O8 o↔x∈o.operands:=by
 intro x;cases o <;> simp only [O8,Op.operands] <;> try (simp; done)
 case build t ps=>simp [GP]
 case buildSlice t n ps=>simp [GP]
 case makeFunc fn a b=>simp [Mf]
 case slice t y l h m=>cases l <;> cases h <;> cases m <;> simp [Sn]
 case call c =>
  obtain ⟨u,z,G⟩:=c;cases u <;> simp [Call.operands]
theorem zQ {t:Nat}:∀ {l:List Operand} {m:List Nat},t∈Fq l m↔Operand.tmp t∈l\/t∈m
 | [],m=>by simp [Fq]
 | x :: l,m=>by
  have ih:=zQ (t:=t) (l:=l) (m:=m)
  cases x <;> simp [Fq,ih,or_assoc]
theorem tL {x:Nat}:∀ {l:List Nat},qo x l = true↔x∈l
 | []=>by simp [qo]
 | y :: l=>by simp [qo,tL (l:=l)]
theorem NA {all:List Oper} {x y:Oper} (h:zM all x y = true) :
  (∀ d,x.dst = some d->d∉looks all y)/\(∀ d,x.dst = some d->y.dst≠some d)/\(∀ d,y.dst = some d->d∉looks all x):=by
 simp only [zM,Zd] at h;obtain ⟨⟨G,R⟩,z⟩:=h
 refine ⟨λd u=>?_,λd u U=>?_,λd u=>?_⟩
 ·rw [u] at G; simp only [GH,aag] at G;intro O; rw [tL.2 O] at G; cases G
 ·rw [u,U] at R; simp [UB] at R
 ·rw [u] at z; simp only [GH,aag] at z;intro O; rw [tL.2 O] at z; cases z
theorem FA {all:List Oper} {ls:List Bool} {i:Nat} {o:Oper}:∀ {l:List Oper} {j:Nat},Mb all ls i o j l = true->∀ k p,l[k]? = some p->j + k≠i->(ar ls).getD (j + k) true = false->waits i p.after.toList = false->zM all o p = true
 | [],j,h,k,p,hk,_,_,_=>by simp at hk
 | q :: l,j,h,k,p,hk,hne,hb,hw=>by
  simp only [Mb,Zd,ZZ,Nat.beq_eq] at h
  cases k with
  | zero =>
   simp only [aaK,Option.some.injEq] at hk
   subst hk
   rw [Nat.add_zero] at hne hb
   rw [GO] at h
   rcases h.1 with ((h1 | h1) | h1) | h1
   ·exact absurd h1 hne
   ·rw [hb] at h1; cases h1
   ·rw [hw] at h1; cases h1
   ·exact h1
  | succ k =>
   exact FA h.2 k p (by simpa using hk) ω (by rw [show j + 1 + k = j + (k + 1) by omega]; exact hb) hw
def ext (a b:Fr):Prop:=∀ t,ew a t = ew b t
theorem Mg {N:Nat} {a b:Fr} (h:ext a b) (d:Option Tmp) (v:Value):ext (put N a d v) (put N b d v):=by
 intro t;cases d with
 | none=>exact h t
 | some d=>rw [lu,lu,h t]
theorem put_comm {N:Nat} {a:Fr} {x y:Option Tmp} {v u:Value} (h:∀ d,x = some d->y≠some d):ext (put N (put N a x v) y u) (put N (put N a y u) x v):=by
 intro t;cases x with
 | none=>rfl
 | some d =>
  cases y with
  | none=>rfl
  | some e =>
   have O:d≠e:=λR=>h d rfl (by rw [R]);simp only [lu]
   by_cases G:e = t
   ·subst G;simp [O]
   ·rw [YZ (show ¬ (e = t/\e < N) from λh=>G h.1)]
    by_cases z:d = t/\d < N
    ·rw [Y5 z,Y5 z]
    ·rw [YZ z,YZ z,YZ (show ¬ (e = t/\e < N) from λh=>G h.1)]
theorem U9 {a b:Fr} (h:ext a b):ev a = ev b:=by
 funext x; cases x <;> simp [ev,h _]
theorem NB {all:List Oper} {a b:Fr} (h:ext a b) (o:Oper):iT all a o = iT all b o:=by
 unfold iT; simp only [h _]
theorem KJ {all:List Oper} {o:Oper} {t:Nat} (h:Operand.tmp t∈o.op.operands):t∈looks all o :=
 zQ.2 (.inl ((Pj o.op _).2 h))
theorem It {all:List Oper} {N:Nat} {fr:Fr} {o:Oper} (hs:∀ cs b,o.op≠.select cs b) {d:Option Tmp} {v:Value} (h:∀ x,d = some x->x∉looks all o):execOp (ev (put N fr d v)) o = execOp (ev fr) o:=by
 refine execOp_congr o hs λx u=>?_;cases x with
 | tmp t =>
  cases d with
  | none=>rfl
  | some e =>
   simp only [ev,lu];rw [YZ];rintro ⟨rfl,_⟩;exact h e rfl (KJ u)
 | _=>rfl
theorem Iu {all:List Oper} {N:Nat} {fr:Fr} {o:Oper} {d:Option Tmp} {v:Value} (h:∀ x,d = some x->x∉looks all o):iT all (put N fr d v) o = iT all fr o:=by
 cases d with
 | none=>rfl
 | some e =>
  unfold iT;cases hg:o.guard with
  | none=>rfl
  | some g =>
   obtain ⟨j,t⟩:=g;dsimp only;cases hd:Bi all j with
   | none=>rfl
   | some d =>
    have u:d∈looks all o:=by unfold looks; rw [hg]; simp only [hd]; exact zQ.2 (.inr σ)
    simp only [lu];rw [YZ];rintro ⟨rfl,_⟩;exact h e rfl u
section
variable {P:Program} {Ty:TypeId->Option dg} {Fn:FuncId->Bool} {E:aa4->aa4->Prop} {N:Nat} {C:aa4->Prop} {all:List Oper} {Kend:Fr->aa4->Prop}
theorem Pk {o:Oper} {ρ ρ' : Operand->Value} {w:aa4} {K:Value->aa4->Prop} (he:execOp ρ o = execOp ρ' o) (h:Ch P E o ρ w K):Ch P E o ρ' w K:=by
 unfold Ch at *; rw [<- he]; exact h
def cS (Ty:TypeId->Option dg) (all:List Oper) (C:aa4->Prop) (o:Oper) (w w' : aa4):Prop:=(eJ Ty o = true->w' = w)/\(eJ Ty o = false->CU Ty all o.after.toList = true->C w')
def tM (P:Program) (Ty:TypeId->Option dg) (E:aa4->aa4->Prop) (N:Nat) (C:aa4->Prop) (all:List Oper) (Kend:Fr->aa4->Prop):Nat->List Bool->Fr->aa4->Prop
 | 0,ls,fr,w=>fm ls 0 all = []/\Kend fr w
 | n + 1,ls,fr,w=>(fm ls 0 all = []->Kend fr w)/\∀ x∈fm ls 0 all,
   if iT all fr x.2 = true then Ch P E x.2 (ev fr) w λv w'=>cS Ty all C x.2 w w'/\tM P Ty E N C all Kend n (gJ ls x.1) (put N fr x.2.dst v) w'
   else tM P Ty E N C all Kend n (gJ ls x.1) (put N fr x.2.dst undef) w
theorem C8 (hE:Gx E) (hK:∀ a b w,ext a b->Kend a w->Kend b w):∀ (n:Nat) (ls:List Bool) (a b:Fr) (w:aa4),ext a b->tM P Ty E N C all Kend n ls a w->tM P Ty E N C all Kend n ls b w
 | 0,ls,a,b,w,he,h=>⟨h.1,hK a b w he h.2⟩
 | n + 1,ls,a,b,w,he,h=>by
  refine ⟨λh0=>hK a b w he (h.1 h0),λx hx=>?_⟩
  have:=h.2 x hx
  rw [NB he] at this
  split
  ·rename_i hw
   rw [Y5 hw] at this
   rw [<- U9 he]
   exact this.mono (λv w' _ hk=>⟨hk.1,C8 hE hK n _ _ _ w' (Mg he _ _) hk.2⟩) hE.trans
  ·rename_i hw
   rw [YZ hw] at this
   exact C8 hE hK n _ _ _ w (Mg he _ _) this
def Cl (all:List Oper) (ls:List Bool):Prop:=∀ j o,all[j]? = some o->(ar ls).getD j false = true->∀ e∈o.after,Region.binds .any e = true->(ar ls).getD e.on false = true
theorem zR {i:Nat}:∀ {es:List Edge} {m:List Nat},i∈yd es m↔(∃ e∈es,Region.binds .any e = true/\e.on = i)\/i∈m
 | [],m=>by simp [yd]
 | e :: l,m=>by
  have ih:=zR (i:=i) (es:=l) (m:=m)
  have e1:(∃ x∈e :: l,Region.binds .any x = true/\x.on = i)↔(Region.binds .any e = true/\e.on = i)\/∃ x∈l,Region.binds .any x = true/\x.on = i:=by
   simp only [Ze,exists_eq_or_imp]
  rw [e1,or_assoc,<- ih]
  have hb:Region.binds .any e = (match e.ground with | .textOnly _ | .gcOnly _=>false | _=>true):=by
   cases hg:e.ground <;> simp [Region.binds,hg]
  rw [hb]
  conv=>lhs; unfold yd
  cases hg:e.ground <;> simp [eq_comm]
theorem wR {ls:List Bool} (hcl:Cl all ls):∀ (n:Nat) (todo done:List Nat),(∀ j∈todo,(ar ls).getD j false = true)->(∀ j∈done,(ar ls).getD j false = true)->∀ j∈U5 all n todo done,(ar ls).getD j false = true
 | 0,_,done,_,h2,j,hj=>h2 j hj
 | n + 1,[],done,_,h2,j,hj=>h2 j hj
 | n + 1,k :: todo,done,h1,h2,j,hj=>by
  unfold U5 at hj
  have hk:=h1 k σ
  split at hj
  ·exact wR hcl n todo done (λj hj=>h1 j (by simp [hj])) h2 j hj
  ·refine wR hcl n _ _ (λj hj=>?_) (λj hj=>?_) j hj
   ·split at hj
    ·rename_i o ho
     rw [GN] at ho
     rcases zR.1 hj with ⟨e,he,hb,rfl⟩ | hj
     ·exact hcl k o ho hk e (by simpa using he) hb
     ·exact h1 j (by simp [hj])
    ·exact h1 j (by simp [hj])
   ·rcases Ze.1 hj with rfl | hj
    ·exact hk
    ·exact h2 j hj
theorem Iv {cl:List Nat}:∀ {l:List Oper} {j:Nat},Fs Ty cl j l = false->∀ k o,l[k]? = some o->eJ Ty o = true->j + k∈cl
 | [],j,_,k,o,hk,_=>by simp at hk
 | q :: l,j,h,k,o,hk,hs=>by
  simp only [Fs,aaY,Bool.and_eq_false_iff,Bool.not_eq_false'] at h
  cases k with
  | zero =>
   simp only [aaK,Option.some.injEq] at hk
   subst hk
   rcases h.1 with h1 | h1
   ·rw [hs] at h1; cases h1
   ·exact tL.1 h1
  | succ k=>have:=Iv h.2 k o (by simpa using hk) hs; rwa [show j + 1 + k = j + (k + 1) by omega] at this
theorem yk {cl:List Nat}:∀ {l:List Oper} {j:Nat},wP Ty cl j l = false->∀ (k:Nat) (o:Oper),l[k]? = some o->ye Ty o = true->j + k∈cl
 | [],j,_,k,o,hk,_=>by simp at hk
 | p :: l,j,h,k,o,hk,hs=>by
  simp only [wP,aaY,Bool.and_eq_false_iff,Bool.not_eq_false'] at h
  cases k with
  | zero =>
   simp only [aaK,Option.some.injEq] at hk
   subst hk
   rcases h.1 with h1 | h1
   ·rw [hs] at h1; cases h1
   ·exact tL.1 h1
  | succ k=>have:=yk h.2 k o (by simpa using hk) hs; rwa [show j + 1 + k = j + (k + 1) by omega] at this
theorem Bl {ls:List Bool} {i:Nat} {oi:Oper} (hcl:Cl all ls) (hr:Ic ls i oi = true) (h:CU Ty all oi.after.toList = false) (k:Nat) (o:Oper) (hk:all[k]? = some o) (hs:ye Ty o = true):(ar ls).getD k false = true:=by
 have z:=yk h k o hk hs;rw [ZV] at z;refine wR hcl _ _ _ (λj u=>?_) (λj u=>by cases u) k z
 rcases zR.1 u with ⟨e,O,G,rfl⟩ | u
 ·exact (jZ.1 hr).2 e (by simpa using O) G
 ·cases u
theorem FB {cl:List Nat}:∀ {l:List Oper} {j:Nat},wP Ty cl j l = true->Fs Ty cl j l = true
 | [],j,h=>by simp [wP] at h
 | p :: l,j,h=>by
  simp only [wP,ZZ,Zd] at h
  simp only [Fs,ZZ,Zd]
  rcases h with ⟨h1,h2⟩ | h
  ·refine .inl ⟨?_,h2⟩
   unfold ye at h1
   rw [Zd] at h1
   exact h1.1
  ·exact .inr (FB h)
theorem Iw {o:Oper} (h:CU Ty all o.after.toList = true):Ft Ty all o = true:=by
 unfold Ft
 split
 ·exact h
 ·exact FB h
theorem Ix {ls:List Bool} {i:Nat} {oi:Oper} (hcl:Cl all ls) (hr:Ic ls i oi = true) (h:Ft Ty all oi = false) (k:Nat) (o:Oper) (hk:all[k]? = some o) (hs:ye Ty o = true):(ar ls).getD k false = true:=by
 refine Bl hcl hr ?_ k o hk hs;cases hn:CU Ty all oi.after.toList with
 | false=>rfl
 | true=>rw [Iw hn] at h; cases h
theorem Cl.set {ls:List Bool} {i:Nat} {oi:Oper} (hcl:Cl all ls) (hi:all[i]? = some oi) (hr:Ic ls i oi = true):Cl all (gJ ls i):=by
 intro j o z G e R O;rw [vc] at G ⊢
 by_cases u:i = j
 ·subst u;rw [hi] at z; cases z;exact getD_set_true ((jZ.1 hr).2 e R O)
 ·rw [getD_set_ne false u] at G;exact getD_set_true (hcl j o z G e R O)
theorem NC {ls:List Bool} {i j:Nat} {oj:Oper} (hi:(ar ls).getD i true = false) (hj:Ic ls j oj = true):waits i oj.after.toList = false:=by
 cases hw:waits i oj.after.toList with
 | false=>rfl
 | true =>
  obtain ⟨e,G,z,rfl⟩:=Fz.1 hw;have u:=(jZ.1 hj).2 e (by simpa using G) z
  rcases Nat.lt_or_ge e.on (ar ls).size with h' | h'
  ·simp [h'] at u hi; rw [hi] at u; cases u
  ·simp [Array.getElem?_eq_none h'] at u
theorem wS (hE:Gx E) (hK:∀ a b w,ext a b->Kend a w->Kend b w) (hsel:∀ (k:Nat) (o:Oper) cs b,all[k]? = some o->o.op≠.select cs b)
  {i:Nat} {oi:Oper} {v:Value} {D:aa4->Prop} (hi:all[i]? = some oi) (hst:eJ Ty oi = true) (hD:(∀ w,D w)\/(ye Ty oi = true/\∀ w,C w->D w)):∀ (n:Nat) (ls:List Bool) (fr:Fr) (w:aa4),Cl all ls ->
   (∀ j oj,all[j]? = some oj->j≠i->(ar ls).getD j true = false->waits i oj.after.toList = false->zM all oi oj = true) ->
   Ic ls i oi = true->((iT all fr oi = true/\∀ w,D w->(execOp (ev fr) oi).run P w = .ok (.value v) w)\/(iT all fr oi = false/\v = undef))->(ye Ty oi = true->C w) ->
   tM P Ty E N C all Kend n (gJ ls i) (put N fr oi.dst v) w->tM P Ty E N C all Kend (n + 1) ls fr w:=by
 have a7:∀ w,(ye Ty oi = true->C w)->D w:=λw h=>by
  rcases hD with hD | ⟨W,h2⟩
  ·exact hD w
  ·exact h2 w (h W)
 have same:∀ (n:Nat) (ls:List Bool) (fr:Fr) (w:aa4),((iT all fr oi = true/\∀ w,D w->(execOp (ev fr) oi).run P w = .ok (.value v) w)\/(iT all fr oi = false/\v = undef))->D w ->
   tM P Ty E N C all Kend n (gJ ls i) (put N fr oi.dst v) w ->
   (if iT all fr oi = true then Ch P E oi (ev fr) w λv w'=>cS Ty all C oi w w'/\tM P Ty E N C all Kend n (gJ ls i) (put N fr oi.dst v) w'
    else tM P Ty E N C all Kend n (gJ ls i) (put N fr oi.dst undef) w):=by
  intro n ls fr w hy ab H
  rcases hy with ⟨Y,hv⟩ | ⟨Y,rfl⟩
  ·rw [Y5 Y];exact fX (hv w ab) (hE.ofEv _ _ (Ev.refl w)) ⟨⟨λ_=>rfl,λh=>by rw [hst] at h; cases h⟩,H⟩
  ·rw [Y]; exact H
 intro n
 induction n with
 | zero =>
  intro ls fr w a0 U hr hy hC H;have R:(i,oi)∈fm ls 0 all:=gM.2 ⟨hi,hr⟩;refine ⟨λh=>(by rw [h] at R; cases R),λx hx=>?_⟩;obtain ⟨z,O⟩:=gM.1 hx
  by_cases G:x.1 = i
  ·have:x.2 = oi:=by rw [G,hi] at z; exact (Option.some.inj z).symm
   rw [this,G]; exact same 0 ls fr w hy (a7 w hC) H
  ·have:x∈fm (gJ ls i) 0 all:=gM.2 ⟨z,C7 O G⟩;rw [H.1] at this; cases this
 | succ n ih =>
  intro ls fr w a0 U hr hy hC H;have R:(i,oi)∈fm ls 0 all:=gM.2 ⟨hi,hr⟩;refine ⟨λh=>(by rw [h] at R; cases R),λx hx=>?_⟩;obtain ⟨z,O⟩:=gM.1 hx
  by_cases G:x.1 = i
  ·have:x.2 = oi:=by rw [G,hi] at z; exact (Option.some.inj z).symm
   rw [this,G]; exact same (n + 1) ls fr w hy (a7 w hC) H
  ·have W:=H.2 x (gM.2 ⟨z,C7 O G⟩);have a4:(ar ls).getD i true = false:=(jZ.1 hr).1;have ac:=NC a4 O;have aa:=U x.1 x.2 z G (jZ.1 O).1 ac;obtain ⟨a1,a2,a3⟩:=NA aa
   have a5:ye Ty oi = true->CU Ty all x.2.after.toList = true:=λV=>by
    cases hn:CU Ty all x.2.after.toList with
    | true=>rfl
    | false =>
     have h':=Bl a0 O hn i oi hi V
     rcases Nat.lt_or_ge i (ar ls).size with Z | Z
     ·simp [Z] at h' a4; rw [a4] at h'; cases h'
     ·simp [Array.getElem?_eq_none Z] at h'
   have a6:∀ u,((iT all (put N fr x.2.dst u) oi = true/\∀ w,D w->(execOp (ev (put N fr x.2.dst u)) oi).run P w = .ok (.value v) w)\/(iT all (put N fr x.2.dst u) oi = false/\v = undef)):=λu=>by
    rw [Iu a3,It (all:=all) (hsel i oi · · hi) a3]; exact hy
   have X : ∀ j oj,all[j]? = some oj->j≠i->(ar (gJ ls x.1)).getD j true = false->waits i oj.after.toList = false->zM all oi oj = true:=λj oj W h2 h3 h4=>by
    refine U j oj W h2 ?_ h4;rw [vc] at h3
    by_cases a8:x.1 = j
    ·subst a8; exact (jZ.1 O).1
    ·rw [getD_set_ne true a8] at h3; exact h3
   have go:∀ u w',(ye Ty oi = true->C w')->tM P Ty E N C all Kend n (gJ (gJ ls i) x.1) (put N (put N fr oi.dst v) x.2.dst u) w'->tM P Ty E N C all Kend (n + 1) (gJ ls x.1) (put N fr x.2.dst u) w':=λu w' a9 hA=>by
    refine ih (gJ ls x.1) (put N fr x.2.dst u) w' (a0.set z O) X (C7 hr (aaw G)) (a6 u) a9 ?_;rw [Nz];exact C8 hE hK n _ _ _ w' (put_comm a2) hA
   rw [Iu a1] at W
   split
   ·rename_i Y;rw [Y5 Y] at W;have h2:=Pk (It (all:=all) (hsel x.1 x.2 · · z) a1) W;refine h2.mono (λu w' _ hk=>⟨hk.1,go u w' (λV=>?_) hk.2⟩) hE.trans;cases hs:eJ Ty x.2 with
    | true=>rw [hk.1.1 hs]; exact hC V
    | false=>exact hk.1.2 hs (a5 V)
   ·rename_i Y;rw [YZ Y] at W;exact go undef w hC W
theorem rD {ls:List Bool}:∀ {l:List Oper} {i:Nat} {x:Nat × Oper},iu Ty ls i l = some x->∃ k,x.1 = i + k/\l[k]? = some x.2/\eJ Ty x.2 = true/\Ic ls x.1 x.2 = true
 | [],i,x,h=>by simp [iu] at h
 | o :: l,i,x,h=>by
  simp only [iu,Bool.cond_eq_ite] at h
  split at h
  ·rename_i hc
   cases h
   simp only [Zd] at hc
   exact ⟨0,rfl,rfl,hc.1,hc.2⟩
  ·obtain ⟨k,h1,h2,h3⟩:=rD h
   exact ⟨k + 1,ω,by simpa using h2,h3⟩
theorem Iy {f:Nat × Oper->Prop}:∀ {l:List (Nat × Oper)},U4 l f->∀ x∈l,f x
 | [],_,x,hx=>by cases hx
 | [y],h,x,hx=>by simp at hx; rw [hx]; exact h
 | y :: z :: l,h,x,hx=>by
  obtain ⟨h1,h2⟩:=h
  rcases Ze.1 hx with rfl | hx
  ·exact h1
  ·exact Iy h2 x hx
theorem GQ (hE:Gx E) {C C' : aa4->Prop} (hC:∀ w,C' w->C w):∀ (n:Nat) (ls:List Bool) (fr:Fr) (w:aa4),tM P Ty E N C' all Kend n ls fr w->tM P Ty E N C all Kend n ls fr w
 | 0,ls,fr,w,h=>by
  unfold tM at h ⊢
  exact h
 | n + 1,ls,fr,w,h=>by
  refine ⟨h.1,λx hx=>?_⟩
  have h1:=h.2 x hx
  split
  ·rename_i hw
   rw [Y5 hw] at h1
   exact h1.mono (λv w' _ hk=>⟨⟨hk.1.1,λh1 h2=>hC _ (hk.1.2 h1 h2)⟩,GQ hE hC n _ _ w' hk.2⟩) hE.trans
  ·rename_i hw
   rw [YZ hw] at h1
   exact GQ hE hC n _ _ w h1
theorem KK {ld ld' : Addr->dg->(Value->Prop)->Prop} {rs rs' : Sem Value->(Value->Prop)->Prop} {o:Oper} {fr:Fr} {K:Value->Prop} (hp:GI Ty o = true) (h:tF P Ty ld rs o fr K):tF P Ty ld' rs' o fr K:=by
 obtain ⟨O,op,G,pos,z,u⟩:=o;cases op <;> simp only [GI,aav] at hp
 case binOp op t x y yt =>
  unfold tF at h ⊢;dsimp only at h ⊢;rw [hp] at h ⊢;exact h
 all_goals exact h
theorem rG {ls:List Bool}:∀ {l:List Oper} {i:Nat},iu Ty ls i l = none->∀ (k:Nat) (o:Oper),l[k]? = some o->Ic ls (i + k) o = true->eJ Ty o = false
 | [],i,_,k,o,hk,_=>by simp at hk
 | p :: l,i,h,k,o,hk,hr=>by
  simp only [iu,Bool.cond_eq_ite] at h
  split at h
  ·cases h
  ·rename_i hc
   cases k with
   | zero =>
    simp only [aaK,Option.some.injEq] at hk
    subst hk
    cases hs:eJ Ty p with
    | false=>rfl
    | true=>exact absurd (by rw [hs]; simpa using hr) hc
   | succ k=>exact rG h k o (by simpa using hk) (by rw [show i + 1 + k = i + (k + 1) by omega]; exact hr)
theorem iU (hT:dP P Ty) (hF:tK P Fn) (hE:Gx E) {K0:Fr->aa4->Prop} (hsub:∀ fr w,K0 fr w->Kend fr w) (hK:∀ a b w,ext a b->Kend a w->Kend b w) (hsel:∀ (k:Nat) (o:Oper) cs b,all[k]? = some o->o.op≠.select cs b) :
  ∀ (n:Nat) (C:aa4->Prop) (ls:List Bool) (fr:Fr) (w:aa4),Cl all ls->(C w\/∀ k o,all[k]? = some o->ye Ty o = true->(ar ls).getD k true = true)->Bj P Ty Fn E N C all K0 n ls fr w->tM P Ty E N C all Kend n ls fr w
 | 0,C,ls,fr,w,_,_,h=>by
  unfold Bj at h
  split at h
  ·rename_i h0; exact ⟨h0,hsub _ _ h⟩
  ·exact h.elim
 | n + 1,C,ls,fr,w,hcl,hinv,h=>by
  have listed:∀ j,(C w\/∀ k o,all[k]? = some o->ye Ty o = true->(ar (gJ ls j)).getD k true = true):=λj=>by
   rcases hinv with h | h
   ·exact .inl h
   ·refine .inr λk o hk hs=>?_
    rw [vc]
    by_cases hjk:j = k
    ·subst hjk
     by_cases hlt:j < (ar ls).size
     ·simp [hlt]
     ·have:(ar ls).setIfInBounds j true = ar ls:=by simp [Array.setIfInBounds,hlt]
      rw [this]; exact h j o hk hs
    ·rw [getD_set_ne true hjk]; exact h k o hk hs
  unfold Bj at h
  split at h
  ·rename_i i o hfs
   obtain ⟨k,hk1,hk2,hst,hr⟩:=rD hfs
   rw [ZV] at hk1
   dsimp only at hk1 hk2 hst hr
   subst hk1
   obtain ⟨hfr,h⟩:=bS.1 h
   have hC:ye Ty o = true->C w:=λhrd=>hinv.resolve_right λh=>by
    have h1:=h i o hk2 hrd
    have h2:=(jZ.1 hr).1
    rw [h1] at h2; cases h2
   have hfree:=λj oj h1 h2 h3 h4=>FA hfr j oj h1 (by rw [ZV]; exact h2) (by rw [ZV]; exact h3) h4
   rw [zP] at h
   by_cases hw:iT all fr o = true
   ·rw [Y5 hw] at h
    by_cases hp:GI Ty o = true
    ·obtain ⟨v,h1,h2⟩:=tJ hT (C:=λ_=>True) (ld:=λad i k=>∃ v,(∀ w,True->ny w ad i v)/\k v) (rs:=λs k=>∃ v,(∀ w,True->s.run P w = .ok v w)/\k v) (λ_ _ _ h=>h) (λ_ _ h=>h) (KK hp h)
     exact wS hE hK hsel hk2 hst (D:=λ_=>True) (.inl λ_=>trivial) n ls fr w hcl hfree hr (.inl ⟨hw,h1⟩) hC (iU hT hF hE hsub hK hsel n _ _ _ w (hcl.set hk2 hr) (listed i) (nB h2))
    ·obtain ⟨v,h1,h2⟩:=tJ hT (C:=C) (λ_ _ _ h=>O_ h) (λ_ _ h=>h) h
     exact wS hE hK hsel hk2 hst (D:=C) (.inr ⟨by unfold ye; rw [hst]; simpa using hp,λ_ h=>h⟩) n ls fr w hcl hfree hr (.inl ⟨hw,h1⟩) hC (iU hT hF hE hsub hK hsel n _ _ _ w (hcl.set hk2 hr) (listed i) (nB h2))
   ·rw [YZ hw] at h
    exact wS hE hK hsel hk2 hst (D:=λ_=>True) (.inl λ_=>trivial) n ls fr w hcl hfree hr (.inr ⟨by simpa using hw,rfl⟩) hC (iU hT hF hE hsub hK hsel n _ _ _ w (hcl.set hk2 hr) (listed i) h)
  ·rename_i hfs
   split at h
   ·rename_i h0
    exact ⟨λ_=>hsub _ _ h,λx hx=>by rw [h0] at hx; cases hx⟩
   ·rename_i es hne
    refine ⟨λh0=>absurd h0 hne,λx hx=>?_⟩
    have h1:=Iy h x hx
    rw [zP] at h1
    obtain ⟨hx1,hx2⟩:=gM.1 hx
    split
    ·rename_i hw
     rw [Y5 hw] at h1
     refine (Fw hT hF hE.ofEv h1).mono (λv w' _ hk=>?_) hE.trans
     have hk:=nB hk
     have eff:∀ {X:aa4->Prop},(Ft Ty all x.2 = true->X w')->eJ Ty x.2 = false->cS Ty all X x.2 w w':=λhX hs=>⟨λh=>(by rw [hs] at h; cases h),λ_ hn=>hX (Iw hn)⟩
     have hes:eJ Ty x.2 = false:=rG hfs x.1 x.2 hx1 (by rw [ZV]; exact hx2)
     cases hn:Ft Ty all x.2 with
     | true =>
      rw [hn] at hk
      unfold Yv at hk
      dsimp only at hk
      split at hk
      ·obtain ⟨C',k1,k2,k3⟩:=hk
       exact ⟨eff (λ_=>k2 _ k1) hes,GQ hE k2 n _ _ w' (iU hT hF hE hsub hK hsel n C' _ _ w' (hcl.set hx1 hx2) (.inl k1) k3)⟩
      ·exact ⟨eff (λ_=>hk.1) hes,iU hT hF hE hsub hK hsel n _ _ _ w' (hcl.set hx1 hx2) (.inl hk.1) hk.2⟩
     | false =>
      rw [hn] at hk
      refine ⟨eff (λh=>(by rw [hn] at h; cases h)) hes,iU hT hF hE hsub hK hsel n _ _ _ w' (hcl.set hx1 hx2) (.inr λk o hk' hs=>?_) hk⟩
      have h2:=Ix hcl hx2 hn k o hk' hs
      have h3:(ar (gJ ls x.1)).getD k false = true:=by rw [vc]; exact getD_set_true h2
      rcases Nat.lt_or_ge k (ar (gJ ls x.1)).size with h' | h'
      ·simp [h'] at h3 ⊢; exact h3
      ·simp [Array.getElem?_eq_none h'] at h3
    ·rename_i hw
     rw [YZ hw] at h1
     exact iU hT hF hE hsub hK hsel n _ _ _ w (hcl.set hx1 hx2) (listed _) h1
end
def ON (D:Nat):Deferred:={ target:=.collected D,args:=#[] }
def Mk (rf:Bool) (w0 w:aa4) (ds:List Deferred):Prop:=(rf = false->ds = [])/\∃ Ds:List Nat,ds = Ds.map ON/\Ds.Nodup/\∀ D∈Ds,w0.heap.size<=D/\w.heap[D]? = some (Obj.deferred (some []))
theorem Mk.nil {rf:Bool} (w0 w:aa4):Mk rf w0 w []:=⟨λ_=>rfl,[],rfl,List.nodup_nil,λ_ h=>by cases h⟩
section
variable {P:Program} {Ty:TypeId->Option dg} {Fn:FuncId->Bool} {E:aa4->aa4->Prop} {rf:Bool}
theorem Mk.trans (hE:Gx E) {w0 w1 w2:aa4} {d1 d2:List Deferred} (h0:E w0 w1) (h12:E w1 w2) (h1:Mk rf w0 w1 d1) (h2:Mk rf w1 w2 d2):Mk rf w0 w2 (d2 ++ d1):=by
 obtain ⟨R,U,rfl,n1,u⟩:=h1;obtain ⟨Y,W,rfl,O,G⟩:=h2
 refine ⟨λh=>(by rw [R h,Y h]; rfl),W ++ U,σ,?_,?_⟩
 ·rw [ZE];refine ⟨O,n1,λa V b X z=>?_⟩;subst z;have h1:=(G a V).1;have h2:=(ZG.1 (u a X).2).1;omega
 ·intro D Z
  rcases YY.1 Z with h | h
  ·exact ⟨Zq (hE.size h0) (G D h).1,(G D h).2⟩
  ·exact ⟨(u D h).1,hE.dfr h12 _ _ (u D h).2⟩
def QN (rf:Bool) (E:aa4->aa4->Prop) (N:Nat) (ws:List Nat) (fr0:Fr) (w0:aa4) (ds:List Deferred) (n r:Fr->aa4->Prop) (x:Nat->Fr->aa4->Prop):Exit->Act->aa4->Prop
 | .normal,a,w=>∃ fr ds',a = a_ N fr (ds' ++ ds)/\Fits N fr/\oP ws fr0 fr/\E w0 w/\Mk rf w0 w ds'/\n fr w
 | .ret,a,w=>∃ fr ds',a = a_ N fr (ds' ++ ds)/\Fits N fr/\oP ws fr0 fr/\E w0 w/\Mk rf w0 w ds'/\r fr w
 | .exit i,a,w=>∃ fr ds',a = a_ N fr (ds' ++ ds)/\Fits N fr/\oP ws fr0 fr/\E w0 w/\Mk rf w0 w ds'/\x i fr w
 | _,_,_=>False
theorem QN.mono {N:Nat} {ws ws' : List Nat} {fr0:Fr} {w0:aa4} {ds:List Deferred} {n r n' r' : Fr->aa4->Prop} {x x' : Nat->Fr->aa4->Prop}
  (hs:∀ t∈ws,t∈ws') (hn:∀ fr w,oP ws fr0 fr->E w0 w->n fr w->n' fr w) (hr:∀ fr w,r fr w->r' fr w) (hx:∀ i fr w,x i fr w->x' i fr w) {e:Exit} {a:Act} {w:aa4}
  (h:QN rf E N ws fr0 w0 ds n r x e a w):QN rf E N ws' fr0 w0 ds n' r' x' e a w:=by
 cases e <;> try exact h.elim
 all_goals (obtain ⟨fr,u,U,R,G,z,V,O⟩:=h)
 ·exact ⟨fr,u,U,R,G.mono hs,z,V,hn fr w G z O⟩
 ·exact ⟨fr,u,U,R,G.mono hs,z,V,hx _ fr w O⟩
 ·exact ⟨fr,u,U,R,G.mono hs,z,V,hr fr w O⟩
theorem QN.later (hE:Gx E) {N:Nat} {ws ws' : List Nat} {fr0 fr1:Fr} {w0 w1:aa4} {ds d1:List Deferred} {n r:Fr->aa4->Prop} {x:Nat->Fr->aa4->Prop}
  (hs:∀ t∈ws',t∈ws) (ha:oP ws fr0 fr1) (he:E w0 w1) (hm:Mk rf w0 w1 d1) {e:Exit} {a:Act} {w:aa4}
  (h:QN rf E N ws' fr1 w1 (d1 ++ ds) n r x e a w):QN rf E N ws fr0 w0 ds n r x e a w:=by
 cases e <;> try exact h.elim
 all_goals
  obtain ⟨U,u,V,O,R,z,W,G⟩:=h;exact ⟨U,u ++ d1,by rw [V,Y6],O,ha.trans (R.mono hs),hE.trans he z,Mk.trans hE he z hm W,G⟩
theorem GR:∀ l m,Kz l m = l ++ m
 | [],_=>rfl
 | x :: l,m=>by simp [Kz,GR l m]
theorem Mh (a b:Code):qj (.seq a b) = qj a ++ qj b:=by simp [qj,GR]
theorem Iz (c:Operand) (a b:Code):qj (.cond c a b) = qj a ++ qj b:=by simp [qj,GR]
def Pl (c:Cs) (v:Value):Prop:=∀ f:Value->Prop,c.all f->f v
theorem Cs.GS {β : Type} (c:Cs) (b:β) (v:Value):c.ap (c.Sm b) v b = b:=by
 cases c <;> cases v <;> simp only [Cs.ap,Cs.Sm] <;> try rfl
 ·rename_i k k' n; cases Nat.beq (kx k) (kx k') <;> rfl
 ·rename_i fn first u; cases fn <;> try rfl
  obtain ⟨first⟩:=first; obtain ⟨u⟩:=u; cases first <;> rfl
theorem Cs.ym {β : Type} {c:Cs} {g:c.arr β} {v:Value} {d:β} (D:β->Prop) (hd:¬ D d) (h:D (c.ap g v d)):Pl c v:=by
 intro f z;cases c <;> cases v <;> simp only [Cs.ap] at h <;> try exact absurd h hd
 case int.int k k' n =>
  cases hb:Nat.beq (kx k) (kx k') <;> rw [hb] at h
  ·exact absurd h hd
  ·rw [<- OZ hb]; exact z n
 case fn.func fn first u =>
  cases fn <;> try exact absurd h hd
  obtain ⟨first⟩:=first
  obtain ⟨u⟩:=u
  cases first
  ·exact z _ _
  ·exact absurd h hd
 all_goals (first | exact z _ | exact z _ _ _)
theorem GU {β : Type} (d:β):∀ (l:List Cs) (vs:List Value),WI l (Ky l d) vs d = d
 | [],[]=>rfl
 | [],_ :: _=>rfl
 | c :: l,[]=>rfl
 | c :: l,v :: vs=>by
  show WI l (c.ap (c.Sm (Ky l d)) v (Ky l d)) vs d = d
  rw [Cs.GS]; exact GU d l vs
theorem FD {β : Type} (d:β) (D:β->Prop) (hd:¬ D d):∀ {l:List Cs} {g:Ns l β} {vs:List Value},D (WI l g vs d)->∀ f:List Value->Prop,Sj l f->f vs
 | [],g,[],_=>λf ha=>ha
 | [],g,v :: vs,h=>absurd h hd
 | c :: l,g,[],h=>absurd h hd
 | c :: l,g,v :: vs,h=>λf ha=>by
  have h1:Pl c v:=Cs.ym (β:=Ns l β) (g:=g) (d:=Ky l d) (λk=>D (WI l k vs d)) (by rw [GU]; exact hd) h
  exact FD d D hd (l:=l) h (λvs=>f (v :: vs)) (h1 _ ha)
theorem S1.GS {β : Type} (c:S1) (b:β) (v:Value):c.ap (c.Sm b) v b = b:=by
 cases c with
 | one c=>cases v <;> exact Cs.GS c b _
 | agg l=>cases v <;> first | exact GU b l _ | rfl
theorem S1.ym {β : Type} {c:S1} {g:c.arr β} {v:Value} {d:β} (D:β->Prop) (hd:¬ D d) (h:D (c.ap g v d)):∀ f:Value->Prop,c.all f->f v:=by
 cases c with
 | one c=>exact Cs.ym D hd (by cases v <;> exact h)
 | agg l =>
  cases v <;> try exact absurd h hd
  rename_i cs;intro f u;obtain ⟨cs⟩:=cs;exact FD d D hd (l:=l) h (λvs=>f (.agg ⟨vs⟩)) u
theorem Mi {β : Type} (d:β):∀ (l:List S1) (vs:List Value),Fo l (Nt l d) vs d = d
 | [],[]=>rfl
 | [],_ :: _=>rfl
 | c :: l,[]=>rfl
 | c :: l,v :: vs=>by
  show Fo l (c.ap (c.Sm (Nt l d)) v (Nt l d)) vs d = d
  rw [S1.GS]; exact Mi d l vs
theorem zS {β : Type} (d:β) (D:β->Prop) (hd:¬ D d):∀ {l:List S1} {g:CR l β} {vs:List Value},D (Fo l g vs d)->∀ f:List Value->Prop,Ia l f->f vs
 | [],g,[],_=>λf ha=>ha
 | [],g,v :: vs,h=>absurd h hd
 | c :: l,g,[],h=>absurd h hd
 | c :: l,g,v :: vs,h=>λf ha=>by
  have h1:=S1.ym (β:=CR l β) (c:=c) (g:=g) (v:=v) (d:=Nt l d) (λk=>D (Fo l k vs d)) (by rw [Mi]; exact hd) h
  exact zS d D hd (l:=l) h (λvs=>f (v :: vs)) (h1 _ ha)
theorem zT {N:Nat} {d:Nat->Value} (t:Nat) (ht:t < N):∀ (ws:List Nat) (fr:Fr),(∀ s,ew fr s = d s\/s∉ws)\/True->ew (oU N d ws fr) t = if t∈ws then d t else ew fr t
 | [],fr,_=>by simp [oU]
 | s :: ws,fr,_=>by
  rw [oU,zT t ht ws _ (.inr trivial)]
  by_cases h:t∈ws
  ·simp [h]
  ·rw [YZ h,lu]
   by_cases hs:s = t
   ·subst hs; simp [ht]
   ·have hs' : t≠s:=λe=>hs e.symm
    simp [hs,hs',h]
theorem C9 {N:Nat} (t:Nat) (ht:t < N) (fr2:Fr):∀ (lv:List (Nat × S1)) (fr:Fr),ew (lx N fr lv (tG fr2 lv)) t = if t∈lv.map (·.1) then ew fr2 t else ew fr t
 | [],fr=>by simp [lx]
 | (s,c) :: lv,fr=>by
  rw [tG,lx,C9 t ht fr2 lv]
  by_cases h:t∈lv.map (·.1)
  ·have:t∈((s,c) :: lv).map (·.1):=by simp only [ZF,Ze]; exact .inr h
   rw [Y5 h,Y5 this]
  ·rw [YZ h,lu]
   by_cases hs:s = t
   ·subst hs; simp [ht]
   ·have hs' : t≠s:=λe=>hs e.symm
    have:t∉((s,c) :: lv).map (·.1):=by simp only [ZF,Ze]; rintro (h1 | h1); exact hs' h1; exact h h1
    rw [YZ this,YZ (λe:s = t/\s < N=>hs e.1)]
theorem l7 {N:Nat} {d:Nat->Value}:∀ (ws:List Nat) {fr:Fr},Fits N fr->Fits N (oU N d ws fr)
 | [],_,h=>h
 | s :: ws,_,h=>l7 ws (ya h _ _)
theorem lV {N:Nat}:∀ (lv:List (Nat × S1)) (vs:List Value) {fr:Fr},Fits N fr->Fits N (lx N fr lv vs)
 | [],_,_,h=>h
 | (s,c) :: lv,[],_,h=>h
 | (s,c) :: lv,v :: vs,_,h=>lV lv vs (ya h _ _)
theorem C_ {N:Nat} {ws:List Nat} {fr fr2:Fr} (lv:List (Nat × S1)) (ds:List Deferred) (ha:oP ws fr fr2) :
  a_ N (lx N (oU N (ew fr2) ws fr) lv (tG fr2 lv)) ds = a_ N fr2 ds:=by
 refine Bf ds λt ht=>?_;rw [C9 t ht]
 split
 ·rfl
 ·rw [zT t ht ws fr (.inr trivial)]
  split
  ·rfl
  ·rename_i h; exact (ha t h).symm
end
section
variable {P:Program} {Ty:TypeId->Option dg} {Fn:FuncId->Bool} {E:aa4->aa4->Prop} {N:Nat} {ro:Option Nat} {k:Nat}
theorem zU {ws:List Nat} {fr fr2:Fr} (lv:List (Nat × S1)) (hf:Fits N fr) (ha:oP ws fr fr2):oP ws fr (lx N (oU N (ew fr2) ws fr) lv (tG fr2 lv)):=by
 intro t ht
 by_cases u:t < N
 ·rw [C9 t u]
  split
  ·exact ha t ht
  ·rw [zT t u ws fr (.inr trivial),YZ ht]
 ·rw [lV lv _ (l7 ws hf) t (aax u),hf t (aax u)]
theorem FE (hE:Gx E) {C:aa4->Prop} {all:List Oper} {Kend:Fr->aa4->Prop} {ds:List Deferred} {Q:Exit->Act->aa4->Prop} :
  ∀ (n:Nat) (ls:List Bool) (fr:Fr) (w:aa4),tM P Ty E N C all Kend n ls fr w->Fits N fr ->
   (∀ fr' w',Fits N fr'->oP (dstsOf all) fr fr'->E w w'->Kend fr' w'->Q .normal (a_ N fr' ds) w')->wpAnyIn (wf ro) k P .any ⟨all⟩ Q n (ar ls) (a_ N fr ds) w
 | 0,ls,fr,w,h,hf,hQ=>by
  refine ⟨?_,hQ fr w hf (oP.refl _ _) (hE.ofEv _ _ (Ev.refl w)) h.2⟩
  cases hr:Region.ready .any ⟨all⟩ (ar ls) with
  | nil=>rfl
  | cons j l =>
   have:j∈Region.ready .any ⟨all⟩ (ar ls):=by rw [hr]; simp
   obtain ⟨o,ho⟩:=nT.1 this
   rw [h.1] at ho; cases ho
 | n + 1,ls,fr,w,h,hf,hQ=>by
  refine ⟨λh0=>?_,λj hj=>?_⟩
  ·refine hQ fr w hf (oP.refl _ _) (hE.ofEv _ _ (Ev.refl w)) (h.1 ?_)
   cases hr:fm ls 0 all with
   | nil=>rfl
   | cons x l =>
    have:x.1∈Region.ready .any ⟨all⟩ (ar ls):=nT.2 ⟨x.2,by rw [hr]; simp⟩
    rw [h0] at this; cases this
  ·obtain ⟨o,ho⟩:=nT.1 hj
   have hx:=h.2 (j,o) ho
   obtain ⟨h1,h2⟩:=gM.1 ho
   dsimp only at hx h1 h2
   have ho' : (⟨all⟩ : Array Oper)[j]? = some o:=by simpa using h1
   unfold wpOpIn
   simp only [ho',Fx hf]
   have sub:∀ x,o.dst = some x->x∈dstsOf all:=by
    intro x hx
    have:∀ (l:List Oper) (j:Nat),l[j]? = some o->x∈dstsOf l:=by
     intro l
     induction l with
     | nil=>intro j h; simp at h
     | cons p l ih =>
      intro j h
      cases j with
      | zero=>simp at h; subst h; simp [dstsOf,hx]
      | succ j=>have:=ih j (by simpa using h); unfold dstsOf; cases p.dst <;> simp [this]
    exact this all j h1
   have next:∀ v w',E w w'->tM P Ty E N C all Kend n (gJ ls j) (put N fr o.dst v) w'->wpAnyIn (wf ro) k P .any ⟨all⟩ Q n ((ar ls).setIfInBounds j true) ((a_ N fr ds).put o.dst v) w':=λv w' hew hd=>by
    rw [Gy,<- vc]
    exact FE hE n _ _ w' hd (ya hf _ _) λfr' w'' h1 h2 h3 h4=>hQ fr' w'' h1 (((oP.refl _ fr).put v sub).trans h2) (hE.trans hew h3) h4
   split
   ·rename_i hw
    rw [Y5 hw] at hx
    refine Ir (E:=E) ?_
    rw [L3 N fr ds hf]
    refine hx.mono (λv w' hew hk=>next v w' hew ?_) hE.trans
    exact hk.2
   ·rename_i hw
    rw [YZ hw] at hx
    exact ⟨λ_ _=>trivial,next undef w (hE.ofEv _ _ (Ev.refl w)) hx⟩
theorem Mj:∀ l,Sr.lenO l = l.length
 | []=>rfl
 | _ :: l=>by simp [Sr.lenO,Mj l]
theorem Da:∀ n,Ma n = List.replicate n false
 | 0=>rfl
 | n + 1=>by simp [Ma,Da n,aar]
theorem IA:∀ {ops:List Oper},Mc ops = true->∀ (k:Nat) (o:Oper) cs b,ops[k]? = some o->o.op≠.select cs b
 | [],_,k,o,cs,b,hk=>by simp at hk
 | p :: l,h,k,o,cs,b,hk=>by
  simp only [Mc,Zd] at h
  cases k with
  | zero=>simp at hk; subst hk; intro he; rw [he] at h; cases h.1
  | succ k=>exact IA h.2 k o cs b (by simpa using hk)
theorem U_ (n j:Nat):(ar (List.replicate n false)).getD j false = false:=by
 by_cases h:j < n <;> simp [ar,h]
theorem ND (hT:dP P Ty) (hF:tK P Fn) (hE:Gx E) (hm:P.follows .mixedOrders = true) {id:Nat} {ops:Array Oper} {draw:Bool} {fr:Fr} {w:aa4} {K:Fr->aa4->Prop} {ds:List Deferred} {Q:Exit->Act->aa4->Prop}
  (h:Sr P Ty Fn E N ops.toList draw fr w K) (hf:Fits N fr)
  (hQ:∀ fr' w',Fits N fr'->oP (dstsOf ops.toList) fr fr'->E w w'->K fr' w'->Q .normal (a_ N fr' ds) w'):(Code.region id ops draw).wpIn (wf ro) k P Q (a_ N fr ds) w:=by
 cases draw with
 | false =>
  refine wpIn_region_list ?_;exact Fy hT hF hE ops.toList 0 fr w h hf hQ
 | true =>
  refine wpIn_region_any hm ?_;obtain ⟨z,h⟩:=bS.1 h;obtain ⟨C,hC,X⟩:=h _ rfl;have hK:∀ (a b:Fr) (w:aa4),ext a b->(∃ u,ext u a/\K u w)->∃ u,ext u b/\K u w:=λa b w Y ⟨f,O,G⟩=>⟨f,λt=>(O t).trans (Y t),G⟩;have:=iU hT hF hE (Kend:=λfr w=>∃ u,ext u fr/\K u w) (λfr w h=>⟨fr,λ_=>rfl,h⟩) hK (IA z) _ _ _ fr _ (λj o _ U=>by rw [Da,U_] at U; cases U) (.inl hC) X;rw [Mj,Da] at this;have e:(Array.replicate ops.size false) = ar (List.replicate ops.toList.length false):=by apply aan; simp [ar]
  rw [e];have V:ops.size = ops.toList.length:=σ
  rw [V];refine FE hE (ds:=ds) (Q:=Q) _ _ fr _ this hf λfr' w' O G Z ⟨u,R,W⟩=>?_;rw [Bf ds (fr:=fr') (fr':=u) λt _=>(R t).symm];exact hQ u w' (λt ht=>by rw [R t]; exact O t ht) (λt ht=>by rw [R t]; exact G t ht) (hE.trans (hE.ofEv _ _ (Ev.drew w _)) Z) W
end
structure Ci (l:Nat) (w w' : aa4):Prop where
 os:w'.os = w.os
 tape:w'.tape = w.tape
 output:w'.output = w.output
 size:w.heap.size<=w'.heap.size
 dfr:∀ (b:Nat) (d:Option (List Deferred)),w.heap[b]? = some (Obj.deferred d)->w'.heap[b]? = some (Obj.deferred d)
 lop:∀ (b:Nat) (d:Loop),b≠l->w.heap[b]? = some (Obj.loop d)->w'.heap[b]? = some (Obj.loop d)
theorem Ci.trans {l:Nat} {a b c:aa4} (h:Ci l a b) (k:Ci l b c):Ci l a c :=
 ⟨k.os.trans h.os,k.tape.trans h.tape,k.output.trans h.output,Zq h.size k.size,λx d u=>k.dfr x d (h.dfr x d u),λx d z u=>k.lop x d z (h.lop x d z u)⟩
theorem Ci.of {l:Nat} {a b:aa4} (h:Ev a b):Ci l a b:=⟨h.os,h.tape,h.output,h.size,h.dfr,λx d _ u=>h.lop x d u⟩
theorem WY (l:Nat):Gx (Ci l):=⟨λh k=>h.trans k,λ_ _ h=>.of h,λh k d u=>h.dfr k d u,λh=>h.size⟩
theorem Ci.putObj {l:Nat} {w:aa4} {r r' : Loop} (h:w.heap[l]? = some (.loop r)):Ci l w (w.putObj l (.loop r')):=by
 refine ⟨rfl,rfl,rfl,σ,λb d u=>?_,λb d z u=>?_⟩
 ·rw [World.putObj_heap_other]; exact u;intro e; subst e; rw [h] at u; cases u
 ·rw [World.putObj_heap_other z]; exact u
theorem Ev.YQ {l:Nat} {a b:aa4} (h:Ci l a b) (hl:a.heap.size<=l):Ev a b :=
 ⟨h.os,h.tape,h.output,h.size,h.dfr,λx d u=>h.lop x d (λe=>by have:=(ZG.1 u).1; omega) u⟩
theorem Ev.back {l:Nat} {a b c:aa4} (h1:Ev a b) (h:Ci l b c) (hl:a.heap.size<=l):Ev a c :=
 ⟨h.os.trans h1.os,h.tape.trans h1.tape,h.output.trans h1.output,Zq h1.size h.size,λx d u=>h.dfr x d (h1.dfr x d u),
  λx d u=>h.lop x d (λe=>by have:=(ZG.1 u).1; omega) (h1.lop x d u)⟩
theorem St.putObj {w:aa4} {b:Nat} {o:Obj} {L:List az} (h:St w (blk b o :: L)) (o' : Obj) (ho:H5 o' = true:=by rfl):St (w.putObj b o') (blk b o' :: L):=h.setObj o' ho
theorem St.alloc {w:aa4} {L:List az} (h:St w L) (o:Obj) (ho:H5 o = true:=by rfl):St (w.alloc o) (blk w.heap.size o :: L):=h.push o ho
theorem St.Va {w:aa4} {L:List az} (h:St w L) (d:Option (List Deferred)):St (w.alloc (.deferred d)) L:=h.eq (OY w d)
theorem Ml {c:Cs} {q p:Value->Prop} (h:c.ex q) (ha:c.all p):∃ v,q v/\p v:=by
 cases c <;> simp only [Cs.ex,Cs.all] at h ha
 case slice=>obtain ⟨a,l,c,h⟩:=h; exact ⟨_,h,ha _ _ _⟩
 case fn=>obtain ⟨a,l,h⟩:=h; exact ⟨_,h,ha _ _⟩
 all_goals (obtain ⟨a,h⟩:=h; exact ⟨_,h,ha _⟩)
theorem Sy {l:List Cs}:∀ {q p:List Value->Prop},WG l q->Sj l p->∃ vs,q vs/\p vs:=by
 induction l with
 | nil=>exact λh k=>⟨[],h,k⟩
 | cons c l ih=>intro q p h k; obtain ⟨v,h,k⟩:=Ml h k; obtain ⟨vs,h,k⟩:=ih h k; exact ⟨v :: vs,h,k⟩
theorem Pm {c:S1} {q p:Value->Prop} (h:c.ex q) (ha:c.all p):∃ v,q v/\p v:=by
 cases c with
 | one c=>exact Ml h ha
 | agg l=>obtain ⟨vs,h,k⟩:=Sy h ha; exact ⟨_,h,k⟩
theorem Sz {l:List S1}:∀ {q p:List Value->Prop},UX l q->Ia l p->∃ vs,vs.length = l.length/\q vs/\p vs:=by
 induction l with
 | nil=>exact λh k=>⟨[],rfl,h,k⟩
 | cons c l ih=>intro q p h k; obtain ⟨v,h,k⟩:=Pm h k; obtain ⟨vs,u,h,k⟩:=ih h k; exact ⟨v :: vs,by simp [u],h,k⟩
theorem IB {p:Nat->Prop}:∀ {l:List Nat},U7 l p->∀ j,qo j l = true->p j
 | [],_,j,h=>by simp [qo] at h
 | [a],h,j,hj=>by
  simp only [qo,Bool.or_false] at hj
  rw [aaB hj]; exact h
 | a :: b :: l,h,j,hj=>by
  obtain ⟨h1,h2⟩:=h
  by_cases e:Nat.beq j a = true
  ·rw [aaB e]; exact h1
  ·refine IB h2 j ?_
   rw [qo] at hj
   simpa [e] using hj
theorem Mm:∀ lv,(xY lv).length = lv.length
 | []=>rfl
 | _ :: l=>by simp [xY,Mm l]
theorem FF:∀ {ps:List Nat} {lv:List (Nat × S1)},tH ps lv = true->ps.length = lv.length
 | [],[],_=>rfl
 | [],_ :: _,h=>by simp [tH] at h
 | _ :: _,[],h=>by simp [tH] at h
 | a :: l,(b,c) :: m,h=>by simp only [tH,Zd] at h; simp [FF h.2]
theorem FG {N:Nat} {d:List Deferred}:∀ (ps:List Nat) (lv:List (Nat × S1)) (vs:List Value) (fr:Fr),tH ps lv = true->vs.length = lv.length ->
  (ps.zip vs).foldl (λ(t:Array Value) (x:Nat × Value)=>t.setIfInBounds x.1 x.2) (a_ N fr d).tmps = (a_ N (lx N fr lv vs) d).tmps
 | [],[],vs,fr,_,hl=>by simp [lx]
 | [],_ :: _,_,_,h,_=>by simp [tH] at h
 | _ :: _,[],_,_,h,_=>by simp [tH] at h
 | a :: l,(b,c) :: m,[],fr,h,hl=>by simp at hl
 | a :: l,(b,c) :: m,v :: vs,fr,h,hl=>by
  simp only [tH,Zd] at h
  have hab:=aaB h.1
  subst hab
  simp only [List.zip_cons_cons,List.foldl_cons,lx]
  have:=Gy N fr d (some a) v
  rw [<- FG l m vs _ h.2 (by simpa using hl),<- this]
  rfl
section
variable {P:Program} {Ty:TypeId->Option dg} {Fn:FuncId->Bool} {E:aa4->aa4->Prop} {N:Nat} {k:Nat} {rf:Bool}
theorem NF (hrf:rf = true) (hT:dP P Ty) (hF:tK P Fn) (hE:Gx E) (hEE:∀ a b,E a b->Ev a b) (A:bm) {f:Operand} {ps:Array Tmp} {a b:Code} {fr:Fr} {w:aa4} {n r:Fr->aa4->Prop} {x:Nat->Fr->aa4->Prop} {ds:List Deferred}
    (iha:∀ (ro:Option Nat) (k:Nat) (fr:Fr) (w:aa4) (n r:Fr->aa4->Prop) (x:Nat->Fr->aa4->Prop),den P Ty Fn E N A a fr w n r x->Fits N fr->∀ ds,a.wpIn (wf ro) k P (QN rf E N (qj a) fr w ds n r x) (a_ N fr ds) w)
    (ihb:∀ (ro:Option Nat) (k:Nat) (fr:Fr) (w:aa4) (n r:Fr->aa4->Prop) (x:Nat->Fr->aa4->Prop),den P Ty Fn E N A b fr w n r x->Fits N fr->∀ ds,b.wpIn (wf ro) k P (QN rf E N (qj b) fr w ds n r x) (a_ N fr ds) w)
    {g:FuncId} {first cap:Array Value} {lv:List (Nat × S1)} (hv:ev fr f = .func (.func g) first cap) (hg:Fn g = true) (hps:tH ps.toList lv = true)
    (h : WX P g first.toList cap.toList (xY lv) (fW b) w
          (λvs w K=>den P Ty Fn E N A a (lx N fr lv vs) w K (λ_ _=>False) (λ_ _ _=>False))
          (λfr1 w n' r' x'=>den P Ty Fn E N A b fr1 w (λ_ w=>n' w) (λ_ w=>r' w) (λj _ w=>x' j w)) (n fr) (r fr) (λj=>x j fr))
    (hf:Fits N fr):(Code.rangeFunc f ps a b).wpIn (wf none) k P (QN rf E N [] fr w ds n r x) (a_ N fr ds) w:=by
  obtain ⟨xs,D,Q,J,Jr,Jx0,L,h0,hQL,hI,hty,hrd0,hn,hr,hx0⟩:=h
  let Jx:Nat->az:=λj=>aC [pu (qo j (fW b) = true),Jx0 j]
  have jx:∀ j w L,St w (Jx j :: L)↔yc (qo j (fW b)) (St w (Jx0 j :: L)):=λj w L=>by
    rw [bS]; exact St.flat.trans St.pu
  have hx:∀ j w',St w' (Jx j :: D :: L)->x j fr w':=λj w' hs=>by
    obtain ⟨h1,h2⟩:=bS.1 ((jx j w' _).1 hs)
    exact IB hx0 j h1 w' h2
  have hrd:∀ i,Ia (xY lv) λvs=>xs[i]? = some vs->∀ L' w,Ss L' L->St w (J i :: L') ->
      den P Ty Fn E N A a (lx N fr lv vs) w (λfr1 w1=>∃ M:az,St w1 (M :: L')/\∀ L' w,Ss L' L->St w (M :: L') ->
        den P Ty Fn E N A b fr1 w (λ_ w'=>St w' (J (i + 1) :: L')) (λ_ w'=>St w' (Jr :: L')) (λj _ w'=>St w' (Jx j :: L'))) (λ_ _=>False) (λ_ _ _=>False):=λi=>by
    have e:(λ(L:List az) (j:Nat) (_:Fr) (w' : aa4)=>St w' (Jx j :: L)) = λL j _ w'=>yc (qo j (fW b)) (St w' (Jx0 j :: L)):=by
      funext L j _ w'; exact propext (jx j w' L)
    have:=hrd0 i
    have e2:∀ L:List az,(λ(j:Nat) (_:Fr) (w' : aa4)=>St w' (Jx j :: L)) = λj _ w'=>yc (qo j (fW b)) (St w' (Jx0 j :: L)):=λL=>congrFun e L
    simp only [e2]
    exact this
  refine wpIn_rangeFunc λfn _=>?_
  let rec0:Loop:={ state:=.ready,pending:=none,fn,tmps:=(a_ N fr ds).tmps,params:=ps,assign:=a,body:=b,defers:=w.heap.size }
  let w1:aa4:=(w.alloc (.deferred (some []))).alloc (.loop rec0)
  have hl:w.heap.size + 1 = (w.alloc (.deferred (some []))).heap.size:=σ
  have ew1:Ev w w1:=(Ev.push w _).trans (Ev.push _ _)
  have he:(f:Operand) = f:=rfl
  have e2:first ++ (#[.func (.yield (w.heap.size + 1)) #[] #[]] : Array Value) ++ cap = ⟨BA first.toList [.func (.yield (w.heap.size + 1)) #[] #[]] cap.toList⟩:=by
    apply aan; simp [GG]
  have hev:(a_ N fr ds).eval f = .func (.func g) first cap:=by rw [Ku N fr ds hf]; exact hv
  refine ⟨w.heap.size + 1,[ON w.heap.size],w1,⟨.fn (.func g) cap,first ++ #[.func (.yield (w.heap.size + 1)) #[] #[]]⟩,w1,g,⟨BA first.toList [.func (.yield (w.heap.size + 1)) #[] #[]] cap.toList⟩,w1,
    run_enterLoop_outer fn _ ps a b,?_,λ_ _=>trivial,?_,λh=>(by cases h),?_⟩
  · simp only [resolve,List.map_toArray,ZF,List.map_nil,hev,Deferred.ofValue,Sem.run_pure]
    rfl
  · simp only [invoke,e2,yj hF hg]
  · have hcall:vt P (Ci (w.heap.size + 1)) g (BA first.toList [.func (.yield (w.heap.size + 1)) #[] #[]] cap.toList) w1 _ :=
      hI (w.heap.size + 1) (Ci (w.heap.size + 1)) (WY _) (λi=>aC [J i,blk (w.heap.size + 1) (.loop rec0)])
        (ex λc:Option Nat=>match c with
          | none=>aC [Jr,blk (w.heap.size + 1) (.loop { rec0 with state:=.done,pending:=some .ret })]
          | some j=>aC [Jx j,blk (w.heap.size + 1) (.loop { rec0 with state:=.done,pending:=some (.exit j) })])
        L w1 ?_ hQL ?_
    · refine callsIn_wide.2 ?_
      refine Calls.mono hcall ?_
      rintro e w3 ⟨v,rfl,hX,hQ⟩
      have fin:∀ (st:LoopState) (pd:Option Code) (M:az),st≠.busy->St w3 (M :: blk (w.heap.size + 1) (.loop { rec0 with state:=st,pending:=pd }) :: D :: L) ->
          ∃ w4,(Instr.endLoop (w.heap.size + 1)).run P w3 = .ok pd w4/\St w4 (M :: D :: L)/\E w w4/\Mk rf w w4 [ON w.heap.size]:=by
        intro st pd M hst hs
        have hs':=hs.swap
        have hg:=hs'.get
        refine ⟨_,run_endLoop hg hst,(hs'.putObj _).tail,?_,?_⟩
        · exact hE.ofEv _ _ (ew1.back (hX.trans (Ci.putObj hg)) ω)
        · refine ⟨λh=>(by rw [hrf] at h; cases h),[w.heap.size],rfl,σ,λd hd=>?_⟩
          simp only [Zl] at hd
          subst hd
          refine ⟨Zc _,?_⟩
          refine (hX.trans (Ci.putObj hg)).dfr _ _ ?_
          show ((w.heap.push _).push _)[w.heap.size]? = _
          rw [Array.getElem?_push,YZ σ,Array.getElem?_push,Y5 rfl]
      have qn:∀ w4,E w w4->Mk rf w w4 [ON w.heap.size]->∀ {p:Prop},p->∃ fr' ds',{ (a_ N fr ds) with defers:=[ON w.heap.size] ++ (a_ N fr ds).defers } = a_ N fr' (ds' ++ ds)/\Fits N fr'/\oP [] fr fr'/\E w w4/\Mk rf w w4 ds'/\(fr' = fr/\p) :=
        λw4 h1 h2 _ hp=>⟨fr,[ON w.heap.size],rfl,hf,oP.refl _ _,h1,h2,rfl,hp⟩
      rcases hQ with hQ | hQ
      · have hQ:=St.flat.1 hQ
        obtain ⟨w4,h1,h2,h3,h4⟩:=fin .ready none _ (by intro h; cases h) hQ
        refine ⟨none,w4,h1,?_⟩
        obtain ⟨fr',ds',g1,g2,g3,g4,g5,rfl,g6⟩:=qn w4 h3 h4 (hn w4 h2)
        exact ⟨_,ds',g1,g2,g3,g4,g5,g6⟩
      · obtain ⟨c,hQ⟩:=St.ex.1 hQ
        cases c with
        | none =>
          have hQ:=St.flat.1 hQ
          obtain ⟨w4,h1,h2,h3,h4⟩:=fin .done (some .ret) _ (by intro h; cases h) hQ
          refine ⟨some .ret,w4,h1,wpIn_ret ?_⟩
          obtain ⟨fr',ds',g1,g2,g3,g4,g5,rfl,g6⟩:=qn w4 h3 h4 (hr w4 h2)
          exact ⟨_,ds',g1,g2,g3,g4,g5,g6⟩
        | some j =>
          have hQ:=St.flat.1 hQ
          obtain ⟨w4,h1,h2,h3,h4⟩:=fin .done (some (.exit j)) _ (by intro h; cases h) hQ
          refine ⟨some (.exit j),w4,h1,wpIn_exit ?_⟩
          obtain ⟨fr',ds',g1,g2,g3,g4,g5,rfl,g6⟩:=qn w4 h3 h4 (hx j w4 h2)
          exact ⟨_,ds',g1,g2,g3,g4,g5,g6⟩
    · have h1:=(h0.Va (some [])).alloc (.loop rec0)
      rw [<- hl] at h1
      refine St.flat.2 ?_
      exact h1.swap
    · intro i us hi L' w' hsup hs
      have hs1:=St.flat.1 hs
      have hg:=hs1.swap.get
      obtain ⟨vs,hvl,hve,hvs⟩:=Sz (hty us (YV hi)) (hrd i)
      subst hve
      have hlen:us.length = lv.length:=by rw [hvl,Mm]
      have hpl:=FF hps
      have hden:=hvs hi (blk (w.heap.size + 1) (.loop rec0) :: L') w' (λh hh=>hsup h (aY hh)) hs1
      refine ⟨fn,(a_ N (lx N fr lv us) []).tmps,a,b,?_,?_⟩
      · have hy:=run_yield (P:=P) (args:=⟨us⟩) hg (by show us.length = ps.size; rw [hlen,<- hpl]; simp)
        rw [hy]
        have hz:(ps.zip (⟨us⟩ : Array Value)).foldl (λ(t:Array Value) (x:Nat × Value)=>t.setIfInBounds x.1 x.2) (a_ N fr ds).tmps = (a_ N (lx N fr lv us) []).tmps:=by
          rw [show (a_ N (lx N fr lv us) []).tmps = (a_ N (lx N fr lv us) ds).tmps from rfl,<- FG ps.toList lv us fr hps hlen,<- Array.foldl_toList]
          congr 1
          simp
        show Result.ok (Next.round (w.heap.size + 1) fn ((ps.zip (⟨us⟩ : Array Value)).foldl (λ(t:Array Value) (x:Nat × Value)=>t.setIfInBounds x.1 x.2) (a_ N fr ds).tmps) a b) w' = _
        rw [hz]
      · refine roundIn_of_wpIn trivial ?_
        have hfit:Fits N (lx N fr lv us):=lV lv _ hf
        refine wpIn_mono (iha (some (w.heap.size + 1)) 0 _ w' _ _ _ hden hfit []) λe a1 w1' hq=>?_
        cases e with
        | normal =>
          obtain ⟨fr1,ds1,rfl,q2,q3,q4,q5,M,q6,q7⟩:=hq
          have hs2:=q6.swap
          have hg2:=hs2.get
          refine ⟨_,run_beginRound hg2 rfl,?_⟩
          have hs3:=(hs2.putObj (.loop { rec0 with state:=.busy })).swap
          have hx3:Ci (w.heap.size + 1) w' (w1'.putObj (w.heap.size + 1) (.loop { rec0 with state:=.busy })):=(Ci.of (hEE _ _ q4)).trans (Ci.putObj hg2)
          refine wpIn_mono (ihb (some (w.heap.size + 1)) 0 _ _ _ _ _ (q7 _ _ (λh hh=>hsup h (aY hh)) hs3) q2 _) λe a2 w2 hq=>?_
          cases e with
          | normal =>
            obtain ⟨fr2,ds2,rfl,p2,p3,p4,p5,p6⟩:=hq
            have hs4:=p6.swap
            have hg4:=hs4.get
            refine ⟨_,_,run_endRound none hg4,_,rfl,(hx3.trans (Ci.of (hEE _ _ p4))).trans (Ci.putObj hg4),.inl ⟨rfl,St.flat.2 (hs4.putObj _).swap⟩⟩
          | ret =>
            obtain ⟨fr2,ds2,rfl,p2,p3,p4,p5,p6⟩:=hq
            have hs4:=p6.swap
            have hg4:=hs4.get
            refine ⟨_,_,run_endRound (some .ret) hg4,_,rfl,(hx3.trans (Ci.of (hEE _ _ p4))).trans (Ci.putObj hg4),.inr ⟨rfl,St.ex.2 ⟨none,St.flat.2 (hs4.putObj _).swap⟩⟩⟩
          | exit j =>
            obtain ⟨fr2,ds2,rfl,p2,p3,p4,p5,p6⟩:=hq
            have hs4:=p6.swap
            have hg4:=hs4.get
            refine ⟨_,_,run_endRound (some (.exit j)) hg4,_,rfl,(hx3.trans (Ci.of (hEE _ _ p4))).trans (Ci.putObj hg4),.inr ⟨rfl,St.ex.2 ⟨some j,St.flat.2 (hs4.putObj _).swap⟩⟩⟩
          | goto l=>exact hq.elim
          | panic ch=>exact hq.elim
          | outgrown=>exact hq.elim
        | ret=>obtain ⟨_,_,_,_,_,_,_,hh⟩:=hq; exact hh.elim
        | exit j=>obtain ⟨_,_,_,_,_,_,_,hh⟩:=hq; exact hh.elim
        | goto l=>exact hq.elim
        | panic ch=>exact hq.elim
        | outgrown=>exact hq.elim
end
section
variable {P:Program} {Ty:TypeId->Option dg} {Fn:FuncId->Bool} {E:aa4->aa4->Prop} {N:Nat} {rf:Bool}
theorem Pn {v:Value} {a b:Prop} (h:XL v a b):∃ t,v = .bool t/\(if t then a else b):=by
 unfold XL at h
 split at h
 ·rename_i c; refine ⟨c,rfl,?_⟩; cases c <;> exact h
 ·exact h.elim
theorem iV {b:Frame} {a:Act} {k:List Item} {cs:List Frame} {w:aa4} {c:Code}:step P (lone (b.atR a (.code (.scope c) :: k)) cs w) = .next (lone (b.atR a (.code c :: .inScope c :: k)) cs w) :=
 step_lone_go (by simp [stepG,stepG.exec,Frame.atR])
theorem EV {b:Frame} {a:Act} {k:List Item} {cs:List Frame} {w:aa4} {c:Code}:step P (lone (b.atR a (.inScope c :: k)) cs w) = .next (lone (b.atR a k) cs w) :=
 step_lone_go (by simp [stepG,stepG.exec,Frame.atR])
theorem KL {F:Fence} {n:Nat} {a:Act} {w:aa4} {Q:Exit->Act->aa4->Prop} {c:Code} (hQ:∀ l a w,¬ Q (.goto l) a w) (h:c.wpIn F n P Q a w):(Code.scope c).wpIn F n P Q a w:=by
 intro b k cs R W V;have h0:(lone (b.atR a (.code (.scope c) :: k)) cs w).fenced P F:=fenced_calm W V rfl;obtain ⟨e,O,G,z,u⟩:=h b (.inScope c :: k) cs R W V;cases e with
 | normal=>exact ⟨.normal,O,G,z,.head h0 iV (StepsIn.trans u (.one (fenced_calm W V rfl) EV))⟩
 | exit id =>
  have Y:exitTo id (.inScope c :: k) = exitTo id k:=by simp [exitTo]
  exact ⟨.exit id,O,G,z,λk' X=>.head h0 iV (u.1 k' (by rw [Y]; exact X)),
   λU X=>let ⟨k₁,h1,Z⟩:=u.2 U (by rw [Y]; exact X); ⟨k₁,h1,.head h0 iV Z⟩⟩
 | goto l=>exact absurd z (hQ _ _ _)
 | ret=>exact ⟨_,O,G,z,.of_steps (.one h0 iV) u⟩
 | panic ch=>exact ⟨_,O,G,z,.of_steps (.one h0 iV) u⟩
 | outgrown=>exact ⟨_,O,G,z,.of_steps (.one h0 iV) u⟩
theorem FH {ws:List Nat} {fr fr2:Fr} {lv:List (Nat × S1)} {J:CR (xY lv) (aa4->Prop)} {w:aa4} {b:Fr->aa4->Prop}
  (hJ:Fo (xY lv) J (tG fr2 lv) (λ_=>False) w) (hb:∀ (d:Nat->Value),Ia (xY lv) λvs=>∀ w,Fo (xY lv) J vs (λ_=>False) w->b (lx N (oU N d ws fr) lv vs) w) :
  b (lx N (oU N (ew fr2) ws fr) lv (tG fr2 lv)) w :=
 zS (λ_=>False) (λf=>f w) (λh=>h) hJ _ (hb (ew fr2)) w hJ
theorem WZ {i j:Nat} {p q:Prop} (h:bif Nat.beq i j then p else q):if i = j then p else q:=by
 by_cases u:i = j
 ·subst u; simpa using h
 ·rw [YZ u];have:Nat.beq i j = false:=by cases hb:Nat.beq i j with | false=>rfl | true=>exact absurd (aaB hb) u
  rw [this] at h; exact h
def SA (a:Act):List (Nat × S1)->List Value
 | []=>[]
 | (s,_) :: l=>a.tmps.getD s undef :: SA a l
theorem GV {fr:Fr} {ds:List Deferred} (hf:Fits N fr):∀ lv,SA (a_ N fr ds) lv = tG fr lv
 | []=>rfl
 | (s,c) :: l=>by
  have h1:=u9 N fr ds hf s
  show (a_ N fr ds).tmps.getD s undef :: SA (a_ N fr ds) l = ew fr s :: tG fr l
  rw [h1,GV hf l]
theorem NG (hT:dP P Ty) (hF:tK P Fn) (hE:Gx E) (hm:P.follows .mixedOrders = true) (A:bm):∀ (c:Code) (ro:Option Nat) (_:dL c = true->ro = none/\rf = true/\∀ a b,E a b->Ev a b) (k:Nat) (fr:Fr) (w:aa4) (n r:Fr->aa4->Prop) (x:Nat->Fr->aa4->Prop),
  den P Ty Fn E N A c fr w n r x->Fits N fr->∀ ds,c.wpIn (wf ro) k P (QN rf E N (qj c) fr w ds n r x) (a_ N fr ds) w:=by
 have V:∀ w,E w w:=λw=>hE.ofEv _ _ (Ev.refl w);intro c
 induction c with
 | skip=>exact λro G k fr w n r x h hf ds=>wpIn_skip ⟨fr,[],rfl,hf,oP.refl _ _,V w,Mk.nil _ _,h⟩
 | region id ops draw =>
  intro ro G k fr w n r x h hf ds;exact ND hT hF hE hm h hf λu w' h1 W h3 Y=>⟨u,[],rfl,h1,W,h3,Mk.nil _ _,Y⟩
 | seq a b iha ihb =>
  intro ro G k fr w n r x h hf ds;have a0:=λ(h:dL a = true)=>G (by simp [dL,h]);have a3:=λ(h:dL b = true)=>G (by simp [dL,h]);have sa:∀ t∈qj a,t∈qj (.seq a b):=λt ht=>by rw [Mh]; simp [ht]
  have sb:∀ t∈qj b,t∈qj (.seq a b):=λt ht=>by rw [Mh]; simp [ht]
  refine wpIn_seq ?_
  have key:∀ n',den P Ty Fn E N A a fr w n' r x->(∀ u w',Fits N u->oP (qj a) fr u->E w w'->n' u w'->∃ z,(∀ d,a_ N z d = a_ N u d)/\Fits N z/\oP (qj a) fr z/\den P Ty Fn E N A b z w' n r x) ->
    a.wpIn (wf ro) k P (Exit.then (b.wpIn (wf ro) k P (QN rf E N (qj (.seq a b)) fr w ds n r x)) (QN rf E N (qj (.seq a b)) fr w ds n r x)) (a_ N fr ds) w:=by
   intro n' hd hn;refine wpIn_mono (iha ro a0 k fr w n' r x hd hf ds) λe a' w' R=>?_;cases e with
   | normal =>
    obtain ⟨u,O,rfl,W,h3,Y,h5,Z⟩:=R;obtain ⟨z,g1,X,g3,g4⟩:=hn u w' W h3 Y Z
    show b.wpIn (wf ro) k P _ _ w'
    rw [<- g1];exact wpIn_mono (ihb ro a3 k z w' n r x g4 X (O ++ ds)) λe a w R=>QN.later hE sb (g3.mono sa) Y h5 R
   | ret=>exact QN.mono sa (λ_ _ _ _ h=>h) (λ_ _ h=>h) (λ_ _ _ h=>h) (n:=n') (n':=n') R
   | exit i=>exact QN.mono sa (λ_ _ _ _ h=>h) (λ_ _ h=>h) (λ_ _ _ h=>h) (n:=n') (n':=n') R
   | goto l=>exact R.elim
   | panic ch=>exact R.elim
   | outgrown=>exact R.elim
  simp only [den] at h
  split at h
  ·rename_i lv _;obtain ⟨J,h1,W⟩:=h;refine key _ h1 λu w' g1 X g3 g4=>⟨_,λd=>C_ lv d X,lV lv _ (l7 _ hf),zU lv hf X,FH (b:=λfr w=>den P Ty Fn E N A b fr w n r x) g4 W⟩
  ·exact key _ h λu w' g1 X g3 g4=>⟨u,λ_=>rfl,g1,X,g4⟩
 | cond c a b iha ihb =>
  intro ro G k fr w n r x h hf ds;have a0:=λ(h:dL a = true)=>G (by simp [dL,h]);have a3:=λ(h:dL b = true)=>G (by simp [dL,h]);obtain ⟨t,ht,h⟩:=Pn h;have he:(a_ N fr ds).eval c = .bool t:=by rw [Ku N fr ds hf]; exact ht
  refine wpIn_cond he ?_;cases t with
  | true=>exact wpIn_mono (iha ro a0 k fr w n r x h hf ds) λe a w R=>QN.mono (λt ht=>by rw [Iz]; simp [ht]) (λ_ _ _ _ h=>h) (λ_ _ h=>h) (λ_ _ _ h=>h) R
  | false=>exact wpIn_mono (ihb ro a3 k fr w n r x h hf ds) λe a w R=>QN.mono (λt ht=>by rw [Iz]; simp [ht]) (λ_ _ _ _ h=>h) (λ_ _ h=>h) (λ_ _ _ h=>h) R
 | block id a iha =>
  intro ro G k fr w n r x h hf ds;have a0:=λ(h:dL a = true)=>G (by simpa [dL] using h);refine wpIn_block ?_
  have key:∀ n',den P Ty Fn E N A a fr w n' r (λj fr w=>bif Nat.beq j id then n' fr w else x j fr w)->(∀ u w',Fits N u->oP (qj a) fr u->n' u w'->∃ z,(∀ d,a_ N z d = a_ N u d)/\Fits N z/\oP (qj a) fr z/\n z w') ->
    a.wpIn (wf ro) k P (Exit.inBlock id (QN rf E N (qj (.block id a)) fr w ds n r x)) (a_ N fr ds) w:=by
   intro n' hd hn
   have a8:∀ u O w',Fits N u->oP (qj a) fr u->E w w'->Mk rf w w' O->n' u w'->QN rf E N (qj (.block id a)) fr w ds n r x .normal (a_ N u (O ++ ds)) w':=λu O w' W h3 Y h5 Z=>by
    obtain ⟨z,g1,X,g3,g4⟩:=hn u w' W h3 Z;exact ⟨z,O,(g1 _).symm,X,g3,Y,h5,g4⟩
   refine wpIn_mono (iha ro a0 k fr w n' r _ hd hf ds) λe a' w' R=>?_;cases e with
   | normal=>obtain ⟨u,O,rfl,W,h3,Y,h5,Z⟩:=R; exact a8 u O w' W h3 Y h5 Z
   | exit i =>
    obtain ⟨u,O,rfl,W,h3,Y,h5,Z⟩:=R;have Z:=WZ Z;simp only [Exit.inBlock]
    split
    ·rename_i hi; rw [Y5 hi] at Z; exact a8 u O w' W h3 Y h5 Z
    ·rename_i hi; rw [YZ hi] at Z; exact ⟨u,O,rfl,W,h3,Y,h5,Z⟩
   | ret=>exact R
   | goto l=>exact R.elim
   | panic ch=>exact R.elim
   | outgrown=>exact R.elim
  simp only [den] at h
  split at h
  ·rename_i lv _;obtain ⟨J,h1,W⟩:=h;refine key _ h1 λu w' g1 X g4=>⟨_,λd=>C_ lv d X,lV lv _ (l7 _ hf),zU lv hf X,FH g4 W⟩
  ·exact key _ h λu w' g1 X g4=>⟨u,λ_=>rfl,g1,X,g4⟩
 | loop a iha =>
  intro ro G k fr w n r x h hf ds;have a0:=λ(h:dL a = true)=>G (by simpa [dL] using h);simp only [den] at h
  split at h
  ·rename_i lv _;obtain ⟨I,m,h0,hr⟩:=h
   refine wpIn_loop (λa' w'=>∃ U O,a' = a_ N U (O ++ ds)/\Fits N U/\oP (qj a) fr U/\E w w'/\Mk rf w w' O/\Fo (xY lv) I (tG U lv) (λ_=>False) w')
    (λa' w'=>Fo (xY lv) m (SA a' lv) (λ_=>0) w') ⟨fr,[],rfl,hf,oP.refl _ _,V w,Mk.nil _ _,h0⟩ ?_
   rintro _ w' ⟨U,O,rfl,W,h3,Y,h5,Z⟩;have a7:Fits N (lx N (oU N (ew U) (qj a) fr) lv (tG U lv)):=lV lv _ (l7 _ hf);have a1:=zU (N:=N) lv hf h3
   have hb:=zS (λ_=>False) (λf=>f w') (λh=>h) Z (λvs=>∀ w,Fo (xY lv) I vs (λ_=>False) w->den P Ty Fn E N A a (lx N (oU N (ew U) (qj a) fr) lv vs) w
    (λu w'=>Fo (xY lv) I (tG u lv) (λ_=>False) w'/\Fo (xY lv) m (tG u lv) (λ_=>0) w' < Fo (xY lv) m vs (λ_=>0) w) r x) (hr (ew U)) w' Z
   have hw:=iha ro a0 k _ w' _ r x hb a7 (O ++ ds);rw [C_ lv (O ++ ds) h3] at hw;refine wpIn_mono hw λe a' a6 R=>?_;cases e with
   | normal =>
    obtain ⟨ad,ac,rfl,X,g3,g4,g5,g6,g7⟩:=R;refine ⟨⟨ad,ac ++ O,by rw [Y6],X,a1.trans g3,hE.trans Y g4,Mk.trans hE Y g4 h5 g5,g6⟩,?_⟩;rw [GV X,GV W];exact g7
   | ret =>
    have a5 : QN rf E N (qj a) _ w' (O ++ ds) n r x (.ret) a' a6:=R;exact QN.later hE (λ_ h=>h) a1 Y h5 a5
   | exit i =>
    have a5 : QN rf E N (qj a) _ w' (O ++ ds) n r x (.exit i) a' a6:=R;exact QN.later hE (λ_ h=>h) a1 Y h5 a5
   | goto l=>exact R.elim
   | panic ch=>exact R.elim
   | outgrown=>exact R.elim
  ·exact h.elim
 | exit i=>exact λro G k fr w n r x h hf ds=>wpIn_exit ⟨fr,[],rfl,hf,oP.refl _ _,V w,Mk.nil _ _,h⟩
 | ret=>exact λro G k fr w n r x h hf ds=>wpIn_ret ⟨fr,[],rfl,hf,oP.refl _ _,V w,Mk.nil _ _,h⟩
 | label l=>exact λro G k fr w n r x h hf ds=>wpIn_label ⟨fr,[],rfl,hf,oP.refl _ _,V w,Mk.nil _ _,h⟩
 | rangeFunc f ps a b iha ihb =>
  intro ro G k fr w n r x h hf ds;obtain ⟨rfl,am,a9⟩:=G rfl;simp only [den] at h;obtain ⟨a4,h⟩:=bS.1 h;simp only [Zd,aag] at a4
  split at h
  ·rename_i g first cap lv hv hlv
   obtain ⟨ab,h⟩:=bS.1 h;obtain ⟨aa,h⟩:=bS.1 h;exact NF am hT hF hE a9 A (λro k=>iha ro (λe=>by rw [a4.1] at e; cases e) k) (λro k=>ihb ro (λe=>by rw [a4.2] at e; cases e) k) hv aa ab h hf
  ·exact h.elim
 | scope a iha =>
  intro ro G k fr w n r x h hf ds;exact KL (λl a w R=>R.elim) (iha ro (λh=>G (by simpa [dL] using h)) k fr w n r x h hf ds)
 | goto l=>exact λro G k fr w n r x h hf ds=>h.elim
 | refuse y=>exact λro G k fr w n r x h hf ds=>h.elim
end
section
variable {P:Program} {Ty:TypeId->Option dg} {Fn:FuncId->Bool} {E:aa4->aa4->Prop} {N:Nat}
theorem Po {w w' : aa4} (h:hp w' = hp w) {a:Addr} {i:dg} {v:Value} (hl:ny w a i v):ny w' a i v:=by
 unfold ny at *
 split at hl
 ·rename_i hk; obtain ⟨vs,z,u⟩:=hl; exact ⟨vs,by rw [H8 h]; exact z,u⟩
 ·rename_i hk; show w'.cell? a = _; rw [ig h]; exact hl
def W0 (tmps:Array Value):ResultVar->Sem Value
 | .tmp t=>pure (tmps.getD t undef)
 | .cell a t=>do loadVar t (<- asAddr (tmps.getD a undef))
theorem go_sound (hT:dP P Ty) {fr:Fr} {ds:List Deferred} {w:aa4} (hf:Fits N fr):∀ (l:List ResultVar) (k:List Value->Prop),Nu.go Ty fr w l k ->
  ∃ vs,(∀ w',hp w' = hp w->(l.mapM (W0 (a_ N fr ds).tmps)).run P w' = .ok vs w')/\k vs
 | [],k,h=>⟨[],λw' _=>rfl,h⟩
 | .tmp t :: l,k,h=>by
  obtain ⟨vs,h1,h2⟩:=go_sound hT hf l _ h
  refine ⟨_,λw' hw=>?_,h2⟩
  rw [List.mapM_cons,Sem.run_bind]
  show (Sem.run P (pure ((a_ N fr ds).tmps.getD t undef)) w').andThen _ = _
  simp only [Sem.run_pure,Result.andThen_ok,Sem.run_bind]
  rw [h1 w' hw,u9 N fr ds hf]
  simp
 | .cell a t :: l,k,h=>by
  unfold Nu.go at h
  split at h
  ·rename_i p i ha hi
   obtain ⟨ad,hp',h5⟩:=yg h
   subst hp'
   obtain ⟨v,hl,h6⟩:=Ii h5
   obtain ⟨vs,h1,h2⟩:=go_sound hT hf l _ h6
   refine ⟨_,λw' hw=>?_,h2⟩
   rw [List.mapM_cons,Sem.run_bind]
   show (Sem.run P (do loadVar t (<- asAddr ((a_ N fr ds).tmps.getD a undef))) w').andThen _ = _
   simp only [Sem.run_bind,u9 N fr ds hf,ha,asAddr,Sem.run_pure,Result.andThen_ok]
   rw [Fu hT hi (Po hw hl)]
   simp only [Result.andThen_ok]
   rw [h1 w' hw]
   simp
  ·exact h.elim
theorem NH (hT:dP P Ty) {fn:Func} {fr:Fr} {ds:List Deferred} {w:aa4} (hf:Fits N fr) {R:Value->Prop} (h:Nu P Ty fn.results.toList fr w R) :
  ∃ v,(∀ w',hp w' = hp w->(results fn (a_ N fr ds).tmps).run P w' = .ok v w')/\R v:=by
 obtain ⟨vs,O,u⟩:=go_sound (ds:=ds) hT hf _ _ h
 refine ⟨if h:vs.length = 1 then vs[0] else .tuple ⟨vs⟩,λw' z=>?_,?_⟩
 ·have G:results fn (a_ N fr ds).tmps = (do let vs <- fn.results.mapM (W0 (a_ N fr ds).tmps); pure (if h:vs.size = 1 then vs[0] else .tuple vs)):=by
   unfold results;congr 2
  rw [G,Array.mapM_eq_mapM_toList,map_eq_pure_bind];simp only [Sem.run_bind];rw [O w' z];simp
 ·split at u
  ·simpa using u
  ·rename_i hne
   split
   ·rename_i hl;cases vs with
    | nil=>simp at hl
    | cons v l=>cases l with
     | nil=>exact absurd rfl (hne v)
     | cons _ _=>simp at hl
   ·exact u
theorem Bm {F:Fence} {n:Nat} {fn:Func} {tmps:Array Value} {R:Ending->aa4->Prop} {w0:aa4} (hE:Gx E):∀ (Ds:List Nat) (w:aa4),Ds.Nodup->(∀ D∈Ds,w0.heap.size<=D/\w.heap[D]? = some (Obj.deferred (some [])))->Ev w0 w ->
  (∀ w',hp w' = hp w->Ev w0 w'->∃ v,(results fn tmps).run P w' = .ok v w'/\R (.returned v) w')->LeavesInM F n P fn tmps R (Ds.map ON) .returning w
 | [],w,_,_,he,h=>h w rfl he
 | D :: Ds,w,hn,hD,he,h=>by
  obtain ⟨h1,h2⟩:=hD D σ
  rw [ZR] at hn
  refine ⟨(by intro h; cases h),.inl ⟨D,_,rfl,run_takeDeferred h2,?_⟩⟩
  have hhp:hp (w.putObj D (.deferred none)) = hp w:=Sl h2
  have he' : Ev w0 (w.putObj D (.deferred none)):=by
   refine ⟨he.os,he.tape,he.output,by simpa using he.size,λb d hb=>?_,λb d hb=>?_⟩
   ·rw [World.putObj_heap_other]; exact he.dfr _ _ hb
    have:=(ZG.1 hb).1; omega
   ·rw [World.putObj_heap_other]; exact he.lop _ _ hb
    have:=(ZG.1 hb).1; omega
  refine Bm hE Ds _ hn.2 (λD' h'=>?_) he' λw' g1 g2=>h w' (g1.trans hhp) g2
  refine ⟨(hD D' (by simp [h'])).1,?_⟩
  rw [World.putObj_heap_other]
  ·exact (hD D' (by simp [h'])).2
  ·intro e; subst e; exact hn.1 h'
theorem yn:∀ (l:List Value) (i t:Nat),ew (Ie i l) t = if i<=t then (l[t - i]?).getD undef else undef
 | [],i,t=>by simp [Ie,ew]
 | v :: l,i,t=>by
  simp only [Ie]
  rw [zK,yn l (i + 1) t]
  by_cases h:i = t
  ·subst h; simp
  ·rw [YZ h]
   by_cases h2:i + 1<=t
   ·rw [Y5 h2,Y5 ω]
    have:t - i = (t - (i + 1)) + 1:=ω
    rw [this]; simp
   ·rw [YZ h2,YZ ω]
theorem Pp (hT:dP P Ty) (hF:tK P Fn) (hm:P.follows .mixedOrders = true) {f:FuncId} {fn:Func} (hfn:P.funcs[f]? = some fn) (A:bm) (hE:Gx E)
  (hro:(match fn.body with | some c=>dL c | none=>false) = true->∀ a b,E a b->Ev a b) {args:List Value} {w:aa4} {R:Value->aa4->Prop}
  (h:WK P Ty Fn E A fn args w R):vt P E f args w R:=by
 unfold WK at h;cases hb:fn.body with
 | none=>rw [hb] at h; exact h.elim
 | some c =>
  rw [hb] at h hro;dsimp only at h hro;obtain ⟨V,h⟩:=fE h;have V:=OU _ _ V;refine callsIn_wide.1 (callsIn_of_wp_marks (F:=Fence.wide) (n:=0) hfn hb trivial ?_)
  have ha:({ tmps:=(⟨args⟩ : Array Value) ++ Array.replicate (fn.ntmps - (⟨args⟩ : Array Value).size) undef,defers:=[] }:Act) = a_ fn.ntmps (Ie 0 args) []:=by
   simp only [a_,Act.mk.injEq,and_true];apply aan;apply ZK;intro i;simp only [Array.toList_append,Array.toList_replicate,YW]
   by_cases hi:i < args.length
   ·rw [Y8 hi,Z8 ω];simp [yn,hi]
   ·rw [Y_ ω]
    by_cases a1:i < fn.ntmps
    ·rw [Z8 a1];have:args[i]? = none:=Zf ω;have Y:i - args.length < fn.ntmps - args.length:=ω
     simp [yn,this,Y]
    ·have:(List.range fn.ntmps)[i]? = none:=Zf (by simp; omega);rw [this]; simp; omega
  rw [ha]
  have W:Fits fn.ntmps (Ie 0 args):=λt ht=>by
   rw [yn,Y5 (Y4 _),Zf ω]; rfl
  have fin:∀ z w',(∃ u G,z = a_ fn.ntmps u (G ++ [])/\Fits fn.ntmps u/\oP (qj c) (Ie 0 args) u/\E w w'/\Mk (dL c) w w' G/\Nu P Ty fn.results.toList u w' λv=>O9 c R v w') ->
    LeavesInM Fence.wide 0 P fn z.tmps (λe w'=>∃ v,e = .returned v/\E w w'/\R v w') z.defers .returning w':=by
   rintro z w' ⟨u,G,rfl,h1,h2,Y,⟨h0,O,rfl,h4,h5⟩,h6⟩;obtain ⟨v,g1,X⟩:=NH (ds:=(O.map ON) ++ []) hT h1 h6
   show LeavesInM Fence.wide 0 P fn (a_ fn.ntmps u (O.map ON ++ [])).tmps _ (O.map ON ++ []) .returning w'
   cases hrf:dL c with
   | true =>
    have a0:=hro hrf;simp only [O9,hrf,cond_true] at X;generalize (a_ fn.ntmps u (O.map ON ++ [])).tmps = tm at g1;rw [Zm];exact Bm hE O w' h4 h5 (a0 _ _ Y) λw2 k1 k2=>⟨v,g1 w2 k1,v,rfl,hE.ofEv _ _ k2,X w2 k1⟩
   | false =>
    simp only [O9,hrf,cond_false] at X;have hd:=h0 hrf;generalize (a_ fn.ntmps u (O.map ON ++ [])).tmps = tm at g1;rw [hd];exact ⟨v,g1 w' rfl,v,rfl,Y,X⟩
  refine wpIn_mono (NG hT hF hE hm A c none (λZ=>⟨rfl,Z,hro Z⟩) 0 _ w _ _ _ h W []) λe z w' U=>?_;cases e with
  | normal=>exact fin z w' U
  | ret=>exact fin z w' U
  | exit i=>obtain ⟨_,_,_,_,_,_,_,Z⟩:=U; exact Z.elim
  | goto l=>exact U.elim
  | panic ch=>exact U.elim
  | outgrown=>exact U.elim
def Vb (fn:Func):Bool:=match fn.body with | some c=>dL c | none=>false
theorem Vc (hT:dP P Ty) (hF:tK P Fn) (hm:P.follows .mixedOrders = true) {f:FuncId} {fn:Func} (hfn:P.funcs[f]? = some fn) (A:bm) {args:List Value} {w:aa4} {R:Value->aa4->Prop}
  (h:WK P Ty Fn Ev A fn args w R):aA P f args w R:=Pp hT hF hm hfn A XK (λ_ _ _ h=>h) h
theorem SB (hT:dP P Ty) (hF:tK P Fn) (hm:P.follows .mixedOrders = true) {f:FuncId} {fn:Func} (hfn:P.funcs[f]? = some fn) (A:bm) (hE:Gx E) (hb:Vb fn = false) {args:List Value} {w:aa4} {R:Value->aa4->Prop}
  (h:WK P Ty Fn E A fn args w R):vt P E f args w R:=Pp hT hF hm hfn A hE (λh=>absurd (hb.symm.trans h) σ) h
end
abbrev WP:=aa4->Prop
abbrev lP (l:List (Nat × S1)):=CR (xY l) (aa4->Prop)
abbrev lN (l:List (Nat × S1)):=CR (xY l) (aa4->Nat)
abbrev aB:S1:=S1.one (Cs.int IntKind.i64)
abbrev fD:S1:=S1.one Cs.slice
abbrev jD:S1:=S1.one Cs.bool
abbrev iI (n:Int):Value:=.int .i64 n
abbrev vS (a:aa3) (l c:Nat):Value:=.slice a l c
abbrev vP (a:aa3):Value:=.pointer a
abbrev vB (b:Bool):Value:=.bool b
abbrev vA (a:Array Value):Value:=.agg a
abbrev vG (l:List Value):Value:=.agg (Array.mk l)
abbrev vT (a:Array Value):Value:=.tuple a
abbrev aM (k:Nat):Addr:=⟨k,0,none⟩
abbrev oC (l:List Value) (t:TypeId):Obj:=.cells (Array.mk l) t
abbrev fe (t:TypeId) (xs:Array Value):Sem Value:=Builtin.append_ (Array.mk [t,t]) t xs
def aH (b:Nat) (vs:List Value):az:=λh=>∃ e,h b = some (.cells ⟨vs⟩ e (0,0))
section
variable {P:Program} {w w' : aa4} {L:List az} {b:Nat} {vs:List Value} {e:TypeId} {A B C D:az}
theorem iw:St w (aH b vs :: L)↔∃ e,St w (blk b (.cells ⟨vs⟩ e (0,0)) :: L) :=
 ⟨λ⟨U,O,d,z,u,⟨e,G⟩,R⟩=>⟨e,U,O,d,z,u,G,R⟩,λ⟨e,U,O,d,z,u,G,R⟩=>⟨U,O,d,z,u,⟨e,G⟩,R⟩⟩
theorem St.cell (h:St w (aH b vs :: L)) (i:Nat):w.cell? ⟨b,i,none⟩ = vs[i]?:=by
 obtain ⟨e,h⟩:=iw.1 h;have:=h.get;simp [World.cell?,this]
theorem St.frozen (h:St w (aH b vs :: L)) (i:Nat) (s:Option _):w.frozen? ⟨b,i,s⟩ = false:=by
 obtain ⟨e,h⟩:=iw.1 h;have:=h.get;simp [World.frozen?,this]
theorem St.Vd (h:St w (aH b vs :: L)) (i:Nat) (v:Value):St (w.setCell ⟨b,i,none⟩ v) (aH b (vs.set i v) :: L):=by
 obtain ⟨e,h⟩:=iw.1 h;have:=St.setCell h i v;have u:(⟨vs⟩ : Array Value).setIfInBounds i v = ⟨vs.set i v⟩:=σ
 rw [u] at this;exact iw.2 ⟨e,this⟩
theorem nD {o:Obj} {k:Nat->aa4->Prop} (h:St w L) (hk:∀ b w',St w' (blk b o :: L)->k b w') (ho:H5 o = true:=by rfl):new w o k :=
 λb w' z u=>by subst z; subst u; exact hk _ _ (h.push o ho)
theorem ag {k:Nat->aa4->Prop} (h:St w L) (hk:∀ b w',St w' (aH b vs :: L)->k b w'):new w (.cells (Array.mk vs) e) k:=nD h λb w' h=>hk b w' (iw.2 ⟨_,h⟩)
theorem bj {i:Nat} {v:Value} {k:aa4->Prop} (h:St w (aH b vs :: L)) (hi:i < vs.length) (hk:∀ w',St w' (aH b (vs.set i v) :: L)->k w') (hv:aG v = true:=by rfl):st1 w ⟨b,i,none⟩ v k :=
 ⟨⟨vs[i],by rw [h.cell]; simp [hi]⟩,h.frozen i none,hv,λw' u=>by subst u; exact hk _ (h.Vd i v)⟩
theorem St.setCells:∀ (news pre post:List Value) {w:aa4},news.length<=post.length->St w (aH b (pre ++ post) :: L)->St (w.setCells b pre.length news) (aH b (pre ++ news ++ post.drop news.length) :: L)
 | [],pre,post,w,_,h=>by simpa [World.setCells] using h
 | v :: r,pre,[],w,hl,h=>by simp at hl
 | v :: r,pre,p :: post,w,hl,h=>by
  have h1:=h.Vd pre.length v
  have e1:(pre ++ p :: post).set pre.length v = (pre ++ [v]) ++ post:=σ
  rw [e1] at h1
  have h2:=St.setCells r (pre ++ [v]) post (by simpa using hl) h1
  have e2:(pre ++ [v]).length = pre.length + 1:=σ
  rw [e2] at h2
  simpa [World.setCells] using h2
theorem add_lit (b o j:Nat):(⟨b,o,none⟩ : Addr).add j = ⟨b,o + j,none⟩:=by cases j <;> simp [Addr.add]
theorem aK (b j:Nat):(⟨b,0,none⟩ : Addr).add j = ⟨b,j,none⟩:=by rw [add_lit]; simp
theorem add_add (a:Addr) (i j:Nat):(a.add i).add j = a.add (i + j):=by
 unfold Addr.add
 by_cases hi:i = 0
 ·subst hi; simp
 ·by_cases u:j = 0
  ·subst u; simp [hi]
  ·simp [hi,u,Nat.add_assoc]
def own (sz:Nat) (a:aa3) (l c:Nat) (vs:List Value):az:=λh =>
 (a = none/\l = 0/\c = 0/\vs = [])\/∃ b pre cs post,a = some ⟨b,List.length pre,none⟩/\aH b (pre ++ (vs ++ (cs ++ post))) h/\vs.length = l * sz/\(vs ++ cs).length = c * sz/\l<=c
theorem ay (sz:Nat) (h:St w L):St w (own sz none 0 0 [] :: L) :=
 ⟨λ_=>none,hp w,λ_=>.inl rfl,λ_ _ h=>(nomatch h),sub.refl _,.inl ⟨rfl,rfl,rfl,rfl⟩,h⟩
theorem cX {sz l c:Nat} {a:aa3} (h:St w (own sz a l c vs :: L)) :
  (a = none/\l = 0/\c = 0/\vs = [])\/∃ b pre cs post,a = some ⟨b,List.length pre,none⟩/\St w (aH b (pre ++ (vs ++ (cs ++ post))) :: L)/\vs.length = l * sz/\(vs ++ cs).length = c * sz/\l<=c:=by
 obtain ⟨Y,V,d,R,O,u,W⟩:=h
 rcases u with u | ⟨b,pre,cs,post,X,z,Z,G,U⟩
 ·exact .inl u
 ·exact .inr ⟨b,pre,cs,post,X,⟨Y,V,d,R,O,z,W⟩,Z,G,U⟩
theorem dS {sz l c:Nat} {pre cs post:List Value} (h:St w (aH b (pre ++ (vs ++ (cs ++ post))) :: L)) (h1:vs.length = l * sz) (h2:(vs ++ cs).length = c * sz) (h3:l<=c):St w (own sz (some ⟨b,pre.length,none⟩) l c vs :: L) :=
 h.head λh u=>.inr ⟨b,pre,cs,post,rfl,u,h1,h2,h3⟩
theorem dz {sz l c:Nat} {cs:List Value} (h:St w (aH b (vs ++ cs) :: L)) (h1:vs.length = l * sz) (h2:(vs ++ cs).length = c * sz) (h3:l<=c):St w (own sz (some ⟨b,0,none⟩) l c vs :: L) :=
 dS (pre:=[]) (post:=[]) (by simpa using h) h1 h2 h3
theorem jg {sz l c:Nat} {a:aa3} (h:St w (own sz a l c vs :: L)):vs.length = l * sz:=by
 rcases cX h with ⟨_,rfl,_,rfl⟩ | ⟨_,_,_,_,_,_,h,_⟩
 ·simp
 ·exact h
theorem dI {sz l c:Nat} {a:aa3} (h:St w (own sz a l c vs :: L)):l<=c:=by
 rcases cX h with ⟨_,rfl,_,rfl⟩ | ⟨_,_,_,_,_,_,_,_,h⟩
 ·omega
 ·exact h
theorem cr {sz l c:Nat} {a:aa3} (h:St w (own sz a l c vs :: L)) {j:Nat} {v:Value} (hj:vs[j]? = some v):∃ ad,a = some ad/\w.cell? (ad.add j) = some v:=by
 rcases cX h with ⟨_,_,_,rfl⟩ | ⟨b,pre,cs,u,rfl,h,_⟩
 ·simp at hj
 ·refine ⟨_,rfl,?_⟩;rw [add_lit,h.cell,Y_ ω,ZS,Y8 (YT.1 hj).1]; exact hj
theorem SC {t tx ty:TypeId} {i:TypeInfo} {z:Value} (ht:P.underlying t = some (.slice e)) (hi:P.info? e = some i) (hz:i.zero = some z) (hzs:z.cells.size = i.size)
  {a:aa3} {l c:Nat} (h:St w (own i.size a l c vs :: L)) {x:Value} {n:Nat} {news:List Value} (hs:Src P i.size tx x n news w) (hb:(l + n) * i.bytes<=140737488355328) (h63:l + n<=9223372036854775807) :
  bf P (Builtin.append_ (Array.mk [t,tx]) ty (Array.mk [.slice a l c,x])) w λv w'=>∃ a' c',v = .slice a' (l + n) c'/\St w' (own i.size a' (l + n) c' (vs ++ news) :: L):=by
 have O:=hs.newsLen
 have U:c < l + n->(Builtin.firstCells i.size l (.slice a l c)).run P w.drew = .ok vs.toArray w.drew->(vs.length = l * i.size)->St w L ->
   bf P (Builtin.append_ (Array.mk [t,tx]) ty (Array.mk [.slice a l c,x])) w λv w'=>∃ a' c',v = .slice a' (l + n) c'/\St w' (own i.size a' (l + n) c' (vs ++ news) :: L):=by
  intro hg X Y hL;have hr:=run_append_grow_src (P:=P) w t tx ty e i z ht hi hz a l c vs X x n news hs hg ω (growslice_fits hg hb);refine ⟨_,_,hr,(Ev.drew w _).trans (Ev.push _ _),_,_,rfl,?_⟩;have a3:=grownCap_ge w (l + n) c e;have R:St w.drew L:=hL.same rfl;have V:=R.push (.cells ((vs ++ news).toArray ++ Builtin.zeroCells z.cells (grownCap w (l + n) c e - (l + n))) e)
  have h3:St (w.drew.alloc (.cells ((vs ++ news).toArray ++ Builtin.zeroCells z.cells (grownCap w (l + n) c e - (l + n))) e)) (aH w.heap.size ((vs ++ news) ++ (Builtin.zeroCells z.cells (grownCap w (l + n) c e - (l + n))).toList) :: L):=by
   have:((vs ++ news).toArray ++ Builtin.zeroCells z.cells (grownCap w (l + n) c e - (l + n))) = ⟨(vs ++ news) ++ (Builtin.zeroCells z.cells (grownCap w (l + n) c e - (l + n))).toList⟩:=by apply aan; simp
   rw [this] at V ⊢; exact iw.2 ⟨_,V⟩
  refine dz h3 ?_ ?_ a3
  ·rw [Y0,Y,O,Nat.add_mul]
  ·rw [Y0,Y0,Y,O,<- Nat.add_mul,aa2,size_zeroCells,hzs,<- Nat.add_mul];congr 1; omega
 rcases cX h with ⟨rfl,rfl,rfl,rfl⟩ | ⟨b,pre,cs,u,rfl,W,R,V,h3⟩
 ·rcases Nat.eq_zero_or_pos n with rfl | hn
  ·have:news = []:=Y9 (by simpa using O);subst this;refine ⟨.slice none 0 0,w,?_,Ev.refl w,none,0,rfl,h⟩;rcases hs.kind with ⟨e',hk⟩ | hk <;> simp [Builtin.append_,run_underlying ht,run_underlying hk,sizeOf,typeInfo,hi,hs.len,hs.cells]
  ·exact U ω (run_firstCells_none w.drew _ _ _ _) σ h.tail
 ·by_cases G:l + n<=c
  ·have a1:news.length<=cs.length:=by
    have h4:(l + n) * i.size<=c * i.size:=aah _ G;rw [Y0,R] at V;rw [Nat.add_mul] at h4;omega
   have hr:=run_append_room_src (P:=P) w t tx ty e i ht hi b pre.length l c x n news hs G
    (λj Z=>by
     rw [W.cell,<- R];have a0:pre.length + vs.length + j < (pre ++ (vs ++ (cs ++ u))).length:=by simp; omega
     simp only [YU a0,Option.isSome_some])
    (λj Z=>W.frozen _ _)
   have e0:pre ++ (vs ++ (cs ++ u)) = (pre ++ vs) ++ (cs ++ u):=σ
   rw [e0] at W;have h5:=W.setCells news (pre ++ vs) (cs ++ u) (by simp; omega);rw [Y0,R] at h5
   refine ⟨_,_,hr,?_,_,_,rfl,?_⟩
   ·have:∀ (news:List Value) (w0 w:aa4) (o:Nat),Ev w0 w->Ev w0 (w.setCells b o news):=by
     intro news
     induction news with
     | nil=>exact λ_ _ _ h=>h
     | cons v r ih=>exact λw0 w o h=>ih w0 _ (o + 1) (h.trans (Ev.setCell w _ v))
    exact this news w w _ (Ev.refl w)
   ·have e1:(pre ++ vs) ++ news ++ (cs ++ u).drop news.length = pre ++ ((vs ++ news) ++ (cs.drop news.length ++ u)):=by
     rw [List.drop_append_of_le_length a1]; simp
    rw [e1] at h5
    refine dS h5 ?_ ?_ G
    ·rw [Y0,R,O,Nat.add_mul]
    ·rw [Y0] at V ⊢;rw [Y0,Z9,<- V]; omega
  ·refine U ω (run_firstCells_some w.drew _ _ _ _ _ _ R λj v Z=>?_) R h.tail;rw [add_lit];have:=W.cell (pre.length + j);rw [Y_ ω,ZS,Y8 (YT.1 Z).1,Z] at this;exact this
theorem jh {Ty:TypeId->Option dg} (hT:dP P Ty) {t tx ty:TypeId} {i:dg} {z:Value} (hk:aj Ty t = .slice e) (hi:Ty e = some i) (hz:i.zero = some z) (hzs:(cellsOf z).length = i.size)
  {a:aa3} {l c:Nat} (h:St w (own i.size a l c vs :: L)) {x:Value} {n:Nat} {news:List Value} (hs:Src P i.size tx x n news w) (hb:(l + n) * i.bytes<=140737488355328) (h63:l + n<=9223372036854775807) :
  bf P (Builtin.append_ (Array.mk [t,tx]) ty (Array.mk [.slice a l c,x])) w λv w'=>∃ a' c',v = .slice a' (l + n) c'/\St w' (own i.size a' (l + n) c' (vs ++ news) :: L):=by
 obtain ⟨d,U,O⟩:=db hT hk σ;rw [dQ O] at U;obtain ⟨G,V,u⟩:=oV hT hi;have R:z.cells.size = G.size:=by rw [<- u.size,<- hzs,dp]; simp
 rw [u.size] at *;rw [u.bytes] at hb;exact SC U u.inf (by rw [<- u.zero,hz]) R h hs hb h63
theorem fY {Ty:TypeId->Option dg} (hT:dP P Ty) {tx e' : TypeId} (hk:aj Ty tx = .slice e') {size:Nat} {a:aa3} {n c:Nat} {news:List Value} (hl:news.length = n * size)
  (hn:n = 0\/∃ ad,a = some ad/\∀ j u,news[j]? = some u->w.cell? (ad.add j) = some u) (h1:∀ u∈news,aG u = true):Src P size tx (.slice a n c) n news w:=by
 obtain ⟨d,G,z⟩:=db hT hk σ;rw [dQ z] at G;cases a with
 | none =>
  rcases hn with rfl | ⟨ad,h,_⟩
  ·have:news = []:=Y9 (by simpa using hl);subst this;exact Src.ofNil w G c
  ·cases h
 | some ad =>
  refine Src.ofSlice w G ad n c news hl ?_ λu U=>by rw [<- GM]; exact h1 u U
  rcases hn with rfl | ⟨R,h,V⟩
  ·have:news = []:=Y9 (by simpa using hl);subst this; intro j u O; simp at O
  ·cases h; exact V
end
theorem wrap_u64 (n:Nat) (h:n < 2 ^ 64):IntKind.u64.wrap (n:Int) = n:=by
 have:(n:Int) % (18446744073709551616:Int) = n:=Int.emod_eq_of_lt ω ω;simp [IntKind.wrap,IntKind.signed,IntKind.bits,this]
theorem yp (n:Nat):BitVec.ofInt 64 (n:Int) = BitVec.ofNat 64 n:=by
 apply BitVec.eq_of_toNat_eq; simp
theorem Db {a b:Nat} (ha:a < 2 ^ 64) (hb:b < 2 ^ 64):l5 .and .u64 (a:Int) (b:Int) = ((a &&& b:Nat):Int):=by
 show IntKind.u64.wrap (((BitVec.ofInt 64 (a:Int)) &&& (BitVec.ofInt 64 (b:Int))).toNat:Int) = _
 rw [yp,yp,BitVec.toNat_and,BitVec.toNat_ofNat,BitVec.toNat_ofNat,Nat.mod_eq_of_lt ha,Nat.mod_eq_of_lt hb];exact wrap_u64 _ (Nat.and_lt_two_pow _ hb)
theorem SD {a b:Nat} (ha:a < 2 ^ 64) (hb:b < 2 ^ 64):l5 .or .u64 (a:Int) (b:Int) = ((a ||| b:Nat):Int):=by
 show IntKind.u64.wrap (((BitVec.ofInt 64 (a:Int)) ||| (BitVec.ofInt 64 (b:Int))).toNat:Int) = _
 rw [yp,yp,BitVec.toNat_or,BitVec.toNat_ofNat,BitVec.toNat_ofNat,Nat.mod_eq_of_lt ha,Nat.mod_eq_of_lt hb];exact wrap_u64 _ (Nat.or_lt_two_pow ha hb)
theorem Pq {s:Nat} (h:s < 64):O0 .u64 1 (s:Int) = ((2 ^ s:Nat):Int):=by
 simp only [O0,IntKind.bits,Za,Int.one_mul];rw [aak ω];have u:((2:Int) ^ s) = ((2 ^ s:Nat):Int):=σ
 rw [u,wrap_u64 _ (Nat.pow_lt_pow_right ω h)]
theorem Dc {n s:Nat} (h:s < 64):bQ .u64 (n:Int) (s:Int) = ((n / 2 ^ s:Nat):Int):=by
 simp only [bQ,IntKind.bits,Za];rw [aak ω];have u:((2:Int) ^ s) = ((2 ^ s:Nat):Int):=σ
 rw [u,Int.fdiv_eq_ediv_of_nonneg _ (Zx _)];simp
theorem Dd (k:Nat):Int.tdiv (k:Int) 64 = ((k / 64:Nat):Int):=by
 rw [Int.tdiv_eq_ediv_of_nonneg ω]; simp
theorem Pr (k:Nat):Int.tmod (k:Int) 64 = ((k % 64:Nat):Int):=by
 rw [Int.tmod_eq_emod_of_nonneg ω]; simp
theorem Ps {n s:Nat} (hn:n < 2 ^ 64) (h:s < 64):(l5 .and .u64 (bQ .u64 (n:Int) (s:Int)) 1 == 1) = n.testBit s:=by
 rw [Dc h];have:(1:Int) = ((1:Nat):Int):=rfl;rw [this,Db (Nat.lt_of_le_of_lt (Nat.div_le_self _ _) hn) ω];rw [Nat.testBit_eq_decide_div_mod_eq,Nat.and_one_is_mod]
 by_cases u:n / 2 ^ s % 2 = 1
 ·simp [u]
 ·have h0:n / 2 ^ s % 2 = 0:=ω
  simp [h0]
def tYq0:dg:=⟨.func,1,8,(some .nilFunc),[],[],false⟩
@[simp] def tYq1:dg:=⟨.tuple,1,0,(some (.tuple #[(.slice none 0 0),(.int .i64 0)])),[],[(.one .slice),(.one (.int .i64))],false⟩
@[simp] def tYq2:dg:=⟨.tuple,1,0,(some (.tuple #[(.int .i64 0),(.int .i64 0)])),[],[(.one (.int .i64)),(.one (.int .i64))],false⟩
@[simp] def tYq3:dg:=⟨.tuple,1,0,(some (.tuple #[(.slice none 0 0),(.bool false)])),[],[(.one .slice),(.one .bool)],false⟩
def Ve:List (TypeId × dg):=[
 (0,⟨.tuple,1,0,(some (.tuple #[])),[],[],false⟩),
 (1,tYq0),
 (2,⟨(.int .i64),1,8,(some (.int .i64 0)),[],[],true⟩),
 (3,⟨(.int .i64),1,8,(some (.int .i64 0)),[],[],true⟩),
 (4,⟨.bool,1,1,(some (.bool false)),[],[],true⟩),
 (5,⟨(.int .u8),1,1,(some (.int .u8 0)),[],[],true⟩),
 (6,⟨(.int .u8),1,1,(some (.int .u8 0)),[],[],true⟩),
 (7,⟨.struct,4,24,(some (.agg #[(.int .i64 0),(.int .i64 0),(.bool false),(.int .u8 0)])),[(0,1,false),(1,1,false),(2,1,false),(3,1,false)],[],true⟩),
 (8,⟨.struct,4,24,(some (.agg #[(.int .i64 0),(.int .i64 0),(.bool false),(.int .u8 0)])),[(0,1,false),(1,1,false),(2,1,false),(3,1,false)],[],true⟩),
 (9,⟨.string,1,16,(some (.string ⟨#[]⟩)),[],[],true⟩),
 (10,⟨.string,1,16,(some (.string ⟨#[]⟩)),[],[],true⟩),
 (11,⟨.string,1,16,(some (.string ⟨#[]⟩)),[],[],true⟩),
 (12,⟨(.int .u64),1,8,(some (.int .u64 0)),[],[],true⟩),
 (13,⟨.struct,2,24,(some (.agg #[(.string ⟨#[]⟩),(.int .u64 0)])),[(0,1,false),(1,1,false)],[],true⟩),
 (14,⟨.struct,2,24,(some (.agg #[(.string ⟨#[]⟩),(.int .u64 0)])),[(0,1,false),(1,1,false)],[],true⟩),
 (15,⟨(.ptr 338),1,8,(some (.pointer none)),[],[],true⟩),
 (16,⟨(.ptr 341),1,8,(some (.pointer none)),[],[],true⟩),
 (17,⟨(.ptr 348),1,8,(some (.pointer none)),[],[],true⟩),
 (18,⟨.struct,1,8,(some (.agg #[(.pointer none)])),[(0,1,false)],[],true⟩),
 (19,⟨.struct,1,8,(some (.agg #[(.pointer none)])),[(0,1,false)],[],true⟩),
 (20,⟨.iface,1,16,(some .nilIface),[],[],true⟩),
 (21,⟨(.int .i32),1,4,(some (.int .i32 0)),[],[],true⟩),
 (22,⟨(.slice 83),1,24,(some (.slice none 0 0)),[],[],false⟩),
 (23,⟨(.slice 9),1,24,(some (.slice none 0 0)),[],[],false⟩),
 (24,⟨(.slice 3),1,24,(some (.slice none 0 0)),[],[],false⟩),
 (25,⟨(.slice 81),1,24,(some (.slice none 0 0)),[],[],false⟩),
 (26,⟨.struct,5,104,(some (.agg #[(.slice none 0 0),(.slice none 0 0),(.slice none 0 0),(.int .i64 0),(.slice none 0 0)])),[(0,1,false),(1,1,false),(2,1,false),(3,1,false),(4,1,false)],[],false⟩),
 (27,⟨.struct,5,104,(some (.agg #[(.slice none 0 0),(.slice none 0 0),(.slice none 0 0),(.int .i64 0),(.slice none 0 0)])),[(0,1,false),(1,1,false),(2,1,false),(3,1,false),(4,1,false)],[],false⟩),
 (28,tYq0),
 (29,⟨(.slice 60),1,24,(some (.slice none 0 0)),[],[],false⟩),
 (30,⟨(.int .i64),1,8,(some (.int .i64 0)),[],[],true⟩),
 (31,tYq1),
 (32,tYq0),
 (33,tYq0),
 (34,tYq0),
 (35,tYq0),
 (36,tYq0),
 (37,tYq0),
 (38,⟨(.slice 62),1,24,(some (.slice none 0 0)),[],[],false⟩),
 (39,tYq1),
 (40,tYq0),
 (41,tYq0),
 (42,tYq0),
 (43,⟨(.slice 54),1,24,(some (.slice none 0 0)),[],[],false⟩),
 (44,⟨.struct,3,40,(some (.agg #[(.slice none 0 0),(.int .i64 0),(.int .i64 0)])),[(0,1,false),(1,1,false),(2,1,false)],[],false⟩),
 (45,⟨.struct,3,40,(some (.agg #[(.slice none 0 0),(.int .i64 0),(.int .i64 0)])),[(0,1,false),(1,1,false),(2,1,false)],[],false⟩),
 (46,⟨.tuple,1,0,(some (.tuple #[(.agg #[(.slice none 0 0),(.int .i64 0),(.int .i64 0)]),(.int .i64 0)])),[],[(.agg [.slice,(.int .i64),(.int .i64)]),(.one (.int .i64))],false⟩),
 (47,tYq0),
 (48,⟨(.slice 58),1,24,(some (.slice none 0 0)),[],[],false⟩),
 (49,tYq1),
 (50,tYq0),
 (51,⟨(.slice 104),1,24,(some (.slice none 0 0)),[],[],false⟩),
 (52,⟨(.slice 56),1,24,(some (.slice none 0 0)),[],[],false⟩),
 (53,⟨.struct,2,48,(some (.agg #[(.slice none 0 0),(.slice none 0 0)])),[(0,1,false),(1,1,false)],[],false⟩),
 (54,⟨.struct,2,48,(some (.agg #[(.slice none 0 0),(.slice none 0 0)])),[(0,1,false),(1,1,false)],[],false⟩),
 (55,⟨.struct,2,16,(some (.agg #[(.int .i64 0),(.int .i64 0)])),[(0,1,false),(1,1,false)],[],true⟩),
 (56,⟨.struct,2,16,(some (.agg #[(.int .i64 0),(.int .i64 0)])),[(0,1,false),(1,1,false)],[],true⟩),
 (57,⟨.struct,3,40,(some (.agg #[(.int .i64 0),(.int .i64 0),(.slice none 0 0)])),[(0,1,false),(1,1,false),(2,1,false)],[],false⟩),
 (58,⟨.struct,3,40,(some (.agg #[(.int .i64 0),(.int .i64 0),(.slice none 0 0)])),[(0,1,false),(1,1,false),(2,1,false)],[],false⟩),
 (59,⟨.struct,3,40,(some (.agg #[(.int .i64 0),(.int .i64 0),(.slice none 0 0)])),[(0,1,false),(1,1,false),(2,1,false)],[],false⟩),
 (60,⟨.struct,3,40,(some (.agg #[(.int .i64 0),(.int .i64 0),(.slice none 0 0)])),[(0,1,false),(1,1,false),(2,1,false)],[],false⟩),
 (61,⟨.struct,2,16,(some (.agg #[(.int .i64 0),(.int .i64 0)])),[(0,1,false),(1,1,false)],[],true⟩),
 (62,⟨.struct,2,16,(some (.agg #[(.int .i64 0),(.int .i64 0)])),[(0,1,false),(1,1,false)],[],true⟩),
 (63,tYq0),
 (64,tYq0),
 (65,tYq2),
 (66,tYq0),
 (67,⟨.tuple,1,0,(some (.tuple #[(.agg #[(.int .i64 0),(.int .i64 0)]),(.slice none 0 0),(.int .i64 0)])),[],[(.agg [(.int .i64),(.int .i64)]),(.one .slice),(.one (.int .i64))],false⟩),
 (68,tYq0),
 (69,tYq0),
 (70,⟨(.slice 38),1,24,(some (.slice none 0 0)),[],[],false⟩),
 (71,⟨(.slice 24),1,24,(some (.slice none 0 0)),[],[],false⟩),
 (72,⟨.struct,2,48,(some (.agg #[(.slice none 0 0),(.slice none 0 0)])),[(0,1,false),(1,1,false)],[],false⟩),
 (73,⟨.struct,2,48,(some (.agg #[(.slice none 0 0),(.slice none 0 0)])),[(0,1,false),(1,1,false)],[],false⟩),
 (74,⟨.struct,3,72,(some (.agg #[(.slice none 0 0),(.slice none 0 0),(.slice none 0 0)])),[(0,2,true),(2,1,false)],[],false⟩),
 (75,⟨.struct,3,72,(some (.agg #[(.slice none 0 0),(.slice none 0 0),(.slice none 0 0)])),[(0,2,true),(2,1,false)],[],false⟩),
 (76,⟨.tuple,1,0,(some (.tuple #[(.agg #[(.slice none 0 0),(.slice none 0 0),(.slice none 0 0)]),(.int .i64 0)])),[],[(.agg [.slice,.slice,.slice]),(.one (.int .i64))],false⟩),
 (77,tYq0),
 (78,tYq0),
 (79,tYq0),
 (80,⟨.struct,3,40,(some (.agg #[(.int .i64 0),(.slice none 0 0),(.int .i64 0)])),[(0,1,false),(1,1,false),(2,1,false)],[],false⟩),
 (81,⟨.struct,3,40,(some (.agg #[(.int .i64 0),(.slice none 0 0),(.int .i64 0)])),[(0,1,false),(1,1,false),(2,1,false)],[],false⟩),
 (82,⟨.struct,2,24,(some (.agg #[(.string ⟨#[]⟩),(.int .i64 0)])),[(0,1,false),(1,1,false)],[],true⟩),
 (83,⟨.struct,2,24,(some (.agg #[(.string ⟨#[]⟩),(.int .i64 0)])),[(0,1,false),(1,1,false)],[],true⟩),
 (84,tYq0),
 (85,tYq0),
 (86,⟨(.ptr 147),1,8,(some (.pointer none)),[],[],true⟩),
 (87,tYq0),
 (88,tYq0),
 (89,tYq0),
 (90,⟨(.map 95 38),1,8,(some (.map none)),[],[],false⟩),
 (91,⟨(.map 95 38),1,8,(some (.map none)),[],[],false⟩),
 (92,⟨.tuple,1,0,(some (.tuple #[(.map none),(.int .i64 0),(.int .i64 0)])),[],[(.one .map),(.one (.int .i64)),(.one (.int .i64))],false⟩),
 (93,tYq0),
 (94,⟨.struct,2,16,(some (.agg #[(.int .i64 0),(.int .i64 0)])),[(0,1,false),(1,1,false)],[],true⟩),
 (95,⟨.struct,2,16,(some (.agg #[(.int .i64 0),(.int .i64 0)])),[(0,1,false),(1,1,false)],[],true⟩),
 (96,⟨(.ptr 162),1,8,(some (.pointer none)),[],[],true⟩),
 (97,tYq0),
 (98,⟨(.ptr 101),1,8,(some (.pointer none)),[],[],true⟩),
 (99,⟨(.map 9 3),1,8,(some (.map none)),[],[],false⟩),
 (100,⟨.struct,4,48,(some (.agg #[(.slice none 0 0),(.int .i64 0),(.int .i64 0),(.map none)])),[(0,3,true),(3,1,false)],[],false⟩),
 (101,⟨.struct,4,48,(some (.agg #[(.slice none 0 0),(.int .i64 0),(.int .i64 0),(.map none)])),[(0,3,true),(3,1,false)],[],false⟩),
 (102,tYq0),
 (103,⟨.struct,2,16,(some (.agg #[(.int .i64 0),(.int .i64 0)])),[(0,1,false),(1,1,false)],[],true⟩),
 (104,⟨.struct,2,16,(some (.agg #[(.int .i64 0),(.int .i64 0)])),[(0,1,false),(1,1,false)],[],true⟩),
 (105,⟨(.map 3 51),1,8,(some (.map none)),[],[],false⟩),
 (106,tYq0),
 (107,tYq0),
 (108,tYq0),
 (109,tYq0),
 (110,tYq0),
 (111,tYq1),
 (112,tYq0),
 (113,⟨(.slice 117),1,24,(some (.slice none 0 0)),[],[],false⟩),
 (114,tYq1),
 (115,tYq0),
 (116,⟨.struct,3,40,(some (.agg #[(.int .i64 0),(.int .i64 0),(.slice none 0 0)])),[(0,1,false),(1,1,false),(2,1,false)],[],false⟩),
 (117,⟨.struct,3,40,(some (.agg #[(.int .i64 0),(.int .i64 0),(.slice none 0 0)])),[(0,1,false),(1,1,false),(2,1,false)],[],false⟩),
 (118,⟨(.ptr 192),1,8,(some (.pointer none)),[],[],true⟩),
 (119,tYq0),
 (120,tYq0),
 (121,tYq0),
 (122,tYq0),
 (123,tYq0),
 (124,⟨.tuple,1,0,(some (.tuple #[(.string ⟨#[]⟩),(.int .i64 0)])),[],[(.one .str),(.one (.int .i64))],false⟩),
 (125,tYq0),
 (126,tYq0),
 (127,tYq0),
 (128,⟨.tuple,1,0,(some (.tuple #[(.agg #[(.int .i64 0),(.int .i64 0)]),(.slice none 0 0)])),[],[(.agg [(.int .i64),(.int .i64)]),(.one .slice)],false⟩),
 (129,tYq0),
 (130,tYq3),
 (131,tYq0),
 (132,tYq0),
 (133,tYq0),
 (134,tYq0),
 (135,tYq0),
 (136,tYq0),
 (137,tYq0),
 (138,tYq0),
 (139,tYq0),
 (140,⟨(.slice 48),1,24,(some (.slice none 0 0)),[],[],false⟩),
 (141,tYq0),
 (142,⟨(.ptr 220),1,8,(some (.pointer none)),[],[],true⟩),
 (143,tYq0),
 (144,⟨(.slice 51),1,24,(some (.slice none 0 0)),[],[],false⟩),
 (145,⟨(.slice 148),1,24,(some (.slice none 0 0)),[],[],false⟩),
 (146,⟨.struct,11,200,(some (.agg #[(.slice none 0 0),(.slice none 0 0),(.slice none 0 0),(.int .i64 0),(.slice none 0 0),(.slice none 0 0),(.int .i64 0),(.int .i64 0),(.slice none 0 0),(.slice none 0 0),(.pointer none)])),[(0,5,true),(5,3,true),(8,1,false),(9,1,false),(10,1,false)],[],false⟩),
 (147,⟨.struct,11,200,(some (.agg #[(.slice none 0 0),(.slice none 0 0),(.slice none 0 0),(.int .i64 0),(.slice none 0 0),(.slice none 0 0),(.int .i64 0),(.int .i64 0),(.slice none 0 0),(.slice none 0 0),(.pointer none)])),[(0,5,true),(5,3,true),(8,1,false),(9,1,false),(10,1,false)],[],false⟩),
 (148,⟨(.slice 149),1,24,(some (.slice none 0 0)),[],[],false⟩),
 (149,⟨(.slice 4),1,24,(some (.slice none 0 0)),[],[],false⟩),
 (150,tYq0),
 (151,tYq0),
 (152,tYq0),
 (153,tYq0),
 (154,tYq0),
 (155,tYq0),
 (156,tYq0),
 (157,tYq0),
 (158,tYq3),
 (159,tYq0),
 (160,⟨(.map 3 24),1,8,(some (.map none)),[],[],false⟩),
 (161,⟨.struct,6,112,(some (.agg #[(.slice none 0 0),(.slice none 0 0),(.slice none 0 0),(.int .i64 0),(.slice none 0 0),(.map none)])),[(0,5,true),(5,1,false)],[],false⟩),
 (162,⟨.struct,6,112,(some (.agg #[(.slice none 0 0),(.slice none 0 0),(.slice none 0 0),(.int .i64 0),(.slice none 0 0),(.map none)])),[(0,5,true),(5,1,false)],[],false⟩),
 (163,tYq0),
 (164,tYq0),
 (165,tYq0),
 (166,tYq0),
 (167,⟨(.int .u64),1,8,(some (.int .u64 0)),[],[],true⟩),
 (168,tYq0),
 (169,tYq0),
 (170,tYq0),
 (171,⟨.struct,2,16,(some (.agg #[.nilFunc,.nilFunc])),[(0,1,false),(1,1,false)],[],false⟩),
 (172,⟨.struct,2,16,(some (.agg #[.nilFunc,.nilFunc])),[(0,1,false),(1,1,false)],[],false⟩),
 (173,⟨(.slice 172),1,24,(some (.slice none 0 0)),[],[],false⟩),
 (174,tYq0),
 (175,⟨(.ptr 182),1,8,(some (.pointer none)),[],[],true⟩),
 (176,⟨.tuple,1,0,(some (.tuple #[(.pointer none),(.int .i64 0)])),[],[(.one .ptr),(.one (.int .i64))],false⟩),
 (177,tYq0),
 (178,⟨(.map 184 24),1,8,(some (.map none)),[],[],false⟩),
 (179,⟨(.slice 184),1,24,(some (.slice none 0 0)),[],[],false⟩),
 (180,⟨(.map 184 3),1,8,(some (.map none)),[],[],false⟩),
 (181,⟨.struct,13,216,(some (.agg #[(.slice none 0 0),(.slice none 0 0),(.slice none 0 0),(.int .i64 0),(.slice none 0 0),(.slice none 0 0),(.int .i64 0),(.int .i64 0),(.slice none 0 0),(.map none),(.map none),(.slice none 0 0),(.map none)])),[(0,5,true),(5,3,true),(8,1,false),(9,1,false),(10,1,false),(11,1,false),(12,1,false)],[],false⟩),
 (182,⟨.struct,13,216,(some (.agg #[(.slice none 0 0),(.slice none 0 0),(.slice none 0 0),(.int .i64 0),(.slice none 0 0),(.slice none 0 0),(.int .i64 0),(.int .i64 0),(.slice none 0 0),(.map none),(.map none),(.slice none 0 0),(.map none)])),[(0,5,true),(5,3,true),(8,1,false),(9,1,false),(10,1,false),(11,1,false),(12,1,false)],[],false⟩),
 (183,⟨.struct,2,16,(some (.agg #[(.int .i64 0),(.int .i64 0)])),[(0,1,false),(1,1,false)],[],true⟩),
 (184,⟨.struct,2,16,(some (.agg #[(.int .i64 0),(.int .i64 0)])),[(0,1,false),(1,1,false)],[],true⟩),
 (185,tYq0),
 (186,tYq0),
 (187,tYq0),
 (188,tYq0),
 (189,⟨(.slice 241),1,24,(some (.slice none 0 0)),[],[],false⟩),
 (190,⟨(.slice 241),1,24,(some (.slice none 0 0)),[],[],false⟩),
 (191,⟨.struct,2,32,(some (.agg #[(.slice none 0 0),(.int .i64 0)])),[(0,1,false),(1,1,false)],[],false⟩),
 (192,⟨.struct,2,32,(some (.agg #[(.slice none 0 0),(.int .i64 0)])),[(0,1,false),(1,1,false)],[],false⟩),
 (193,tYq0),
 (194,tYq0),
 (195,tYq0),
 (196,tYq0),
 (197,tYq0),
 (198,tYq0),
 (199,tYq0),
 (200,⟨(.ptr 203),1,8,(some (.pointer none)),[],[],true⟩),
 (201,⟨(.slice 5),1,24,(some (.slice none 0 0)),[],[],false⟩),
 (202,⟨.struct,2,32,(some (.agg #[(.pointer none),(.slice none 0 0)])),[(0,1,false),(1,1,false)],[],false⟩),
 (203,⟨.struct,2,32,(some (.agg #[(.pointer none),(.slice none 0 0)])),[(0,1,false),(1,1,false)],[],false⟩),
 (204,tYq0),
 (205,⟨.iface,1,16,(some .nilIface),[],[],true⟩),
 (206,⟨.iface,1,16,(some .nilIface),[],[],true⟩),
 (207,⟨.tuple,1,0,(some (.tuple #[(.int .i64 0),.nilIface])),[],[(.one (.int .i64)),(.one .val)],false⟩),
 (208,tYq0),
 (209,tYq0),
 (210,tYq0),
 (211,tYq0),
 (212,tYq0),
 (213,tYq0),
 (214,⟨(.array 4 3),4,32,(some (.agg #[(.int .i64 0),(.int .i64 0),(.int .i64 0),(.int .i64 0)])),[],[],true⟩),
 (215,tYq0),
 (216,tYq0),
 (217,tYq0),
 (218,tYq0),
 (219,⟨.struct,7,152,(some (.agg #[(.slice none 0 0),(.slice none 0 0),(.slice none 0 0),(.int .i64 0),(.slice none 0 0),(.slice none 0 0),(.slice none 0 0)])),[(0,5,true),(5,1,false),(6,1,false)],[],false⟩),
 (220,⟨.struct,7,152,(some (.agg #[(.slice none 0 0),(.slice none 0 0),(.slice none 0 0),(.int .i64 0),(.slice none 0 0),(.slice none 0 0),(.slice none 0 0)])),[(0,5,true),(5,1,false),(6,1,false)],[],false⟩),
 (221,tYq0),
 (222,tYq3),
 (223,tYq0),
 (224,tYq0),
 (225,tYq0),
 (226,⟨(.map 3 3),1,8,(some (.map none)),[],[],false⟩),
 (227,tYq0),
 (228,tYq0),
 (229,tYq0),
 (230,tYq0),
 (231,⟨(.int .i64),1,8,(some (.int .i64 0)),[],[],true⟩),
 (232,tYq2),
 (233,tYq0),
 (234,tYq0),
 (235,tYq0),
 (236,⟨.tuple,1,0,(some (.tuple #[(.int .i64 0),(.bool false)])),[],[(.one (.int .i64)),(.one .bool)],false⟩),
 (237,tYq0),
 (238,tYq0),
 (239,⟨(.int .u32),1,4,(some (.int .u32 0)),[],[],true⟩),
 (240,tYq0),
 (241,⟨(.int .u64),1,8,(some (.int .u64 0)),[],[],true⟩),
 (242,tYq0),
 (243,tYq0),
 (244,tYq1),
 (245,tYq0),
 (246,tYq1),
 (247,tYq0),
 (248,tYq0),
 (249,tYq0),
 (250,tYq0),
 (251,tYq0),
 (252,tYq1),
 (253,tYq0),
 (254,⟨(.ptr 5),1,8,(some (.pointer none)),[],[],true⟩),
 (255,tYq0),
 (256,tYq0),
 (257,tYq0),
 (258,tYq0),
 (259,tYq0),
 (260,tYq0),
 (261,tYq0),
 (262,tYq0),
 (263,⟨(.int .u64),1,8,(some (.int .u64 0)),[],[],true⟩),
 (264,tYq0),
 (265,tYq0),
 (266,tYq0),
 (267,⟨(.ptr 3),1,8,(some (.pointer none)),[],[],true⟩),
 (268,tYq0),
 (269,tYq0),
 (270,tYq0),
 (271,tYq0),
 (272,tYq0),
 (273,tYq0),
 (274,⟨(.ptr 279),1,8,(some (.pointer none)),[],[],true⟩),
 (275,⟨.tuple,1,0,(some (.tuple #[(.pointer none),(.int .i64 0)])),[],[(.one .ptr),(.one (.int .i64))],false⟩),
 (276,tYq0),
 (277,tYq0),
 (278,⟨.struct,9,152,(some (.agg #[(.slice none 0 0),(.slice none 0 0),(.slice none 0 0),(.int .i64 0),(.slice none 0 0),(.slice none 0 0),(.int .i64 0),(.int .i64 0),(.map none)])),[(0,5,true),(5,3,true),(8,1,false)],[],false⟩),
 (279,⟨.struct,9,152,(some (.agg #[(.slice none 0 0),(.slice none 0 0),(.slice none 0 0),(.int .i64 0),(.slice none 0 0),(.slice none 0 0),(.int .i64 0),(.int .i64 0),(.map none)])),[(0,5,true),(5,3,true),(8,1,false)],[],false⟩),
 (280,tYq0),
 (281,tYq0),
 (282,tYq0),
 (283,tYq0),
 (284,tYq0),
 (285,tYq0),
 (286,⟨(.slice 118),1,24,(some (.slice none 0 0)),[],[],false⟩),
 (287,tYq0),
 (288,tYq0),
 (289,tYq0),
 (290,⟨.struct,7,152,(some (.agg #[(.slice none 0 0),(.slice none 0 0),(.slice none 0 0),(.int .i64 0),(.slice none 0 0),(.slice none 0 0),(.slice none 0 0)])),[(0,5,true),(5,1,false),(6,1,false)],[],false⟩),
 (291,⟨.struct,7,152,(some (.agg #[(.slice none 0 0),(.slice none 0 0),(.slice none 0 0),(.int .i64 0),(.slice none 0 0),(.slice none 0 0),(.slice none 0 0)])),[(0,5,true),(5,1,false),(6,1,false)],[],false⟩),
 (292,⟨(.ptr 291),1,8,(some (.pointer none)),[],[],true⟩),
 (293,tYq0),
 (294,⟨(.array 64 5),64,64,(some (.agg #[(.int .u8 0),(.int .u8 0),(.int .u8 0),(.int .u8 0),(.int .u8 0),(.int .u8 0),(.int .u8 0),(.int .u8 0),(.int .u8 0),(.int .u8 0),(.int .u8 0),(.int .u8 0),(.int .u8 0),(.int .u8 0),(.int .u8 0),(.int .u8 0),(.int .u8 0),(.int .u8 0),(.int .u8 0),(.int .u8 0),(.int .u8 0),(.int .u8 0),(.int .u8 0),(.int .u8 0),(.int .u8 0),(.int .u8 0),(.int .u8 0),(.int .u8 0),(.int .u8 0),(.int .u8 0),(.int .u8 0),(.int .u8 0),(.int .u8 0),(.int .u8 0),(.int .u8 0),(.int .u8 0),(.int .u8 0),(.int .u8 0),(.int .u8 0),(.int .u8 0),(.int .u8 0),(.int .u8 0),(.int .u8 0),(.int .u8 0),(.int .u8 0),(.int .u8 0),(.int .u8 0),(.int .u8 0),(.int .u8 0),(.int .u8 0),(.int .u8 0),(.int .u8 0),(.int .u8 0),(.int .u8 0),(.int .u8 0),(.int .u8 0),(.int .u8 0),(.int .u8 0),(.int .u8 0),(.int .u8 0),(.int .u8 0),(.int .u8 0),(.int .u8 0),(.int .u8 0)])),[],[],true⟩),
 (295,⟨(.ptr 300),1,8,(some (.pointer none)),[],[],true⟩),
 (296,⟨.tuple,1,0,(some (.tuple #[(.pointer none),(.bool false)])),[],[(.one .ptr),(.one .bool)],false⟩),
 (297,tYq0),
 (298,tYq0),
 (299,⟨.struct,7,136,(some (.agg #[(.pointer none),(.slice none 0 0),(.slice none 0 0),(.slice none 0 0),(.slice none 0 0),(.int .i64 0),(.slice none 0 0)])),[(0,2,true),(2,5,true)],[],false⟩),
 (300,⟨.struct,7,136,(some (.agg #[(.pointer none),(.slice none 0 0),(.slice none 0 0),(.slice none 0 0),(.slice none 0 0),(.int .i64 0),(.slice none 0 0)])),[(0,2,true),(2,5,true)],[],false⟩),
 (301,tYq0),
 (302,tYq0),
 (303,⟨.other,1,8,(some (.pointer none)),[],[],true⟩),
 (304,tYq0),
 (305,tYq0),
 (306,tYq0),
 (307,tYq0),
 (308,tYq0),
 (309,tYq0),
 (310,⟨(.ptr 263),1,8,(some (.pointer none)),[],[],true⟩),
 (311,tYq2),
 (312,tYq0),
 (313,tYq0),
 (314,tYq0),
 (315,tYq0),
 (316,tYq0),
 (317,tYq0),
 (318,⟨(.slice 320),1,24,(some (.slice none 0 0)),[],[],false⟩),
 (319,⟨.struct,2,16,(some (.agg #[(.int .i64 0),(.int .i64 0)])),[(0,1,false),(1,1,false)],[],true⟩),
 (320,⟨.struct,2,16,(some (.agg #[(.int .i64 0),(.int .i64 0)])),[(0,1,false),(1,1,false)],[],true⟩),
 (321,⟨(.ptr 320),1,8,(some (.pointer none)),[],[],true⟩),
 (322,tYq0),
 (323,⟨(.array 24 5),24,24,(some (.agg #[(.int .u8 0),(.int .u8 0),(.int .u8 0),(.int .u8 0),(.int .u8 0),(.int .u8 0),(.int .u8 0),(.int .u8 0),(.int .u8 0),(.int .u8 0),(.int .u8 0),(.int .u8 0),(.int .u8 0),(.int .u8 0),(.int .u8 0),(.int .u8 0),(.int .u8 0),(.int .u8 0),(.int .u8 0),(.int .u8 0),(.int .u8 0),(.int .u8 0),(.int .u8 0),(.int .u8 0)])),[],[],true⟩),
 (324,tYq0),
 (325,⟨.tuple,1,0,(some (.tuple #[(.slice none 0 0),(.string ⟨#[]⟩)])),[],[(.one .slice),(.one .str)],false⟩),
 (326,tYq0),
 (327,tYq0),
 (328,tYq0),
 (329,tYq0),
 (330,tYq0),
 (331,tYq0),
 (332,tYq0),
 (333,⟨(.array 20 241),20,160,(some (.agg #[(.int .u64 0),(.int .u64 0),(.int .u64 0),(.int .u64 0),(.int .u64 0),(.int .u64 0),(.int .u64 0),(.int .u64 0),(.int .u64 0),(.int .u64 0),(.int .u64 0),(.int .u64 0),(.int .u64 0),(.int .u64 0),(.int .u64 0),(.int .u64 0),(.int .u64 0),(.int .u64 0),(.int .u64 0),(.int .u64 0)])),[],[],true⟩),
 (334,⟨(.array 65 5),65,65,(some (.agg #[(.int .u8 0),(.int .u8 0),(.int .u8 0),(.int .u8 0),(.int .u8 0),(.int .u8 0),(.int .u8 0),(.int .u8 0),(.int .u8 0),(.int .u8 0),(.int .u8 0),(.int .u8 0),(.int .u8 0),(.int .u8 0),(.int .u8 0),(.int .u8 0),(.int .u8 0),(.int .u8 0),(.int .u8 0),(.int .u8 0),(.int .u8 0),(.int .u8 0),(.int .u8 0),(.int .u8 0),(.int .u8 0),(.int .u8 0),(.int .u8 0),(.int .u8 0),(.int .u8 0),(.int .u8 0),(.int .u8 0),(.int .u8 0),(.int .u8 0),(.int .u8 0),(.int .u8 0),(.int .u8 0),(.int .u8 0),(.int .u8 0),(.int .u8 0),(.int .u8 0),(.int .u8 0),(.int .u8 0),(.int .u8 0),(.int .u8 0),(.int .u8 0),(.int .u8 0),(.int .u8 0),(.int .u8 0),(.int .u8 0),(.int .u8 0),(.int .u8 0),(.int .u8 0),(.int .u8 0),(.int .u8 0),(.int .u8 0),(.int .u8 0),(.int .u8 0),(.int .u8 0),(.int .u8 0),(.int .u8 0),(.int .u8 0),(.int .u8 0),(.int .u8 0),(.int .u8 0),(.int .u8 0)])),[],[],true⟩),
 (335,tYq0),
 (336,⟨(.array 32 5),32,32,(some (.agg #[(.int .u8 0),(.int .u8 0),(.int .u8 0),(.int .u8 0),(.int .u8 0),(.int .u8 0),(.int .u8 0),(.int .u8 0),(.int .u8 0),(.int .u8 0),(.int .u8 0),(.int .u8 0),(.int .u8 0),(.int .u8 0),(.int .u8 0),(.int .u8 0),(.int .u8 0),(.int .u8 0),(.int .u8 0),(.int .u8 0),(.int .u8 0),(.int .u8 0),(.int .u8 0),(.int .u8 0),(.int .u8 0),(.int .u8 0),(.int .u8 0),(.int .u8 0),(.int .u8 0),(.int .u8 0),(.int .u8 0),(.int .u8 0)])),[],[],true⟩),
 (337,⟨.struct,4,40,(some (.agg #[(.pointer none),(.pointer none),(.pointer none),(.string ⟨#[]⟩)])),[(0,1,false),(1,1,false),(2,1,false),(3,1,false)],[],true⟩),
 (338,⟨.struct,4,40,(some (.agg #[(.pointer none),(.pointer none),(.pointer none),(.string ⟨#[]⟩)])),[(0,1,false),(1,1,false),(2,1,false),(3,1,false)],[],true⟩),
 (339,⟨(.array 0 16),0,0,(some (.agg #[])),[],[],true⟩),
 (340,⟨.struct,0,0,(some (.agg #[])),[(0,0,true)],[],true⟩),
 (341,⟨.struct,0,0,(some (.agg #[])),[(0,0,true)],[],true⟩),
 (342,⟨(.int .u8),1,1,(some (.int .u8 0)),[],[],true⟩),
 (343,⟨(.int .u8),1,1,(some (.int .u8 0)),[],[],true⟩),
 (344,tYq0),
 (345,⟨(.int .i32),1,4,(some (.int .i32 0)),[],[],true⟩),
 (346,⟨(.int .i32),1,4,(some (.int .i32 0)),[],[],true⟩),
 (347,⟨.struct,11,48,(some (.agg #[(.int .u64 0),(.int .u64 0),(.int .u32 0),(.int .u8 0),(.int .u8 0),(.int .u8 0),(.int .u8 0),.nilFunc,(.pointer none),(.int .i32 0),(.int .i32 0)])),[(0,1,false),(1,1,false),(2,1,false),(3,1,false),(4,1,false),(5,1,false),(6,1,false),(7,1,false),(8,1,false),(9,1,false),(10,1,false)],[],false⟩),
 (348,⟨.struct,11,48,(some (.agg #[(.int .u64 0),(.int .u64 0),(.int .u32 0),(.int .u8 0),(.int .u8 0),(.int .u8 0),(.int .u8 0),.nilFunc,(.pointer none),(.int .i32 0),(.int .i32 0)])),[(0,1,false),(1,1,false),(2,1,false),(3,1,false),(4,1,false),(5,1,false),(6,1,false),(7,1,false),(8,1,false),(9,1,false),(10,1,false)],[],false⟩)]
def Ty:TypeId->Option dg:=OT Ve
theorem aQ:dP Tryz.prog Ty:=Sk (by kernel_rfl)
theorem Cj {P:Program} {F F' : FuncId->Bool} (h:tK P F) (h' : tK P F'):tK P λg=>F g || F' g:=λg u=>by
 rcases ZZ _ _ ▸ u with u | u
 ·exact h g u
 ·exact h' g u
def Fn (g:FuncId):Bool:=(Nat.ble 3 g && Nat.ble g 224) || (Nat.ble 226 g && Nat.ble g 229) || (Nat.ble 231 g && Nat.ble g 253) || (Nat.ble 255 g && Nat.ble g 266) || (Nat.ble 291 g && Nat.ble g 291)
theorem W1:tK Tryz.prog Fn:=(Cj (Cj (Cj (Cj (yh (by kernel_rfl)) (yh (by kernel_rfl))) (yh (by kernel_rfl))) (yh (by kernel_rfl))) (yh (by kernel_rfl)))
theorem mixed:Tryz.prog.follows .mixedOrders = true:=by kernel_rfl
abbrev vU (l:List Value):Value:=.tuple (Array.mk l)
abbrev cL (w:aa4) (a:Addr) (v:Value):Prop:=w.cell? a = some v
abbrev rA (w:aa4) (a:Addr) (n:Nat) (l:List Value):Prop:=rowAt w a 0 n = some l
abbrev χ (w:aa4) (s:Addr) (K:Value->Prop):Prop:=∃ a b c d e f g h i j k l m,rA w s 5 [vS a b c,vS d e f,vS g h i,iI j,vS k l m]/\K (vG [vS a b c,vS d e f,vS g h i,iI j,vS k l m])
abbrev φ (a:aa3) (b c:Nat) (d:aa3) (e f:Nat) (g:aa3) (h i:Nat) (j:Int) (k:aa3) (l m:Nat):Value:=.agg #[(.slice a b c),(.slice d e f),(.slice g h i),(.int .i64 j),(.slice k l m)]
abbrev ψ (a:aa3) (b c:Nat) (d:aa3) (e f:Nat) (g:aa3) (h i:Nat) (j:Int) (k:aa3) (l m:Nat):Obj:=oC [vS a b c,vS d e f,vS g h i,iI j,vS k l m] 27
abbrev τ (l:List (Nat × S1)) (K:lP l->lN l->Prop):Prop:=∃ x,∃ y,K x y
abbrev ρ:=aA Tryz.prog
abbrev rE:=vt Tryz.prog Ev
abbrev rS:=@bf Value Tryz.prog
theorem rv {i:FuncId} {fn:Func} (hf:Tryz.prog.funcs[i]? = some fn) (A:bm) {args:List Value} {w:aa4} {R:Value->aa4->Prop} {V:Prop} (e:WK Tryz.prog Ty Fn Ev A fn args w R = V) (h:V):ρ i args w R:=Vc aQ W1 mixed hf A (e ▸ h)
end Go.Proofs.YtndaepmjkbmjmaaGreatDoor
