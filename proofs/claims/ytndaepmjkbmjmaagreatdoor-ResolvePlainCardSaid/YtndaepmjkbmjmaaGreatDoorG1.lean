/- Texts of this claim, one behind the other. -/
import Derived.RangeFuncIn
import Derived.RangeFuncLeaves
import Derived.TacticsIn
import Derived.Deep.Quiet
import Derived.Laws.Sem
import Derived.Laws.Cells
import Derived.KernelRfl
import Derived.IntWalk
import Derived.Laws.Slices
import Derived.OrdersIn
import Derived.RangeFuncRecord
import Derived.Deep.AppendSrc
import Derived.Test.YtndaepmjkbmjmaaGreatDoorProg
set_option linter.unusedVariables false
set_option linter.unusedSectionVars false
set_option maxRecDepth 100000
set_option maxHeartbeats 16000000
abbrev Go.Wr:=Option Go.Addr
abbrev Go.Ws:=Go.World
namespace Go
abbrev Uy := @of_decide_eq_false
abbrev Uz := @of_decide_eq_true
abbrev UA := @List.getElem?_eq_some_iff
abbrev UB := @List.getElem?_eq_getElem
abbrev UC := @List.mem_of_getElem?
abbrev UD := @List.getElem?_map
abbrev UE := @if_neg
abbrev UF := @List.mem_append
abbrev UG := @List.length_append
abbrev UH := @List.length_map
abbrev UI := @List.take_add_one
abbrev UJ := @if_pos
abbrev UK := @List.append_assoc
abbrev UL := @List.eq_nil_of_length_eq_zero
abbrev UM := @Nat.zero_le
abbrev UN := @List.getD_eq_getElem?_getD
abbrev UO := @decide_eq_true_eq
abbrev UP := @List.getElem?_append_right
abbrev UQ := @List.getElem?_append_left
abbrev UR := @List.mem_cons
abbrev US := @Nat.le_refl
abbrev UT := @Bool.and_eq_true
abbrev UU := @List.mem_map
abbrev UW := @List.getElem?_eq_none
abbrev UX := @List.take_of_length_le
abbrev UY := @List.take_append_drop
abbrev UZ := @List.take_length
abbrev U0 := @List.length_take
abbrev U1 := @List.map_append
abbrev U2 := @List.mem_singleton
abbrev U3 := @List.append_nil
abbrev U4 := @decide_eq_true
abbrev U5 := @decide_eq_false
abbrev U6 := @List.flatMap_cons
abbrev U7 := @Nat.le_trans
abbrev U8 := @List.mem_range
abbrev U9 := @Int.toNat_natCast
abbrev U_ := @List.flatMap_append
abbrev Va := @Array.getElem?_toList
abbrev Vb := @List.getElem?_drop
abbrev Vc := @List.length_cons
abbrev Vd := @Array.getElem?_eq_some_iff
abbrev Ve := @List.nil_append
abbrev Vf := @List.getElem?_of_mem
abbrev Vg := @List.nodup_append
abbrev Vh := @List.map_cons
abbrev Vi := @List.filter_append
abbrev Vj := @List.length_set
abbrev Vk := @List.drop_eq_getElem_cons
abbrev Vl := @decide_eq_false_iff_not
abbrev Vm := @List.length_filter_le
abbrev Vn := @Bool.eq_iff_iff
abbrev Vo := @List.mem_filter
abbrev Vp := @Nat.add_sub_cancel_left
abbrev Vq := @List.ext_getElem?
abbrev Vr := @Nat.zero_add
abbrev Vs := @Int.natCast_nonneg
abbrev Vt := @List.perm_middle
abbrev Vu := @Nat.sub_self
abbrev Vv := @Array.getElem?_modify
abbrev Vw := @List.length_range
abbrev Vx := @List.pairwise_map
abbrev Vy := @List.nodup_cons
abbrev Vz := @List.nodup_iff_pairwise_ne
abbrev VA := @Nat.mul_one
abbrev VB := @List.length_nil
abbrev VC := @List.getElem?_set
abbrev VD := @List.pairwise_cons
abbrev VE := @List.set_append_right
abbrev VF := @List.filter_cons_of_pos
abbrev VG := @List.filter_cons_of_neg
abbrev VH := @Bool.or_eq_true
abbrev VI := @Classical.byContradiction
abbrev VJ := @Array.getElem?_setIfInBounds_ne
abbrev VK := @List.getElem?_take
abbrev VL := @List.map_set
abbrev VM := @Option.map_some
abbrev VN := @List.getElem?_range
abbrev VO := @List.map_congr_left
abbrev VP := @List.mem_flatMap
abbrev VQ := @Bool.not_eq_true'
abbrev VR := @List.mem_of_mem_drop
abbrev VS := @List.drop_of_length_le
abbrev VT := @Option.toList_some
abbrev VU := @List.length_drop
abbrev VV := @Array.ext'
abbrev VW := @Nat.mul_le_mul_right
abbrev VX := @List.range_succ
abbrev VY := @List.length_pos_iff
abbrev VZ := @List.filter_congr
abbrev V0 := @Nat.succ_mul
abbrev V1 := @List.contains_iff_mem
abbrev V2 := @Nat.min_eq_left
abbrev V3 := @List.all_eq_true
abbrev V4 := @List.any_eq_true
abbrev V5 := @List.filter_eq_nil_iff
abbrev V6 := @List.replicate_succ
abbrev V7 := @Nat.eq_of_beq_eq_true
abbrev V8 := @List.length_replicate
abbrev V9 := @List.Perm.append_left
abbrev V_ := @List.map_map
abbrev Wa := @Bool.false_eq_true
abbrev Wb := @List.set_cons_zero
abbrev Wc := @List.mem_cons_self
abbrev Wd := @List.mem_cons_of_mem
abbrev We := @List.getElem?_cons_zero
abbrev Wf := @List.getElem?_replicate
abbrev Wg := @List.getElem?_cons_succ
abbrev Wh := @List.all_append
abbrev Wi := @beq_eq_false_iff_ne
abbrev Wj := @Option.map_eq_some_iff
abbrev Wk := @List.append_of_mem
abbrev Wl := @List.set_cons_succ
abbrev Wm := @List.pairwise_iff_getElem
abbrev Wn := @List.getLast?_eq_getElem?
abbrev Wo := @Nat.add_zero
abbrev Wp := @List.any_eq_false
abbrev Wq := @Array.length_toList
end Go
namespace Go.V
end Go.V
namespace Go.Proofs.YtndaepmjkbmjmaaGreatDoor
end Go.Proofs.YtndaepmjkbmjmaaGreatDoor
open Go.V Go.Proofs.YtndaepmjkbmjmaaGreatDoor
namespace Go.V
inductive Cs where
 | int (k:IntKind) | bool | str | slice | ptr | map | fn | val
 deriving Inhabited
inductive S1 where
 | one (c:Cs) | agg (l:List Cs)
 deriving Inhabited
inductive Sh where
 | s (x:S1) | tup (l:List S1)
 deriving Inhabited

def Cs.ex:Cs->(Value->Prop)->Prop
 | .int k,p=>∃ n:Int,p (.int k n)
 | .bool,p=>∃ b:Bool,p (.bool b)
 | .str,p=>∃ s:ByteArray,p (.string s)
 | .slice,p=>∃ (a:Wr) (l c:Nat),p (.slice a l c)
 | .ptr,p=>∃ a:Wr,p (.pointer a)
 | .map,p=>∃ r:Option Nat,p (.map r)
 | .fn,p=>∃ (g:FuncId) (c:List Value),p (.func (.func g) #[] ⟨c⟩)
 | .val,p=>∃ v:Value,p v
def Cs.all:Cs->(Value->Prop)->Prop
 | .int k,p=>∀ n:Int,p (.int k n)
 | .bool,p=>∀ b:Bool,p (.bool b)
 | .str,p=>∀ s:ByteArray,p (.string s)
 | .slice,p=>∀ (a:Wr) (l c:Nat),p (.slice a l c)
 | .ptr,p=>∀ a:Wr,p (.pointer a)
 | .map,p=>∀ r:Option Nat,p (.map r)
 | .fn,p=>∀ (g:FuncId) (c:List Value),p (.func (.func g) #[] ⟨c⟩)
 | .val,p=>∀ v:Value,p v
def Sw:List Cs->(List Value->Prop)->Prop
 | [],p=>p []
 | c :: l,p=>c.ex λv=>Sw l λvs=>p (v :: vs)
def OP:List Cs->(List Value->Prop)->Prop
 | [],p=>p []
 | c :: l,p=>c.all λv=>OP l λvs=>p (v :: vs)
def S1.ex:S1->(Value->Prop)->Prop
 | .one c,p=>c.ex p
 | .agg l,p=>Sw l λvs=>p (.agg ⟨vs⟩)
def S1.all:S1->(Value->Prop)->Prop
 | .one c,p=>c.all p
 | .agg l,p=>OP l λvs=>p (.agg ⟨vs⟩)
def QX:List S1->(List Value->Prop)->Prop
 | [],p=>p []
 | c :: l,p=>c.ex λv=>QX l λvs=>p (v :: vs)
def Sh.ex:Sh->(Value->Prop)->Prop
 | .s x,p=>x.ex p
 | .tup l,p=>QX l λvs=>p (.tuple ⟨vs⟩)
def Sh.is (sh:Sh) (v:Value) (k:Value->Prop):Prop:=sh.ex λu=>v = u/\k u

theorem Cs.jY {c:Cs} {p:Value->Prop} (h:c.ex p):∃ v,p v:=by
 cases c <;> simp only [Cs.ex] at h
 case slice=>obtain ⟨a,l,c,h⟩:=h; exact ⟨_,h⟩
 case fn=>obtain ⟨a,l,h⟩:=h; exact ⟨_,h⟩
 all_goals (obtain ⟨a,h⟩:=h; exact ⟨_,h⟩)
theorem zn {l:List Cs}:∀ {p:List Value->Prop},Sw l p->∃ v,v.length = l.length/\p v:=by
 induction l with
 | nil=>exact λh=>⟨[],rfl,h⟩
 | cons c l ih=>intro p h; obtain ⟨v,h⟩:=Cs.jY h; obtain ⟨vs,hl,h⟩:=ih h; exact ⟨v :: vs,by simp [hl],h⟩
theorem S1.jY {c:S1} {p:Value->Prop} (h:c.ex p):∃ v,p v:=by
 cases c with
 | one c=>exact Cs.jY h
 | agg l=>obtain ⟨vs,_,h⟩:=zn h; exact ⟨_,h⟩
theorem zo {l:List S1}:∀ {p:List Value->Prop},QX l p->∃ v,p v:=by
 induction l with
 | nil=>exact λh=>⟨[],h⟩
 | cons c l ih=>intro p h; obtain ⟨v,h⟩:=S1.jY h; obtain ⟨vs,h⟩:=ih h; exact ⟨v :: vs,h⟩
theorem Sh.jY {c:Sh} {p:Value->Prop} (h:c.ex p):∃ v,p v:=by
 cases c with
 | s c=>exact S1.jY h
 | tup l=>obtain ⟨vs,h⟩:=zo h; exact ⟨_,h⟩
theorem Sh.dK {sh:Sh} {v:Value} {k:Value->Prop} (h:sh.is v k):k v:=by
 obtain ⟨u,rfl,h⟩:=Sh.jY h; exact h

inductive Kd where
 | bool | int (k:IntKind) | string | slice (e:TypeId) | ptr (e:TypeId) | map (k e:TypeId) | struct | array (n:Nat) (e:TypeId) | func | iface | tuple | other
 deriving Inhabited
def dQ:TypeDesc->Kd
 | .bool=>.bool | .int k=>.int k | .string=>.string | .slice e=>.slice e | .pointer e=>.ptr e | .map k e=>.map k e
 | .struct _=>.struct | .array n e=>.array n e | .func ..=>.func | .interface _=>.iface | .tuple _=>.tuple | _=>.other
def Cs.of:Value->Cs
 | .int k _=>.int k | .bool _=>.bool | .string _=>.str | .slice ..=>.slice | .pointer _=>.ptr | .map _=>.map | .nilFunc=>.fn | _=>.val
def S1.of:Value->S1
 | .agg cs=>.agg (cs.toList.map Cs.of)
 | v=>.one (Cs.of v)
structure cB where
 kd:Kd
 size:Nat
 bytes:Nat
 zero:Option Value
 flds:List (Nat × Nat × Bool)      -- offset,size,is the field's type a struct or an array
 tup:List S1
 cmp:Bool:=false
 deriving Inhabited
def Kd.isAgg:Kd->Bool
 | .struct | .array ..=>true
 | _=>false
def wo (P:Program):TypeDesc->Bool
 | .struct fs=>fs.toList.all λf=>(P.info? f.type).isSome && (P.underlying f.type).isSome
 | _=>true
def Tx (P:Program) (t:TypeId):Option cB :=
  match P.info? t,P.underlying t with
  | some i,some d=>bif wo P d then some
    { kd:=dQ d,size:=i.size,bytes:=i.bytes,zero:=i.zero,cmp:=i.comparable
      flds:=match d with
        | .struct fs=>fs.toList.map λf=>(f.offset,P.cellsOf f.type,match P.underlying f.type with | some (.struct _) | some (.array ..)=>true | _=>false)
        | _=>[]
      tup:=match d with
        | .tuple ts=>ts.toList.map λe=>S1.of (((P.info? e).bind (·.zero)).getD undef)
        | _=>[] } else none
  | _,_=>none
def di (P:Program) (Ty:TypeId->Option cB):Prop:=∀ t i,Ty t = some i->∃ c,Tx P t = some { i with cmp:=c }
def Lu:List (TypeId × cB)->TypeId->Option cB
 | [],_=>none
 | (t,i) :: l,u=>bif Nat.beq t u then some i else Lu l u
theorem OQ {P:Program} {l:List (TypeId × cB)} (h:l.map (λx=>Tx P x.1) = l.map (λx=>some x.2)):di P (Lu l):=by
 intro t i hi
 induction l with
 | nil=>simp [Lu] at hi
 | cons x l ih =>
  obtain ⟨u,j⟩:=x
  simp only [Vh,List.cons.injEq] at h
  simp only [Lu,Bool.cond_eq_ite] at hi
  by_cases hb:Nat.beq u t = true
  ·rw [UJ hb] at hi; cases hi; rw [<- V7 hb]; exact ⟨i.cmp,h.1⟩
  ·rw [UE hb] at hi; exact ih h.2 hi
def Lv (Ty:TypeId->Option cB):TypeId->Option cB:=λt=>match Ty t with
 | some i=>some { i with cmp:=false }
 | none=>none
theorem OR {P:Program} {Ty:TypeId->Option cB} (h:di P Ty):di P (Lv Ty):=by
 intro t i hi
 unfold Lv at hi
 split at hi
 ·rename_i j hj
  cases hi
  obtain ⟨c,hc⟩:=h t j hj
  exact ⟨c,hc⟩
 ·cases hi
def Is (Ty:TypeId->Option cB) (t:TypeId):Sh :=
 match Ty t with
 | some i=>match i.kd with | .tuple=>.tup i.tup | _=>(match i.zero with | some z=>.s (S1.of z) | none=>.s (.one .val))
 | none=>.s (.one .val)

structure Ev (w w' : Ws):Prop where
 os:w'.os = w.os
 tape:w'.tape = w.tape
 output:w'.output = w.output
 size:w.heap.size<=w'.heap.size
 dfr:∀ (b:Nat) (d:Option (List Deferred)),w.heap[b]? = some (Obj.deferred d)->w'.heap[b]? = some (Obj.deferred d)
 lop:∀ (b:Nat) (d:Loop),w.heap[b]? = some (Obj.loop d)->w'.heap[b]? = some (Obj.loop d)
theorem Ev.refl (w:Ws):Ev w w:=⟨rfl,rfl,rfl,US _,λ_ _ h=>h,λ_ _ h=>h⟩
theorem Ev.trans {a b c:Ws} (h:Ev a b) (k:Ev b c):Ev a c :=
 ⟨k.os.trans h.os,k.tape.trans h.tape,k.output.trans h.output,U7 h.size k.size,λx d hx=>k.dfr x d (h.dfr x d hx),λx d hx=>k.lop x d (h.lop x d hx)⟩
theorem Ev.drew (w:Ws) (n:Nat):Ev w { w with drawn:=n }:=⟨rfl,rfl,rfl,US _,λ_ _ h=>h,λ_ _ h=>h⟩
theorem Ev.push (w:Ws) (o:Obj):Ev w { w with heap:=w.heap.push o }:=by
 refine ⟨rfl,rfl,rfl,by simp,?_,?_⟩ <;>
 ·intro b d h
  have hb:b < w.heap.size:=(Vd.1 h).1
  simp only [Array.getElem?_push]; rw [UE (by omega)]; exact h
theorem Ev.setCell (w:Ws) (a:Addr) (v:Value):Ev w (w.setCell a v):=by
 refine ⟨rfl,rfl,rfl,by simp [World.setCell],?_,?_⟩ <;>
 ·intro b d h
  simp only [World.setCell,Vv]
  split
  ·rename_i e; subst e; simp [h]
  ·exact h

structure C8 (E:Ws->Ws->Prop):Prop where
 trans:∀ {a b c:Ws},E a b->E b c->E a c
 ofEv:∀ a b:Ws,Ev a b->E a b
 dfr:∀ {a b:Ws},E a b->∀ (k:Nat) (d:Option (List Deferred)),a.heap[k]? = some (Obj.deferred d)->b.heap[k]? = some (Obj.deferred d)
 size:∀ {a b:Ws},E a b->a.heap.size<=b.heap.size
theorem Tz:C8 Ev:=⟨λh k=>h.trans k,λ_ _ h=>h,λh k d hd=>h.dfr k d hd,λh=>h.size⟩
def r_ (P:Program) (E:Ws->Ws->Prop) (f:FuncId) (args:List Value) (w:Ws) (R:Value->Ws->Prop):Prop :=
 Calls P f ⟨args⟩ w λe w'=>∃ v,e = .returned v/\E w w'/\R v w'
abbrev ay (P:Program) (f:FuncId) (args:List Value) (w:Ws) (R:Value->Ws->Prop):Prop:=r_ P Ev f args w R
theorem ay.mono {P:Program} {f:FuncId} {args:List Value} {w:Ws} {R R' : Value->Ws->Prop} (h:ay P f args w R) (hr:∀ v w',R v w'->R' v w'):ay P f args w R' :=
 Calls.mono h λ_ _ ⟨v,he,hE,hR⟩=>⟨v,he,hE,hr _ _ hR⟩
theorem r_.mono {P:Program} {E:Ws->Ws->Prop} {f:FuncId} {args:List Value} {w:Ws} {R R' : Value->Ws->Prop} (h:r_ P E f args w R) (hr:∀ v w',R v w'->R' v w'):r_ P E f args w R' :=
 Calls.mono h λ_ _ ⟨v,he,hE,hR⟩=>⟨v,he,hE,hr _ _ hR⟩
theorem ay.Ue {P:Program} {E:Ws->Ws->Prop} (hE:C8 E) {f:FuncId} {args:List Value} {w:Ws} {R:Value->Ws->Prop} (h:ay P f args w R):r_ P E f args w R :=
 Calls.mono h λ_ _ ⟨v,he,h1,hR⟩=>⟨v,he,hE.ofEv _ _ h1,hR⟩
def aU {α : Type} (P:Program) (s:Sem α) (w:Ws) (R:α->Ws->Prop):Prop :=
 ∃ v w',s.run P w = .ok v w'/\Ev w w'/\R v w'
theorem aU.mono {α : Type} {P:Program} {s:Sem α} {w:Ws} {R R' : α->Ws->Prop} (h:aU P s w R) (hr:∀ v w',R v w'->R' v w'):aU P s w R' :=
 let ⟨v,w',h1,h2,h3⟩:=h; ⟨v,w',h1,h2,hr _ _ h3⟩

abbrev Fr:=List (Nat × Value)
def dE:Fr->Nat->Value
 | [],_=>undef
 | (d,v) :: l,t=>bif Nat.beq d t then v else dE l t
def put (n:Nat) (fr:Fr):Option Tmp->Value->Fr
 | some d,v=>bif Nat.ble (d + 1) n then (d,v) :: fr else fr
 | none,_=>fr
def ev (fr:Fr):Operand->Value
 | .tmp t=>dE fr t
 | .const v=>v
 | .global g=>.pointer (some ⟨g,0,none⟩)
 | .func f=>.func (.func f) #[] #[]
def wq (fr:Fr):List Operand->List Value
 | []=>[]
 | x :: l=>ev fr x :: wq fr l
theorem zp (fr:Fr):∀ l,wq fr l = l.map (ev fr)
 | []=>rfl
 | x :: l=>by simp [wq,zp fr l]
def aP (n:Nat) (fr:Fr) (ds:List Deferred):Act:={ tmps:=⟨(List.range n).map (dE fr)⟩,defers:=ds }
def Fits (n:Nat) (fr:Fr):Prop:=∀ t,n<=t->dE fr t = undef
theorem q8 (n:Nat) (fr:Fr) (ds:List Deferred) (hf:Fits n fr) (t:Nat):(aP n fr ds).tmps.getD t undef = dE fr t:=by
 by_cases h:t < n
 ·simp [aP,h]
 ·simp [aP,h,hf t (by omega)]
theorem G1 (n:Nat) (fr:Fr) (ds:List Deferred) (hf:Fits n fr) (x:Operand):(aP n fr ds).eval x = ev fr x:=by
 cases x with
 | tmp t=>exact q8 n fr ds hf t
 | _=>rfl
theorem It (n:Nat) (fr:Fr) (ds:List Deferred) (hf:Fits n fr):(aP n fr ds).eval = ev fr:=funext (G1 n fr ds hf)
theorem wu (d:Nat) (v:Value) (l:Fr) (t:Nat):dE ((d,v) :: l) t = if d = t then v else dE l t:=by
 simp only [dE,Bool.cond_eq_ite]
 by_cases h:d = t
 ·subst h; simp
 ·rw [UE h,UE]; simpa using h
theorem EC (n:Nat) (fr:Fr) (d:Nat) (v:Value):put n fr (some d) v = if d < n then (d,v) :: fr else fr:=by
 simp only [put,Bool.cond_eq_ite,Nat.ble_eq]; rfl
theorem uG {n:Nat} {fr:Fr} (hf:Fits n fr) (d:Option Tmp) (v:Value):Fits n (put n fr d v):=by
 cases d with
 | none=>exact hf
 | some d =>
  rw [EC]
  split
  ·intro t ht; rw [wu,UE (by omega)]; exact hf t ht
  ·exact hf
theorem jZ (n:Nat) (fr:Fr) (d:Nat) (v:Value) (t:Nat):dE (put n fr (some d) v) t = if d = t/\d < n then v else dE fr t:=by
 rw [EC]
 by_cases h:d < n
 ·rw [UJ h,wu]; simp [h]
 ·rw [UE h]; simp [h]
theorem C9 (n:Nat) (fr:Fr) (ds:List Deferred) (d:Option Tmp) (v:Value):(aP n fr ds).put d v = aP n (put n fr d v) ds:=by
 cases d with
 | none=>rfl
 | some d =>
  simp only [Act.put,aP,Act.mk.injEq,and_true]
  apply VV
  apply Vq
  intro i
  simp only [Array.toList_setIfInBounds,VC,UD,UH,Vw]
  by_cases hi:i < n
  ·simp only [VN hi,VM,jZ]
   by_cases hd:d = i
   ·subst hd; simp [hi]
   ·simp [hd]
  ·rw [UW (by simpa using hi)]
   by_cases hd:d = i
   ·subst hd; simp [hi]
   ·simp [hd]
theorem xP {n:Nat} {fr fr' : Fr} (ds:List Deferred) (h:∀ t,t < n->dE fr t = dE fr' t):aP n fr ds = aP n fr' ds:=by
 simp only [aP,Act.mk.injEq,and_true]
 congr 1
 exact VO λt ht=>h t (by simpa using ht)

def br:Bool->Prop->Prop->Prop
 | true,a,_=>a
 | false,_,b=>b
theorem aa {c:Bool} {a b:Prop} (h1:c = true->a) (h2:c = false->b):br c a b:=by
 cases c
 ·exact h2 rfl
 ·exact h1 rfl
def TA (v:Value) (a b:Prop):Prop:=match v with | .bool c=>br c a b | _=>False
def SF (c:Bool) (k:Bool->Prop):Prop:=br c (k true) (k false)
theorem Ka {c:Bool} {k:Bool->Prop} (h:SF c k):k c:=by cases c <;> exact h
def nn (a:Wr) (k:Addr->Prop):Prop:=match a with | some x=>k x | none=>False
def aw (z:Int):Prop:=-9223372036854775808<=z/\z<=9223372036854775807
def Kb (z:Int):Int:=IntKind.i64.wrap z
theorem C_ {z:Int} (h:aw z):IntKind.i64.wrap z = z:=IntWalk.i64_in z ⟨h.1,h.2⟩

def G2:List Value->Nat->Value->List Value
 | [],_,_=>[]
 | _ :: l,0,v=>v :: l
 | x :: l,n + 1,v=>x :: G2 l n v
theorem Iu:∀ (l:List Value) (n:Nat) (v:Value),G2 l n v = l.set n v
 | [],_,_=>rfl
 | _ :: _,0,_=>rfl
 | x :: l,n + 1,v=>by simp [G2,Iu l n v]
def rowAt (w:Ws) (a:Addr) (i:Nat):Nat->Option (List Value)
 | 0=>some []
 | n + 1=>match w.cell? (a.add i),rowAt w a (i + 1) n with
  | some v,some vs=>some (v :: vs)
  | _,_=>none
def Sx (w:Ws) (a:Addr) (i:cB) (k:Value->Prop):Prop :=
 match i.zero with
 | none=>False
 | some z=>match i.kd.isAgg,S1.of z with
  | true,.agg l=>Sw l λvs=>rowAt w a 0 i.size = some vs/\k (.agg ⟨vs⟩)
  | false,.one c=>c.ex λv=>w.cell? a = some v/\k v
  | _,_=>False
def aH:Value->Bool
 | .agg _ | .tuple _=>false
 | _=>true
def bW (w:Ws) (a:Addr) (i:Nat):List Value->Ws
 | []=>w
 | v :: l=>bW (w.setCell (a.add i) v) a (i + 1) l
def jh (w:Ws) (a:Addr) (i:Nat):List Value->Prop
 | []=>True
 | v :: l=>aH v = true/\(∃ u,w.cell? (a.add i) = some u)/\w.frozen? (a.add i) = false/\jh w a (i + 1) l
def st1 (w:Ws) (a:Addr) (v:Value) (k:Ws->Prop):Prop :=
 (∃ u,w.cell? a = some u)/\w.frozen? a = false/\aH v = true/\∀ w',w' = w.setCell a v->k w'
def cG (w:Ws) (a:Addr) (vs:List Value) (k:Ws->Prop):Prop :=
 jh w a 0 vs/\∀ w',w' = bW w a 0 vs->k w'
def cellsOf:Value->List Value
 | .agg cs=>cs.toList
 | v=>[v]
def xQ:List Value->Nat->Bool
 | [],n=>Nat.beq n 0
 | _ :: l,n=>match n with
  | n + 1=>xQ l n
  | 0=>false
theorem pJ:∀ (l:List Value) (n:Nat),xQ l n = true->l.length = n
 | [],n,h=>by simp [xQ] at h; simp [h]
 | _ :: l,0,h=>by simp [xQ] at h
 | _ :: l,n + 1,h=>by simp [pJ l n h]
def TB:List Value->Nat->Bool
 | [],_=>true
 | _ :: l,n + 1=>TB l n
 | _,_=>false
theorem Lw:∀ (l:List Value) (n:Nat),TB l n = true->l.length<=n
 | [],_,_=>UM _
 | _ :: l,n + 1,h=>by have:=Lw l n h; simp; omega
def TC:Nat->List Value->Bool
 | 0,_=>true
 | n + 1,_ :: l=>TC n l
 | _,_=>false
theorem Lx:∀ (n:Nat) (l:List Value),TC n l = true->n<=l.length
 | 0,_,_=>UM _
 | n + 1,_ :: l,h=>by have:=Lx n l h; simp; omega
def TD (w:Ws) (a:Addr) (i:cB) (v:Value) (k:Ws->Prop):Prop :=
 match i.kd.isAgg,v with
 | true,.agg cs=>bif xQ cs.toList i.size then cG w a cs.toList k else False
 | false,v=>bif Nat.beq i.size 1 then st1 w a v k else False
 | _,_=>False
def new (w:Ws) (o:Obj) (k:Nat->Ws->Prop):Prop:=∀ b w',b = w.heap.size->w' = { w with heap:=w.heap.push o }->k b w'

abbrev Hp:=Nat->Option Obj
abbrev au:=Hp->Prop
def G3:Option Obj->Option Obj
 | some (.deferred _)=>none
 | o=>o
theorem mM {x:Option Obj} {o:Obj} (h:G3 x = some o):x = some o:=by
 unfold G3 at h; split at h
 ·cases h
 ·exact h
def ED:Obj->Bool
 | .deferred _=>false
 | _=>true
theorem zq {o:Obj} (h:ED o = true):G3 (some o) = some o:=by cases o <;> first | rfl | cases h
def hp (w:Ws):Hp:=λb=>G3 w.heap[b]?
theorem SG {w:Ws} {b:Nat} (h:w.heap.size<=b):hp w b = none:=by simp [hp,G3,h]
def sub (a b:Hp):Prop:=∀ k o,a k = some o->b k = some o
def Da (a b:Hp):Prop:=∀ k,a k = none\/b k = none
theorem sub.refl (a:Hp):sub a a:=λ_ _ h=>h
theorem sub.trans {a b c:Hp} (h:sub a b) (k:sub b c):sub a c:=λx o hx=>k x o (h x o hx)
theorem Da.symm {a b:Hp} (h:Da a b):Da b a:=λk=>(h k).symm
theorem Da.sub {a b c d:Hp} (h:Da a b) (h1:sub c a) (h2:sub d b):Da c d:=by
 intro k
 rcases h k with h | h
 ·left; cases hc:c k with
  | none=>rfl
  | some o=>rw [h1 k o hc] at h; cases h
 ·right; cases hc:d k with
  | none=>rfl
  | some o=>rw [h2 k o hc] at h; cases h
def Lp (a b:Hp):Hp:=λk=>match a k with | some o=>some o | none=>b k
theorem q9 (a b:Hp):sub a (Lp a b):=λk o h=>by simp [Lp,h]
theorem q_ {a b:Hp} (h:Da a b):sub b (Lp a b):=λk o hb=>by
 rcases h k with h | h
 ·simp [Lp,h,hb]
 ·rw [h] at hb; cases hb
theorem yV {a b c:Hp} (h1:sub a c) (h2:sub b c):sub (Lp a b) c:=λk o h=>by
 unfold Lp at h; split at h
 ·rename_i o' ho; cases h; exact h1 k _ ho
 ·exact h2 k o h
theorem yW {a b c:Hp} (h1:Da a c) (h2:Da b c):Da (Lp a b) c:=by
 intro k
 rcases h1 k with h | h
 ·rcases h2 k with h' | h'
  ·left; simp [Lp,h,h']
  ·exact .inr h'
 ·exact .inr h
def aG:List au->au
 | [],_=>True
 | A :: L,h=>∃ h1 h2,Da h1 h2/\sub h1 h/\sub h2 h/\A h1/\aG L h2
theorem iR:∀ {L:List au} {h h' : Hp},aG L h->sub h h'->aG L h'
 | [],_,_,_,_=>trivial
 | A :: L,h,h',⟨h1,h2,d,s1,s2,ha,hl⟩,s=>⟨h1,h2,d,s1.trans s,s2.trans s,ha,hl⟩
theorem nS {A B:au} {L:List au} {h:Hp}:aG (A :: B :: L) h->aG (B :: A :: L) h
 | ⟨h1,h2,d,s1,s2,ha,h3,h4,d',s3,s4,hb,hl⟩ =>
  have d14:Da h1 h4:=d.sub (sub.refl _) s4
  ⟨h3,Lp h1 h4,(yW (d.sub (sub.refl _) s3) d'.symm).symm,s3.trans s2,yV s1 (s4.trans s2),hb,h1,h4,d14,q9 _ _,q_ d14,ha,hl⟩
theorem pK {A:au} {L L' : List au} {h:Hp} (hm:∀ h,aG L h->aG L' h):aG (A :: L) h->aG (A :: L') h
 | ⟨h1,h2,d,s1,s2,ha,hl⟩=>⟨h1,h2,d,s1,s2,ha,hm _ hl⟩
theorem G4 {A B:au} {L:List au} {h:Hp} (hm:∀ h,A h->B h):aG (A :: L) h->aG (B :: L) h
 | ⟨h1,h2,d,s1,s2,ha,hl⟩=>⟨h1,h2,d,s1,s2,hm _ ha,hl⟩
theorem aQ {A:au} {L:List au} {h:Hp}:aG (A :: L) h->aG L h
 | ⟨h1,h2,d,s1,s2,ha,hl⟩=>iR hl s2
theorem G5 {L L' : List au} (p:L.Perm L'):∀ {h:Hp},aG L h->aG L' h:=by
 induction p with
 | nil=>exact λh=>h
 | cons A p ih=>exact λh=>pK (λ_=>ih) h
 | swap A B l=>exact λh=>nS h
 | trans p q ih1 ih2=>exact λh=>ih2 (ih1 h)
def aT (M:List au):au:=aG M
theorem kG:∀ {M L:List au} {h:Hp},aG (aT M :: L) h↔aG (M ++ L) h
 | [],L,h=>⟨λ⟨h1,h2,d,s1,s2,ha,hl⟩=>iR hl s2,λhl=>⟨λ_=>none,h,λ_=>.inl rfl,λ_ _ h=>(nomatch h),sub.refl _,trivial,hl⟩⟩
 | A :: M,L,h=>by
  constructor
  ·rintro ⟨h1,h2,d,s1,s2,⟨h3,h4,d',s3,s4,ha,hm⟩,hl⟩
   have d42:Da h4 h2:=d.sub s4 (sub.refl _)
   exact ⟨h3,Lp h4 h2,(yW d'.symm (d.symm.sub (sub.refl _) s3)).symm,s3.trans s1,yV (s4.trans s1) s2,ha,kG.1 ⟨h4,h2,d42,q9 _ _,q_ d42,hm,hl⟩⟩
  ·rintro ⟨h1,h2,d,s1,s2,ha,hr⟩
   obtain ⟨h3,h4,d',s3,s4,hm,hl⟩:=kG.2 hr
   have d13:Da h1 h3:=d.sub (sub.refl _) s3
   exact ⟨Lp h1 h3,h4,yW (d.sub (sub.refl _) s4) d',yV s1 (s3.trans s2),s4.trans s2,⟨h1,h3,d13,q9 _ _,q_ d13,ha,hm⟩,hl⟩
def ex {α : Type} (A:α->au):au:=λh=>∃ x,A x h
theorem Ly {α : Type} {A:α->au} {L:List au} {h:Hp}:aG (ex A :: L) h↔∃ x,aG (A x :: L) h :=
 ⟨λ⟨h1,h2,d,s1,s2,⟨x,ha⟩,hl⟩=>⟨x,h1,h2,d,s1,s2,ha,hl⟩,λ⟨x,h1,h2,d,s1,s2,ha,hl⟩=>⟨h1,h2,d,s1,s2,⟨x,ha⟩,hl⟩⟩
def pu (p:Prop):au:=λ_=>p
theorem Lz {p:Prop} {L:List au} {h:Hp}:aG (pu p :: L) h↔p/\aG L h :=
 ⟨λ⟨h1,h2,d,s1,s2,ha,hl⟩=>⟨ha,iR hl s2⟩,λ⟨hp,hl⟩=>⟨λ_=>none,h,λ_=>.inl rfl,λ_ _ h=>(nomatch h),sub.refl _,hp,hl⟩⟩
def blk (b:Nat) (o:Obj):au:=λh=>h b = some o
def one (b:Nat) (o:Obj):Hp:=λk=>if k = b then some o else none
theorem EE (b:Nat) (o:Obj):one b o b = some o:=by simp [one]
theorem Bl {b:Nat} {o:Obj} {L:List au} {h:Hp}:aG (blk b o :: L) h->h b = some o
 | ⟨h1,h2,d,s1,s2,ha,hl⟩=>s1 _ _ ha
theorem mi {b:Nat} {o o' : Obj} {L:List au} {h h' : Hp} (hs:aG (blk b o :: L) h) (h0:∀ k,k≠b->h' k = h k) (h1:h' b = some o'):aG (blk b o' :: L) h':=by
  obtain ⟨g1,g2,d,s1,s2,ha,hl⟩:=hs
  have hb : g2 b = none := by rcases d b with h | h; · rw [show g1 b = some o from ha] at h; cases h
                              · exact h
  refine ⟨one b o',g2,λk=>?_,λk x hk=>?_,λk x hk=>?_,EE b o',hl⟩
  · by_cases hk:k = b
    · subst hk; exact .inr hb
    · exact .inl (by simp [one,hk])
  · unfold one at hk; split at hk
    · rename_i e; cases hk; rw [e,h1]
    · cases hk
  · have hk' : k≠b:=λe=>by rw [e,hb] at hk; cases hk
    rw [h0 k hk']; exact s2 k x hk
theorem Bm {b:Nat} {o:Obj} {L:List au} {h h' : Hp} (hs:aG L h) (hb:h b = none) (h0:∀ k,k≠b->h' k = h k) (h1:h' b = some o):aG (blk b o :: L) h':=by
 refine ⟨one b o,h,λk=>?_,λk x hk=>?_,λk x hk=>?_,EE b o,hs⟩
 ·by_cases hk:k = b
  ·subst hk; exact .inr hb
  ·exact .inl (by simp [one,hk])
 ·unfold one at hk; split at hk
  ·rename_i e; cases hk; rw [e,h1]
  ·cases hk
 ·have hk' : k≠b:=λe=>by rw [e,hb] at hk; cases hk
  rw [h0 k hk']; exact hk
def has (h0:Hp):au:=λh=>sub h0 h
theorem kC {h0:Hp} {L:List au} {h:Hp}:aG (has h0 :: L) h->sub h0 h
 | ⟨h1,h2,d,s1,s2,ha,hl⟩=>sub.trans ha s1

def St (w:Ws) (L:List au):Prop:=aG L (hp w)
def sc:List au->Nat->au
 | [],_=>pu True
 | A :: _,0=>A
 | _ :: L,n + 1=>sc L n
section
variable {w w' : Ws} {L:List au} {A B:au}
theorem St.perm {L' : List au} (h:St w L) (p:L.Perm L'):St w L':=G5 p h
theorem St.swap {L:List au} {A B:au} (h:St w (A :: B :: L)):St w (B :: A :: L):=nS h
theorem St.EF {L:List au} {A B C:au} (h:St w (A :: B :: C :: L)):St w (C :: A :: B :: L):=nS (pK (λ_=>nS) h)
theorem St.tail (h:St w (A :: L)):St w L:=aQ h
theorem St.head (h:St w (A :: L)) (hm:∀ h,A h->B h):St w (B :: L):=G4 hm h
theorem St.flat {M:List au}:St w (aT M :: L)↔St w (M ++ L):=kG
theorem St.ex {α : Type} {A:α->au}:St w (V.ex A :: L)↔∃ x,St w (A x :: L):=Ly
theorem St.pu {p:Prop}:St w (V.pu p :: L)↔p/\St w L:=Lz
theorem St.get {b:Nat} {o:Obj} (h:St w (blk b o :: L)):w.heap[b]? = some o:=mM (Bl h)
theorem St.has {h0:Hp} (h:St w (V.has h0 :: L)):sub h0 (hp w):=kC h
theorem St.push (h:St w L) (o:Obj) (ho:ED o = true:=by rfl):St { w with heap:=w.heap.push o } (blk w.heap.size o :: L) :=
 Bm h (SG (US _)) (λk hk=>by simp [hp,Array.getElem?_push,hk]) (by simp [hp,zq ho])
theorem St.setObj {b:Nat} {o:Obj} (h:St w (blk b o :: L)) (o' : Obj) (ho:ED o' = true:=by rfl):St { w with heap:=w.heap.setIfInBounds b o' } (blk b o' :: L):=by
 have hb:=(Vd.1 h.get).1
 exact mi h (λk hk=>by simp [hp,VJ (Ne.symm hk)]) (by simp [hp,hb,zq ho])
theorem St.eq (h:St w L) (he:hp w' = hp w):St w' L:=by unfold St; rw [he]; exact h
theorem St.same (h:St w L) (he:w'.heap = w.heap):St w' L:=h.eq (by unfold hp; rw [he])
theorem St.setCell {b:Nat} {c:Array Value} {e:TypeId} {fz:Nat × Nat} (h:St w (blk b (.cells c e fz) :: L)) (i:Nat) (v:Value) :
  St (w.setCell ⟨b,i,none⟩ v) (blk b (.cells (c.setIfInBounds i v) e fz) :: L):=by
 have hg:=h.get
 refine mi h (λk hk=>?_) ?_
 ·simp only [hp,World.setCell,Vv]; rw [UE (λe=>hk e.symm)]
 ·simp only [hp,World.setCell,Vv]; simp [hg,G3]
theorem LA (w:Ws) (d:Option (List Deferred)):hp { w with heap:=w.heap.push (.deferred d) } = hp w:=by
 funext b
 simp only [hp,Array.getElem?_push]
 split
 ·rename_i e; subst e; simp [G3]
 ·rfl
theorem OS {w:Ws} {D:Nat} {d d' : Option (List Deferred)} (h:w.heap[D]? = some (.deferred d)):hp { w with heap:=w.heap.setIfInBounds D (.deferred d') } = hp w:=by
 funext b
 simp only [hp]
 by_cases hb:b = D
 ·subst hb
  rw [Array.getElem?_setIfInBounds_self_of_lt (Vd.1 h).1,h]; rfl
 ·rw [VJ (Ne.symm hb)]
theorem ft (h:hp w' = hp w) (a:Addr):w'.cell? a = w.cell? a:=by
 have hb:=congrFun h a.block
 simp only [hp] at hb
 unfold World.cell?
 cases h1:w'.heap[a.block]? with
 | none =>
  rw [h1] at hb
  cases h2:w.heap[a.block]? with
  | none=>rfl
  | some o=>rw [h2] at hb; cases o <;> first | rfl | cases hb
 | some o =>
  rw [h1] at hb
  cases h2:w.heap[a.block]? with
  | none=>rw [h2] at hb; cases o <;> first | rfl | cases hb
  | some o'=>rw [h2] at hb; cases o <;> cases o' <;> first | rfl | (cases hb; rfl) | cases hb
theorem EG (h:hp w' = hp w) (a:Addr):∀ (n i:Nat),rowAt w' a i n = rowAt w a i n
 | 0,i=>rfl
 | n + 1,i=>by simp only [rowAt,ft h,EG h a n]
end
def kx:IntKind->Nat
 | .i8=>0 | .i16=>1 | .i32=>2 | .i64=>3 | .u8=>4 | .u16=>5 | .u32=>6 | .u64=>7
theorem LB {a b:IntKind} (h:Nat.beq (kx a) (kx b) = true):a = b:=by
 have:=V7 h
 cases a <;> cases b <;> simp_all [kx]
def EH (wd:Bool) (k:IntKind) (z:Int) (K:Value->Prop):Prop :=
 match k with
 | .i64=>(match wd with | true=>K (.int .i64 (Kb z)) | false=>aw z/\K (.int .i64 z))
 | k=>K (.int k (k.wrap z))
def kH (op:BinOp) (k:IntKind) (x y:Int):Int :=
 match op with
 | .and=>k.wrap ((BitVec.ofInt k.bits x) &&& (BitVec.ofInt k.bits y)).toNat
 | .or=>k.wrap ((BitVec.ofInt k.bits x) ||| (BitVec.ofInt k.bits y)).toNat
 | .xor=>k.wrap ((BitVec.ofInt k.bits x) ^^^ (BitVec.ofInt k.bits y)).toNat
 | _=>k.wrap ((BitVec.ofInt k.bits x) &&& ~~~(BitVec.ofInt k.bits y)).toNat
def LC (k:IntKind) (a b:Int):Int:=k.wrap (a * 2 ^ (min b.toNat k.bits))
def bw (k:IntKind) (a b:Int):Int:=a.fdiv (2 ^ (min b.toNat k.bits))
def nz (b:Int):Prop:=b≠0
def ns (b:Int):Prop:=0<=b
def Db (i:Int) (n:Nat):Prop:=0<=i/\i < n
def Dc (l c:Int) (b:Nat):Prop:=0<=l/\l = c/\b * l<=140737488355328
def LD (wd:Bool) (op:BinOp) (k:IntKind) (a b:Int) (K:Value->Prop):Prop :=
 match op with
 | .add=>EH wd k (a + b) K
 | .sub=>EH wd k (a - b) K
 | .mul=>EH wd k (a * b) K
 | .quo=>nz b/\EH false k (a.tdiv b) K
 | .rem=>nz b/\K (.int k (a.tmod b))
 | .and=>K (.int k (kH .and k a b))
 | .or=>K (.int k (kH .or k a b))
 | .xor=>K (.int k (kH .xor k a b))
 | .andNot=>K (.int k (kH .andNot k a b))
 | .eql=>K (.bool (a == b))
 | .neq=>K (.bool (a != b))
 | .lss=>K (.bool (decide (a < b)))
 | .leq=>K (.bool (decide (a<=b)))
 | .gtr=>K (.bool (decide (b < a)))
 | .geq=>K (.bool (decide (b<=a)))
 | .shl=>ns b/\K (.int k (LC k a b))
 | .shr=>ns b/\K (.int k (bw k a b))
def Dd:BinOp->Bool
 | .shl | .shr=>true
 | _=>false
def LF (op:BinOp) (x y:ByteArray) (K:Value->Prop):Prop :=
 match op with
 | .add=>(x.size:Int) + y.size<=9223372036854775807/\K (.string (x ++ y))
 | .eql=>K (.bool (x.toList == y.toList))
 | .neq=>K (.bool (!(x.toList == y.toList)))
 | .lss=>K (.bool (Op.bytesLess x.toList y.toList))
 | .leq=>K (.bool (Op.bytesLess x.toList y.toList || x.toList == y.toList))
 | .gtr=>K (.bool (!(Op.bytesLess x.toList y.toList || x.toList == y.toList)))
 | .geq=>K (.bool (!Op.bytesLess x.toList y.toList))
 | _=>False
def Qx (op:BinOp) (t:Bool) (K:Value->Prop):Prop :=
 match op with
 | .eql=>K (.bool t)
 | .neq=>K (.bool (!t))
 | _=>False
def ah (Ty:TypeId->Option cB) (t:TypeId):Kd:=match Ty t with | some i=>i.kd | none=>.other
def Uf (Ty:TypeId->Option cB) (t:TypeId):Bool:=match Ty t with | some i=>(match i.cmp with | true=>false | false=>true) | none=>false
def BR (Ty:TypeId->Option cB) (t:TypeId):Option Nat:=match Ty t with | some i=>some i.size | none=>none
def Qy:Kd->Bool
 | .ptr _=>true
 | _=>false
def Iv:Kd->Bool
 | .slice _=>true
 | _=>false
def Qz:Kd->Bool
 | .map ..=>true
 | _=>false
def fu (op:BinOp) (t:TypeId) (xo yo:Operand) (x y:Value):Sem Value:=do eqGuard op t xo yo x y; Go.binOp op t x y
def TE (op:BinOp) (t:Bool) (K:Bool->Prop):Prop :=
 match op with
 | .eql=>K t
 | .neq=>K (!t)
 | _=>False
def QY (Ty:TypeId->Option cB) (rs:Sem Value->(Value->Prop)->Prop) (op:BinOp) (t:TypeId) (xo yo:Operand) (a b:Wr) (K:Bool->Prop):Prop :=
 match b with
 | none=>bif Qy (ah Ty t) then TE op a.isNone K else False
 | some b=>rs (fu op t xo yo (.pointer a) (.pointer (some b))) λv=>∃ q,v = .bool q/\K q
def QZ (Ty:TypeId->Option cB) (rs:Sem Value->(Value->Prop)->Prop) (op:BinOp) (t:TypeId) (xo yo:Operand) (x y:Value) (K:Value->Prop):Prop :=
 match x,y with
 | .int k a,.int k' b=>bif Dd op || Nat.beq (kx k) (kx k') then LD (Uf Ty t) op k a b K else False
 | .string a,.string b=>LF op a b K
 | .bool a,.bool b=>(match ah Ty t with | .bool=>Qx op (a == b) K | _=>False)
 | .pointer a,.pointer b=>QY Ty rs op t xo yo a b λq=>K (.bool q)
 | .slice a _ _,.slice none _ _=>bif Iv (ah Ty t) then Qx op a.isNone K else False
 | .func (.func _) _ _,.nilFunc=>(match ah Ty t with | .func=>Qx op false K | _=>False)
 | .map a,.map none=>bif Qz (ah Ty t) then Qx op a.isNone K else False
 | x,y=>rs (fu op t xo yo x y) λv=>∃ b,v = .bool b/\K (.bool b)

def EI:List Value->List Value->List Value
 | [],m=>m
 | x :: l,m=>x :: EI l m
theorem yX:∀ l m,EI l m = l ++ m
 | [],_=>rfl
 | x :: l,m=>by simp [EI,yX l m]
def BS:Nat->List Value->List Value
 | 0,_=>[]
 | n + 1,z=>EI z (BS n z)
def lD:Nat->List Value->List Value
 | 0,_=>[]
 | n + 1,z=>z ++ lD n z
def setMany (cells:List Value) (off:Nat):List Value->List Value
 | []=>cells
 | v :: l=>setMany (G2 cells off v) (off + 1) l
def uH (place:Nat->Option (Nat × Nat)) (cells:List Value):List (Nat × Value)->Option (List Value)
 | []=>some cells
 | (i,v) :: rest =>
  match place i with
  | none=>none
  | some (off,size)=>bif xQ (cellsOf v) size && TC (off + size) cells then uH place (setMany cells off (cellsOf v)) rest else none
def LG (o:Option (List Value)) (k:List Value->Prop):Prop:=match o with | some l=>k l | none=>False
def xR (fr:Fr):List (Nat × Operand)->List (Nat × Value)
 | []=>[]
 | (i,x) :: l=>(i,ev fr x) :: xR fr l
def zr (fs:List (Nat × Nat × Bool)) (i:Nat):Option (Nat × Nat):=match fs[i]? with | some (o,s,_)=>some (o,s) | none=>none

def TF (ad:Addr) (n:Nat):Addr:=bif Nat.beq n 0 then ad else ad.add n
theorem Q0 (ad:Addr) (n:Nat):TF ad n = ad.add n:=by
 cases n
 ·simp [TF,Addr.add]
 ·rfl
def cR (i:Nat):Nat->Nat
 | 1=>i
 | sz=>i * sz
theorem aF (i sz:Nat):cR i sz = i * sz:=by unfold cR; split <;> simp
def idx (a:Wr) (len:Nat) (i:Int) (sz:Nat) (k:Addr->Prop):Prop :=
 ∃ ad,a = some ad/\0<=i/\i < len/\k (ad.add (cR i.toNat sz))
def sb (s:ByteArray) (n:Nat):UInt8:=(s.data[n]?).getD 0
def eJ (a:Wr) (l m sz:Nat):Wr:=if m = l then a else a.map (·.add (cR l sz))
def lV (a:Wr) (len cap:Nat) (lo hi mx:Option Int) (sz:Nat) (k:Wr->Nat->Nat->Prop):Prop :=
 let m:Int:=mx.getD cap
 let h:Int:=hi.getD len
 let l:Int:=lo.getD 0
 (mx = none\/(hi≠none/\0<=m/\m<=cap))/\(hi = none\/(0<=h/\h<=m))/\(0<=l/\l<=h) /\
  k (eJ a l.toNat m.toNat sz) (h.toNat - l.toNat) (m.toNat - l.toNat)
def SH (s:ByteArray) (lo hi:Option Int) (k:ByteArray->Prop):Prop :=
 let h:Int:=hi.getD s.size
 let l:Int:=lo.getD 0
 (hi = none\/(0<=h/\h<=s.size))/\(0<=l/\l<=h)/\k (s.extract l.toNat h.toNat)
def Iw (fr:Fr) (x:Option Operand) (k:Option Int->Prop):Prop :=
 match x with
 | none=>k none
 | some x=>match ev fr x with
  | .int _ n=>k (some n)
  | _=>False
def QA (l c:Int) (i:cB) (e:TypeId) (w:Ws) (k:Value->Ws->Prop):Prop :=
 match i.zero with
 | some z=>Dc l c i.bytes/\new w (.cells ⟨lD l.toNat (cellsOf z)⟩ e) λb w'=>k (.slice (some ⟨b,0,none⟩) l.toNat l.toNat) w'
 | none=>False
def TG (P:Program) (E:Ws->Ws->Prop) (l:Nat) (args:List Value) (w:Ws) (R:Value->Ws->Prop):Prop :=
 ∃ f tmps assign body,(Instr.yield l ⟨args⟩).run P w = .ok (.round l f tmps assign body) w /\
  RoundIn Fence.wide 0 P l f tmps assign body w λe w'=>∃ v,e = .returned v/\E w w'/\R v w'
def QB (v:Value) (i:Nat) (k:Value->Prop):Prop :=
 match v with
 | .tuple vs=>(match vs.toList[i]? with | some u=>k u | none=>False)
 | _=>False
def SI (v:Value) (f:Option (Nat × Nat × Bool)) (k:Value->Prop):Prop :=
 match v,f with
 | .agg cs,some (o,s,true)=>k (.agg ⟨(cs.toList.drop o).take s⟩)
 | .agg cs,some (o,_,false)=>(match cs.toList[o]? with | some u=>k u | none=>False)
 | _,_=>False
def QC (v:Value) (sh:Sh) (k:Value->Prop):Prop :=
 (v = .tuple #[.bool false]/\k (.tuple #[.bool false]))\/(match sh with
  | .tup (_ :: l)=>QX l λus=>v = .tuple ⟨.bool true :: us⟩/\k (.tuple ⟨.bool true :: us⟩)
  | .tup []=>∃ (n:Int) (u:Value),v = .tuple ⟨[.bool true,.int .i64 n,u]⟩/\k (.tuple ⟨[.bool true,.int .i64 n,u]⟩)
  | _=>False)
def Q1 (v:Value) (sh:Sh) (k:Value->Prop):Prop :=
 match sh with
 | .tup []=>∃ (n:Int) (u:Value),v = .tuple ⟨[.int .i64 n,u]⟩/\k (.tuple ⟨[.int .i64 n,u]⟩)
 | .tup l=>QX l λus=>v = .tuple ⟨us⟩/\k (.tuple ⟨us⟩)
 | _=>False
def yj (first args cap:List Value):List Value:=EI first (EI args cap)
theorem De (f a c:List Value):yj f a c = f ++ a ++ c:=by simp [yj,yX]
def uI:Bool->Prop->Prop
 | true,p=>p
 | false,_=>False
theorem bz {c:Bool} {p:Prop}:uI c p↔c = true/\p:=by cases c <;> simp [uI]
def T9 (d c:Bool) (p q:Prop):Prop:=match d with
 | true=>(match c with | true=>p | false=>q)
 | false=>uI c p
def isDir:Operand->Bool
 | .func _=>true
 | _=>false
def Q2 (P:Program) (g:FuncId) (args:List Value) (w:Ws) (R:Value->Ws->Prop):Prop:=∃ v w',(callFunc g ⟨args⟩).run P w = .ok (.value v) w'/\Ev w w'/\R v w'
def LH (P:Program) (Fn:FuncId->Bool) (E:Ws->Ws->Prop) (f:Value) (args:List Value) (sh:Sh) (w:Ws) (K:Value->Ws->Prop) (d:Bool):Prop :=
 match f with
 | .func (.func g) first cap=>T9 d (Fn g) (r_ P E g (yj first.toList args cap.toList) w λv w'=>sh.is v λu=>K u w') (Q2 P g (yj first.toList args cap.toList) w λv w'=>sh.is v λu=>K u w')
 | .func (.yield l) first _=>TG P E l (EI first.toList args) w λv w'=>sh.is v λu=>K u w'
 | _=>False
def TH (P:Program) (w:Ws) (s:Sem Value) (k:Value->Prop):Prop:=∃ v,s.run P w = .ok v w/\k v
def Ug (P:Program) (C:Ws->Prop) (s:Sem Value) (k:Value->Prop):Prop:=∃ v,(∀ w,C w->s.run P w = .ok v w)/\k v
def TI (C:Ws->Prop) (a:Addr) (i:cB) (k:Value->Prop):Prop :=
 match i.zero with
 | none=>False
 | some z=>match i.kd.isAgg,S1.of z with
  | true,.agg l=>Sw l λvs=>(∀ w,C w->rowAt w a 0 i.size = some vs)/\k (.agg ⟨vs⟩)
  | false,.one c=>c.ex λv=>(∀ w,C w->w.cell? a = some v)/\k v
  | _,_=>False

def Ix:Kd->Bool | .int _=>true | _=>false
def T_ (b:Bool) (rs:Sem Value->(Value->Prop)->Prop):Sem Value->(Value->Prop)->Prop:=match b with | true=>λ_ _=>False | false=>rs
def pM (P:Program) (Ty:TypeId->Option cB) (ld:Addr->cB->(Value->Prop)->Prop) (rs:Sem Value->(Value->Prop)->Prop) (o:Oper) (fr:Fr) (K:Value->Prop):Prop :=
 match o.op with
 | .move x=>K (ev fr x)
 | .assign x=>K (ev fr x)
 | .pick c a b=>(match ev fr c with | .bool t=>K (match t with | true=>ev fr a | false=>ev fr b) | _=>False)
 | .build t ps=>(match Ty t with
  | some i=>(match i.zero,i.kd with
   | some z,.struct=>LG (uH (zr i.flds) (cellsOf z) (xR fr ps.toList)) λcs=>K (.agg ⟨cs⟩)
   | some z,.array _ e=>(match BR Ty e with | some s=>LG (uH (λk=>some (k * s,s)) (cellsOf z) (xR fr ps.toList)) λcs=>K (.agg ⟨cs⟩) | none=>False)
   | _,_=>False)
  | none=>False)
 | .load t x=>(match ev fr x,Ty t with
  | .pointer a,some i=>nn a λad=>ld ad i K
  | _,_=>False)
 | .nilCheck x=>(match ev fr x with
  | .pointer a=>nn a λad=>K (.pointer (some ad))
  | .func (.func f) first cap=>K (.func (.func f) first cap)
  | .func (.yield f) first cap=>K (.func (.yield f) first cap)
  | _=>False)
 | .binOp op t x y _=>QZ Ty (T_ (Ix (ah Ty t)) rs) op t x y (ev fr x) (ev fr y) K
 | .unOp op _ x=>(match op,ev fr x with
  | .not,.bool b=>K (.bool (!b))
  | .neg,.int k n=>EH false k (0 - n) K
  | .xor,.int k n=>K (.int k (kH .xor k (if k.signed then -1 else k.max) n))
  | _,_=>False)
 | .convert s d x=>(match ah Ty s,ah Ty d,ev fr x with
  | .int _,.int k,.int _ n=>EH false k n K
  | .string,.string,.string s=>K (.string s)
  | _,_,_=>False)
 | .makeInterface t x=>(match Ty t with | some i=>(match i.kd with | .iface=>False | _=>K (.iface t (ev fr x))) | none=>False)
 | .makeFunc fn first cap=>K (.func fn ⟨wq fr first.toList⟩ ⟨wq fr cap.toList⟩)
 | .slice t x lo hi mx=>(match ah Ty t,ev fr x with
  | .slice e,.slice a len cap=>(match BR Ty e with
   | some sz=>Iw fr lo λlo=>Iw fr hi λhi=>Iw fr mx λmx=>lV a len cap lo hi mx sz λa l c=>K (.slice a l c)
   | none=>False)
  | .string,.string s=>(match mx with | none=>Iw fr lo λlo=>Iw fr hi λhi=>SH s lo hi λs=>K (.string s) | some _=>False)
  | _,_=>False)
 | .fieldAddr s x f=>(match Ty s,ev fr x with
  | some i,.pointer a=>(match i.kd,i.flds[f]? with
   | .struct,some (off,sz,_)=>bif Nat.ble 1 sz then nn a λad=>K (.pointer (some (TF ad off))) else False
   | _,_=>False)
  | _,_=>False)
 | .field t x f=>(match Ty t with
  | some i=>(match i.kd with | .struct=>SI (ev fr x) (i.flds[f]?) K | _=>False)
  | none=>False)
 | .indexAddr t x ix=>(match ah Ty t,ev fr x,ev fr ix with
  | .slice e,.slice a len cap,.int _ i=>(match BR Ty e with | some sz=>idx a len i sz λad=>K (.pointer (some ad)) | none=>False)
  | .array n e,.pointer a,.int _ i=>(match BR Ty e with | some sz=>idx a n i sz λad=>K (.pointer (some ad)) | none=>False)
  | _,_,_=>False)
 | .index t x ix=>(match ah Ty t,ev fr x,ev fr ix with
  | .string,.string s,.int _ i=>Db i s.size/\K (.int .u8 (sb s i.toNat).toNat)
  | _,x,y=>rs (Instr.index t x y) λv=>(Is Ty o.type).is v K)
 | .extract t i=>QB (ev fr t) i K
 | .call c=>(match c.callee,wq fr c.args.toList with
  | .builtin .len,[.slice a l cap]=>(match c.argTypes.toList with | t :: _=>bif Iv (ah Ty t) then K (.int .i64 l) else False | _=>False)
  | .builtin .len,[.string s]=>(match c.argTypes.toList with | t :: _=>(match ah Ty t with | .string=>K (.int .i64 s.size) | _=>False) | _=>False)
  | .builtin .len,args=>rs (Builtin.len_ c.argTypes o.type ⟨args⟩) λv=>(Is Ty o.type).is v K
  | .builtin .min,[.int k a,.int _ b]=>K (.int k (if b < a then b else a))
  | .builtin .max,[.int k a,.int _ b]=>K (.int k (if a < b then b else a))
  | _,_=>False)
 | _=>False
def dL (Ty:TypeId->Option cB) (o:Oper):Bool :=
 match o.op with
 | .move _ | .assign _ | .pick .. | .build .. | .load .. | .nilCheck _ | .binOp .. | .unOp .. | .makeInterface .. | .makeFunc .. | .slice .. | .fieldAddr .. | .field .. | .indexAddr .. | .index .. | .extract ..=>true
 | .convert s d _=>(match ah Ty s,ah Ty d with
  | .int _,.int _=>true
  | .string,.string=>true
  | _,_=>false)
 | .call c=>(match c.callee with
  | .builtin .len | .builtin .min | .builtin .max=>true
  | _=>false)
 | _=>false
def Ua (P:Program) (Ty:TypeId->Option cB) (b:Builtin) (tys:Array TypeId) (ty:TypeId) (args:List Value) (w:Ws) (K:Value->Ws->Prop):Prop :=
 match b with
 | .append=>aU P (Builtin.append_ tys ty ⟨args⟩) w λv w'=>(Is Ty ty).is v λu=>K u w'
 | .copy=>aU P (Builtin.copy_ tys ty ⟨args⟩) w λv w'=>(Is Ty ty).is v λu=>K u w'
 | .delete=>aU P (Builtin.delete_ tys ty ⟨args⟩) w λv w'=>K v w'
 | .clear=>aU P (Builtin.clear_ tys ty ⟨args⟩) w λv w'=>K v w'
 | .cap=>aU P (Builtin.cap_ tys ty ⟨args⟩) w λv w'=>(Is Ty ty).is v λu=>K u w'
 | .unsafeSliceData=>aU P (Builtin.unsafeSliceData_ tys ty ⟨args⟩) w λv w'=>(Is Ty ty).is v λu=>K u w'
 | .unsafeString=>aU P (Builtin.unsafeString_ tys ty ⟨args⟩) w λv w'=>(Is Ty ty).is v λu=>K u w'
 | _=>False

def Q3 (Ty:TypeId->Option cB) (t:TypeId):Sh:=match ah Ty t with
 | .map _ e=>(match Is Ty e with | .s s=>.tup [s,.one (.int .i64)] | h=>h)
 | _=>.s (.one .val)
def LI (P:Program) (Ty:TypeId->Option cB) (Fn:FuncId->Bool) (E:Ws->Ws->Prop) (o:Oper) (fr:Fr) (w:Ws) (K:Value->Ws->Prop):Prop :=
 match o.op with
 | .alloc t=>(match Ty t with
  | some i=>(match i.zero with | some z=>new w (.cells ⟨cellsOf z⟩ t) λb w'=>K (.pointer (some ⟨b,0,none⟩)) w' | none=>False)
  | none=>False)
 | .box t x=>new w (.cells ⟨cellsOf (ev fr x)⟩ t) λb w'=>K (.pointer (some ⟨b,0,none⟩)) w'
 | .buildSlice t n ps=>(match ah Ty t with
  | .slice e=>(match Ty e with
   | some i=>(match i.zero with
    | some z=>bif xQ (cellsOf z) i.size && (Nat.ble n 4096 && Nat.ble i.size 4096) && Nat.ble 1 i.size then LG (uH (λk=>some (k * i.size,i.size)) (BS n (cellsOf z)) (xR fr ps.toList)) λcs=>new w (.cells ⟨cs⟩ e) λb w'=>K (.slice (some ⟨b,0,none⟩) n n) w' else False
    | none=>False)
   | none=>False)
  | _=>False)
 | .store t a x=>(match ev fr a,Ty t with
  | .pointer a,some i=>nn a λad=>TD w ad i (ev fr x) λw'=>K undef w'
  | _,_=>False)
 | .convert s d x=>aU P (Go.convert s d (ev fr x)) w λv w'=>(Is Ty d).is v λu=>K u w'
 | .makeMap t none=>new w (.map #[] 0) λb w'=>K (.map (some b)) w'
 | .makeSlice t l c=>(match ah Ty t with
  | .slice e=>(match Ty e,ev fr l,ev fr c with
   | some i,.int _ l,.int _ c=>bif (match i.zero with | some z=>xQ (cellsOf z) i.size | none=>false) && Nat.ble 1 i.bytes && Nat.ble 1 i.size then QA l c i e w K else False
   | _,_,_=>False)
  | _=>False)
 | .lookup t m k ok=>aU P (Instr.lookup t (ev fr m) (ev fr k) ok) w λv w'=>(Is Ty o.type).is v λu=>K u w'
 | .mapUpdate t m k x=>aU P (Instr.mapUpdate t (ev fr m) (ev fr k) (ev fr x)) w λ_ w'=>K undef w'
 | .insert t m k x=>aU P (Instr.mapUpdate t (ev fr m) (ev fr k) (ev fr x)) w λ_ w'=>K undef w'
 | .mapEntry t m k=>aU P (Instr.mapEntry t (ev fr m) (ev fr k)) w λv w'=>(Q3 Ty t).is v λu=>K u w'
 | .entryStore t m s x=>aU P (Instr.entryStore t (ev fr m) (ev fr s) (ev fr x)) w λ_ w'=>K undef w'
 | .range t x=>aU P (Instr.range t (ev fr x)) w λv w'=>(Sh.s (.one .ptr)).is v λu=>K u w'
 | .next it isS=>aU P (Instr.next (ev fr it) isS o.type) w λv w'=>QC v (match isS with | true=>.tup [.one .bool,.one (.int .i64),.one (.int .i32)] | false=>Is Ty o.type) λu=>K u w'
 | .entry it=>aU P (Instr.entry (ev fr it)) w λv w'=>Q1 v (Is Ty o.type) λu=>K u w'
 | .typeAssert x t u ok=>aU P (Instr.typeAssert (ev fr x) t u ok) w λv w'=>(Is Ty o.type).is v λu=>K u w'
 | .call c=>(match c.callee with
  | .builtin b=>Ua P Ty b c.argTypes o.type (wq fr c.args.toList) w K
  | .value f=>LH P Fn E (ev fr f) (wq fr c.args.toList) (Is Ty o.type) w K (isDir f)
  | _=>False)
 | _=>False

def Iy (P:Program) (Ty:TypeId->Option cB) (Fn:FuncId->Bool) (E:Ws->Ws->Prop) (o:Oper) (fr:Fr) (w:Ws) (K:Value->Ws->Prop):Prop :=
 bif dL Ty o then pM P Ty (Sx w) (TH P w) o fr λv=>K v w else LI P Ty Fn E o fr w K

def Cs.arr:Cs->Type->Type
 | .int _,β=>Int->β
 | .bool,β=>Bool->β
 | .str,β=>ByteArray->β
 | .slice,β=>Wr->Nat->Nat->β
 | .ptr,β=>Wr->β
 | .map,β=>Option Nat->β
 | .fn,β=>FuncId->List Value->β
 | .val,β=>Value->β
def Kc:List Cs->Type->Type
 | [],β=>β
 | c :: l,β=>c.arr (Kc l β)
def S1.arr:S1->Type->Type
 | .one c,β=>c.arr β
 | .agg l,β=>Kc l β
def zt:List S1->Type->Type
 | [],β=>β
 | c :: l,β=>c.arr (zt l β)
def Cs.OT:(c:Cs)->{β : Type}->β->c.arr β
 | .int _,_,b=>λ_=>b
 | .bool,_,b=>λ_=>b
 | .str,_,b=>λ_=>b
 | .slice,_,b=>λ_ _ _=>b
 | .ptr,_,b=>λ_=>b
 | .map,_,b=>λ_=>b
 | .fn,_,b=>λ_ _=>b
 | .val,_,b=>λ_=>b
def G6:(l:List Cs)->{β : Type}->β->Kc l β
 | [],_,b=>b
 | c :: l,_,b=>c.OT (G6 l b)
def S1.OT:(c:S1)->{β : Type}->β->c.arr β
 | .one c,_,b=>c.OT b
 | .agg l,_,b=>G6 l b
def Ke:(l:List S1)->{β : Type}->β->zt l β
 | [],_,b=>b
 | c :: l,_,b=>c.OT (Ke l b)
def Cs.ap:(c:Cs)->{β : Type}->c.arr β->Value->β->β
 | .int k,_,f,.int k' n,d=>bif Nat.beq (kx k) (kx k') then f n else d
 | .bool,_,f,.bool b,_=>f b
 | .str,_,f,.string s,_=>f s
 | .slice,_,f,.slice a l c,_=>f a l c
 | .ptr,_,f,.pointer a,_=>f a
 | .map,_,f,.map r,_=>f r
 | .fn,_,f,.func (.func g) ⟨[]⟩ ⟨c⟩,_=>f g c
 | .val,_,f,v,_=>f v
 | _,_,_,_,d=>d
def Sy:(l:List Cs)->{β : Type}->Kc l β->List Value->β->β
 | [],_,f,[],_=>f
 | c :: l,_,f,v :: vs,d=>Sy l (c.ap f v (G6 l d)) vs d
 | _,_,_,_,d=>d
def S1.ap:(c:S1)->{β : Type}->c.arr β->Value->β->β
 | .one c,_,f,v,d=>c.ap f v d
 | .agg l,_,f,.agg cs,d=>Sy l f cs.toList d
 | _,_,_,_,d=>d
def BT:(l:List S1)->{β : Type}->zt l β->List Value->β->β
 | [],_,f,[],_=>f
 | c :: l,_,f,v :: vs,d=>BT l (c.ap f v (Ke l d)) vs d
 | _,_,_,_,d=>d
def EJ:List S1->(List Value->Prop)->Prop
 | [],p=>p []
 | c :: l,p=>c.all λv=>EJ l λvs=>p (v :: vs)

def dstsOf:List Oper->List Nat
 | []=>[]
 | o :: l=>match o.dst with | some d=>d :: dstsOf l | none=>dstsOf l
def G7:List Nat->List Nat->List Nat
 | [],m=>m
 | x :: l,m=>x :: G7 l m
def nP:Code->List Nat
 | .region _ ops _=>dstsOf ops.toList
 | .seq a b=>G7 (nP a) (nP b)
 | .cond _ a b=>G7 (nP a) (nP b)
 | .block _ a=>nP a
 | .loop a=>nP a
 | .scope a=>nP a
 | _=>[]
def mN (n:Nat) (d:Nat->Value):List Nat->Fr->Fr
 | [],fr=>fr
 | s :: l,fr=>mN n d l (put n fr (some s) (d s))
def pO (fr:Fr):List (Nat × S1)->List Value
 | []=>[]
 | (s,_) :: l=>dE fr s :: pO fr l
def j1 (n:Nat) (fr:Fr):List (Nat × S1)->List Value->Fr
 | (s,_) :: l,v :: vs=>j1 n (put n fr (some s) v) l vs
 | _,_=>fr
def uD:List (Nat × S1)->List S1
 | []=>[]
 | (_,s) :: l=>s :: uD l

structure bh where
 loops:List (Nat × List (Nat × S1)):=[]
 joins:List (Nat × List (Nat × S1)):=[]
 blocks:List (Nat × List (Nat × S1)):=[]
 rngs:List (Nat × List (Nat × S1)):=[]
def look (k:Nat):List (Nat × List (Nat × S1))->Option (List (Nat × S1))
 | []=>none
 | (j,x) :: l=>bif Nat.beq j k then some x else look k l
def mj:Code->Option Nat
 | .region i _ _=>some i
 | .seq a b=>(match mj a with | some i=>some i | none=>mj b)
 | .cond _ a b=>(match mj a with | some i=>some i | none=>mj b)
 | .block _ a=>mj a
 | .loop a=>mj a
 | .scope a=>mj a
 | _=>none
def LK (k:Option Nat) (l:List (Nat × List (Nat × S1))):Option (List (Nat × S1)):=match k with | some k=>look k l | none=>none

def G8:List Oper->Nat->Option Oper
 | [],_=>none
 | o :: _,0=>some o
 | _ :: l,n + 1=>G8 l n
def xS (all:List Oper) (j:Nat):Option Tmp:=match G8 all j with | some o=>o.dst | none=>none
def Iz:Bool->Bool->Bool
 | true,true=>true
 | false,false=>true
 | _,_=>false
def EK (all:List Oper) (fr:Fr) (o:Oper) (yes no:Prop):Prop :=
 match o.guard with
 | none=>yes
 | some (j,t)=>match xS all j with
  | some d=>(match dE fr d with | .bool b=>bif Iz b t then yes else no | _=>no)
  | none=>no
def LL:List Oper->Nat->Bool
 | [],_=>false
 | o :: l,i=>match o.guard with | some (j,_)=>Nat.beq j i || LL l i | none=>LL l i
def zu (g:Bool) (v:Value) (k:Value->Prop):Prop :=
 match g,v with
 | true,.bool b=>SF b λb=>k (.bool b)
 | _,v=>k v
section
variable (P:Program) (Ty:TypeId->Option cB) (Fn:FuncId->Bool) (E:Ws->Ws->Prop) (N:Nat)
def wv (all:List Oper):Nat->List Oper->Fr->Ws->(Fr->Ws->Prop)->Prop
 | _,[],fr,w,K=>K fr w
 | i,o :: l,fr,w,K =>
  EK all fr o (Iy P Ty Fn E o fr w λv w'=>zu (LL all i) v λv=>wv all (i + 1) l (put N fr o.dst v) w' K)
   (wv all (i + 1) l (put N fr o.dst undef) w K)

def G9:List Bool->Nat->Bool
 | [],_=>true
 | b :: _,0=>b
 | _ :: l,n + 1=>G9 l n
def BU:List Bool->Nat->Bool
 | [],_=>false
 | b :: _,0=>b
 | _ :: l,n + 1=>BU l n
def fW:List Bool->Nat->List Bool
 | [],_=>[]
 | _ :: l,0=>true :: l
 | b :: l,n + 1=>b :: fW l n
def zv (ls:List Bool):List Edge->Bool
 | []=>true
 | e :: l=>(match e.ground with | .textOnly _ | .gcOnly _=>true | _=>BU ls e.on) && zv ls l
def EL (ls:List Bool) (i:Nat) (o:Oper):Bool:=!G9 ls i && zv ls o.after.toList
def gG (Ty:TypeId->Option cB) (ls:List Bool):Nat->List Oper->Option (Nat × Oper)
 | _,[]=>none
 | i,o :: l=>bif dL Ty o && EL ls i o then some (i,o) else gG Ty ls (i + 1) l
def dX (ls:List Bool):Nat->List Oper->List (Nat × Oper)
 | _,[]=>[]
 | i,o :: l=>bif EL ls i o then (i,o) :: dX ls (i + 1) l else dX ls (i + 1) l
def IA (n:Nat):List Bool:=match n with | 0=>[] | n + 1=>false :: IA n
def nT (x:Nat):List Nat->Bool
 | []=>false
 | y :: l=>Nat.beq x y || nT x l
def OU:Option Operand->List Operand->List Operand
 | none,l=>l
 | some x,l=>x :: l
def OV:List Operand->List Operand->List Operand
 | [],m=>m
 | x :: l,m=>x :: OV l m
def OW:List (Nat × Operand)->List Operand
 | []=>[]
 | (_,x) :: l=>x :: OW l
def LM:Op->List Operand
 | .move x | .assign x | .box _ x | .load _ x | .nilCheck x | .unOp _ _ x | .convert _ _ x | .makeInterface _ x | .fieldAddr _ x _ | .field _ x _ | .range _ x | .next x _ | .typeAssert x _ _ _ | .extract x _=>[x]
 | .pick c a b=>[c,a,b]
 | .build _ ps | .buildSlice _ _ ps=>OW ps.toList
 | .store _ a v | .binOp _ _ a v _ | .makeSlice _ a v | .indexAddr _ a v | .index _ a v | .lookup _ a v _ | .mapEntry _ a v=>[a,v]
 | .makeFunc _ first cap=>OV first.toList cap.toList
 | .slice _ x l h m=>x :: OU l (OU h (OU m []))
 | .mapUpdate _ m k v | .entryStore _ m k v | .insert _ m k v=>[m,k,v]
 | .call c=>(match c.callee with | .value f=>f :: c.args.toList | .invoke r _=>r :: c.args.toList | .builtin _=>c.args.toList)
 | o=>o.operands.toList
def BV:List Operand->List Nat->List Nat
 | [],m=>m
 | .tmp t :: l,m=>t :: BV l m
 | _ :: l,m=>BV l m
def looks (all:List Oper) (o:Oper):List Nat :=
 BV (LM o.op) (match o.guard with | some (g,_)=>(match xS all g with | some d=>[d] | none=>[]) | none=>[])
def Df (d:Option Tmp) (l:List Nat):Bool:=match d with | some d=>!nT d l | none=>true
def QD (a b:Option Tmp):Bool:=match a,b with | some a,some b=>!Nat.beq a b | _,_=>true
def wx (all:List Oper) (x y:Oper):Bool:=Df x.dst (looks all y) && QD x.dst y.dst && Df y.dst (looks all x)
def waits (i:Nat):List Edge->Bool
 | []=>false
 | e :: l=>(match e.ground with | .textOnly _ | .gcOnly _=>false | _=>Nat.beq e.on i) || waits i l
def IB (all:List Oper) (ls:List Bool) (i:Nat) (o:Oper):Nat->List Oper->Bool
 | _,[]=>true
 | j,p :: l=>(Nat.beq j i || G9 ls j || waits i p.after.toList || wx all o p) && IB all ls i o (j + 1) l
def Q4:List (Nat × Oper)->(Nat × Oper->Prop)->Prop
 | [],_=>True
 | [x],f=>f x
 | x :: l,f=>f x/\Q4 l f
def uJ:List Edge->List Nat->List Nat
 | [],m=>m
 | e :: l,m=>match e.ground with | .textOnly _ | .gcOnly _=>uJ l m | _=>e.on :: uJ l m
def Q5 (all:List Oper):Nat->List Nat->List Nat->List Nat
 | 0,_,done=>done
 | _ + 1,[],done=>done
 | n + 1,j :: todo,done=>match nT j done with
  | true=>Q5 all n todo done
  | false=>Q5 all n (match G8 all j with | some o=>uJ o.after.toList todo | none=>todo) (j :: done)
def BW (Ty:TypeId->Option cB) (cl:List Nat):Nat->List Oper->Bool
 | _,[]=>false
 | i,o :: l=>(dL Ty o && !nT i cl) || BW Ty cl (i + 1) l
def SJ (Ty:TypeId->Option cB) (all:List Oper) (es:List Edge):Bool:=BW Ty (Q5 all 1000 (uJ es []) []) 0 all
def Dg (Ty:TypeId->Option cB) (o:Oper):Bool:=match o.op with | .move _ | .assign _ | .indexAddr .. | .fieldAddr ..=>true | .binOp _ t _ _ _=>Ix (ah Ty t) | _=>false
def uK (Ty:TypeId->Option cB) (o:Oper):Bool:=dL Ty o && !Dg Ty o
def tw (Ty:TypeId->Option cB) (cl:List Nat):Nat->List Oper->Bool
 | _,[]=>false
 | i,o :: l=>(uK Ty o && !nT i cl) || tw Ty cl (i + 1) l
def zw (Ty:TypeId->Option cB) (all:List Oper) (es:List Edge):Bool:=tw Ty (Q5 all 1000 (uJ es []) []) 0 all
def BX (Ty:TypeId->Option cB) (all:List Oper) (o:Oper):Bool:=match o.op with | .store ..=>zw Ty all o.after.toList | _=>SJ Ty all o.after.toList
def Q6 (o:Oper):Bool:=match o.op with | .load ..=>true | _=>false
def QE (all:List Oper) (i:Nat):List Oper->Bool
 | []=>false
 | o :: l=>(Q6 o && nT i (Q5 all 1000 (uJ o.after.toList []) [])) || QE all i l
def Ub (b s:Bool) (C:Ws->Prop) (w' : Ws) (f:(Ws->Prop)->Prop):Prop :=
 match b with
 | true=>(match s with | true=>∃ C' : Ws->Prop,C' w'/\(∀ w,C' w->C w)/\f C' | false=>C w'/\f C)
 | false=>f C
def xT (C:Ws->Prop) (all:List Oper) (K:Fr->Ws->Prop):Nat->List Bool->Fr->Ws->Prop
 | 0,ls,fr,w=>(match dX ls 0 all with | []=>K fr w | _=>False)
 | n + 1,ls,fr,w =>
  match gG Ty ls 0 all with
  | some (i,o)=>uI (IB all ls i o 0 all) (
    EK all fr o (pM P Ty (TI C) (Ug P C) o fr λv=>zu (LL all i) v λv=>xT C all K n (fW ls i) (put N fr o.dst v) w)
     (xT C all K n (fW ls i) (put N fr o.dst undef) w))
  | none=>match dX ls 0 all with
   | []=>K fr w
   | es=>Q4 es λx =>
     EK all fr x.2 (LI P Ty Fn E x.2 fr w λv w'=>zu (LL all x.1) v λv=>Ub (BX Ty all x.2) (QE all x.1 all) C w' λC=>xT C all K n (fW ls x.1) (put N fr x.2.dst v) w')
      (xT C all K n (fW ls x.1) (put N fr x.2.dst undef) w)
def IC:List Oper->Bool
 | []=>true
 | o :: l=>(match o.op with | .select ..=>false | _=>true) && IC l
def drawn (w w' : Ws):Prop:=w' = { w with drawn:=w.drawn + 1 }
def OX (ops:List Oper) (draw:Bool) (fr:Fr) (w:Ws) (K:Fr->Ws->Prop):Prop :=
 match draw with
 | false=>wv P Ty Fn E N ops 0 ops fr w K
 | true=>uI (IC ops) (∀ w',drawn w w'->∃ C:Ws->Prop,C w'/\xT P Ty Fn E N C ops K (lenO ops) (IA (lenO ops)) fr w')
where
 lenO:List Oper->Nat
  | []=>0
  | _ :: l=>Nat.succ (lenO l)

def SK (n:Nat) (lv:List (Nat × S1)) (ws:List Nat) (fr:Fr) (w:Ws) (body:Fr->Ws->(Fr->Ws->Prop)->Prop):Prop :=
 ∃ (I:zt (uD lv) (Ws->Prop)) (m:zt (uD lv) (Ws->Nat)),
  BT (uD lv) I (pO fr lv) (λ_=>False) w /\
  ∀ (d:Nat->Value),EJ (uD lv) λvs=>∀ w,BT (uD lv) I vs (λ_=>False) w ->
   body (j1 n (mN n d ws fr) lv vs) w λfr' w' =>
    BT (uD lv) I (pO fr' lv) (λ_=>False) w'/\BT (uD lv) m (pO fr' lv) (λ_=>0) w' < BT (uD lv) m vs (λ_=>0) w
def QF (n:Nat) (lv:List (Nat × S1)) (ws:List Nat) (fr:Fr) (a:(Fr->Ws->Prop)->Prop) (b:Fr->Ws->Prop):Prop :=
 ∃ J:zt (uD lv) (Ws->Prop),a (λfr' w'=>BT (uD lv) J (pO fr' lv) (λ_=>False) w') /\
  ∀ (d:Nat->Value),EJ (uD lv) λvs=>∀ w,BT (uD lv) J vs (λ_=>False) w->b (j1 n (mN n d ws fr) lv vs) w

def dr:Code->Bool
 | .rangeFunc ..=>true
 | .seq a b=>dr a || dr b
 | .cond _ a b=>dr a || dr b
 | .block _ a=>dr a
 | .loop a=>dr a
 | .scope a=>dr a
 | _=>false
def OY (M L:List au):Prop:=∀ h,aG M h->aG L h
def Sz (P:Program) (g:FuncId) (first cap:List Value) (D Q:au) (xs:List (List Value)):Prop :=
 ∀ (l:Nat) (E:Ws->Ws->Prop),C8 E->∀ (J:Nat->au) (Jx:au) (L:List au) (w0:Ws),St w0 (J 0 :: D :: L)->(∀ h,aG L h->Q h) ->
  (∀ i us,xs[i]? = some us->∀ M w,OY M L->St w (J i :: M)->TG P E l us w λv w'=>(v = .bool true/\St w' (J (i + 1) :: M))\/(v = .bool false/\St w' (Jx :: M))) ->
  r_ P E g (yj first [.func (.yield l) #[] #[]] cap) w0 λ_ w'=>St w' (J xs.length :: D :: L)\/St w' (Jx :: D :: L)
def pQ:List Nat->List (Nat × S1)->Bool
 | [],[]=>true
 | a :: l,(b,_) :: m=>Nat.beq a b && pQ l m
 | _,_=>false
def fv:Code->List Nat
 | .exit i=>[i]
 | .seq a b=>G7 (fv a) (fv b)
 | .cond _ a b=>G7 (fv a) (fv b)
 | .block i a=>delN i (fv a)
 | .loop a=>fv a
 | .scope a=>fv a
 | _=>[]
where delN (i:Nat):List Nat->List Nat
 | []=>[]
 | j :: l=>bif Nat.beq j i || nT j l then delN i l else j :: delN i l
def Q7:List Nat->(Nat->Prop)->Prop
 | [],_=>True
 | [j],p=>p j
 | j :: l,p=>p j/\Q7 l p
def SL (P:Program) (g:FuncId) (first cap:List Value) (sh:List S1) (exs:List Nat) (w:Ws)
  (asg:List Value->Ws->(Fr->Ws->Prop)->Prop)
  (bd:Fr->Ws->(Ws->Prop)->(Ws->Prop)->(Nat->Ws->Prop)->Prop) (n r:Ws->Prop) (x:Nat->Ws->Prop):Prop :=
 ∃ (xs:List (List Value)) (D Q:au) (J:Nat->au) (Jr:au) (Jx:Nat->au) (L:List au),St w (J 0 :: D :: L)/\(∀ h,aG L h->Q h)/\Sz P g first cap D Q xs /\
  (∀ us,us∈xs->QX sh λvs=>us = vs) /\
  (∀ i,EJ sh λvs=>xs[i]? = some vs->∀ L' w,OY L' L->St w (J i :: L') ->
   asg vs w λfr1 w1=>∃ M:au,St w1 (M :: L')/\∀ L' w,OY L' L->St w (M :: L') ->
    bd fr1 w (λw'=>St w' (J (i + 1) :: L')) (λw'=>St w' (Jr :: L')) (λj w'=>uI (nT j exs) (St w' (Jx j :: L')))) /\
  (∀ w',St w' (J xs.length :: D :: L)->n w')/\(∀ w',St w' (Jr :: D :: L)->r w')/\Q7 exs λj=>∀ w',St w' (Jx j :: D :: L)->x j w'
def den (A:bh):Code->Fr->Ws->(Fr->Ws->Prop)->(Fr->Ws->Prop)->(Nat->Fr->Ws->Prop)->Prop
 | .skip,fr,w,n,r,x=>n fr w
 | .region _ ops draw,fr,w,n,r,x=>OX P Ty Fn E N ops.toList draw fr w n
 | .seq a b,fr,w,n,r,x =>
  (match LK (mj b) A.joins with
  | some lv=>QF N lv (nP a) fr (λn'=>den A a fr w n' r x) (λfr w=>den A b fr w n r x)
  | none=>den A a fr w (λfr w=>den A b fr w n r x) r x)
 | .cond c a b,fr,w,n,r,x=>TA (ev fr c) (den A a fr w n r x) (den A b fr w n r x)
 | .block i a,fr,w,n,r,x =>
  (match look i A.blocks with
  | some lv=>QF N lv (nP a) fr (λn'=>den A a fr w n' r λj fr w=>bif Nat.beq j i then n' fr w else x j fr w) n
  | none=>den A a fr w n r λj fr w=>bif Nat.beq j i then n fr w else x j fr w)
 | .loop a,fr,w,n,r,x =>
  (match LK (mj a) A.loops with
  | some lv=>SK N lv (nP a) fr w λfr w n'=>den A a fr w n' r x
  | none=>False)
 | .exit i,fr,w,n,r,x=>x i fr w
 | .ret,fr,w,n,r,x=>r fr w
 | .label _,fr,w,n,r,x=>n fr w
 | .scope a,fr,w,n,r,x=>den A a fr w n r x
 | .rangeFunc f ps a b,fr,w,n,r,x =>
  uI (!dr a && !dr b) (match ev fr f,LK (mj (.seq a b)) A.rngs with
   | .func (.func g) first cap,some lv=>uI (pQ ps.toList lv) (uI (Fn g)
    (SL P g first.toList cap.toList (uD lv) (fv b) w
     (λvs w K=>den A a (j1 N fr lv vs) w K (λ_ _=>False) (λ_ _ _=>False))
     (λfr1 w n' r' x'=>den A b fr1 w (λ_ w=>n' w) (λ_ w=>r' w) (λj _ w=>x' j w)) (n fr) (r fr) (λj=>x j fr)))
   | _,_=>False)
 | _,fr,w,n,r,x=>False
end
def Kf (P:Program) (Ty:TypeId->Option cB) (rs:List ResultVar) (fr:Fr) (w:Ws) (R:Value->Prop):Prop :=
 let rec go:List ResultVar->(List Value->Prop)->Prop
  | [],k=>k []
  | .tmp t :: l,k=>go l λvs=>k (dE fr t :: vs)
  | .cell a t :: l,k=>(match dE fr a,Ty t with
   | .pointer a,some i=>nn a λad=>Sx w ad i λv=>go l λvs=>k (v :: vs)
   | _,_=>False)
 go rs λvs=>match vs with | [v]=>R v | vs=>R (.tuple ⟨vs⟩)
def EM:Nat->List Value->Fr
 | _,[]=>[]
 | i,v :: l=>(i,v) :: EM (i + 1) l
def LN (c:Code) (R:Value->Ws->Prop) (v:Value) (w:Ws):Prop:=bif dr c then ∀ w2,hp w2 = hp w->R v w2 else R v w
def Q8 (P:Program) (Ty:TypeId->Option cB) (Fn:FuncId->Bool) (E:Ws->Ws->Prop) (A:bh) (fn:Func) (args:List Value) (w:Ws) (R:Value->Ws->Prop):Prop :=
 match fn.body with
 | some c=>bif TB args fn.ntmps then
   den P Ty Fn E fn.ntmps A c (EM 0 args) w (λfr w=>Kf P Ty fn.results.toList fr w λv=>LN c R v w) (λfr w=>Kf P Ty fn.results.toList fr w λv=>LN c R v w) (λ_ _ _=>False)
  else False
 | none=>False
def yY (P:Program) (E:Ws->Ws->Prop) (o:Oper) (ρ : Operand->Value) (w:Ws) (K:Value->Ws->Prop):Prop :=
 match (execOp ρ o).run P w with
 | .ok (.value v) w'=>E w w'/\K v w'
 | .ok .skip w'=>E w w'/\K undef w'
 | .ok (.enter f args) w'=>E w w'/\Calls P f args w' λe w''=>∃ v,e = .returned v/\E w' w''/\K v w''
 | .ok (.round l f tmps assign body) w'=>E w w'/\RoundIn Fence.wide 0 P l f tmps assign body w' λe w''=>∃ v,e = .returned v/\E w' w''/\K v w''
 | _=>False
theorem yY.mono {P:Program} {E:Ws->Ws->Prop} {o:Oper} {ρ : Operand->Value} {w:Ws} {K K' : Value->Ws->Prop} (h:yY P E o ρ w K) (hk:∀ v w',E w w'->K v w'->K' v w')
  (ht:∀ {a b c:Ws},E a b->E b c->E a c):yY P E o ρ w K':=by
 unfold yY at *
 split at h
 ·exact ⟨h.1,hk _ _ h.1 h.2⟩
 ·exact ⟨h.1,hk _ _ h.1 h.2⟩
 ·exact ⟨h.1,Calls.mono h.2 λe w'' ⟨v,he,h1,h2⟩=>⟨v,he,h1,hk _ _ (ht h.1 h1) h2⟩⟩
 ·exact ⟨h.1,RoundIn.mono h.2 λe w'' ⟨v,he,h1,h2⟩=>⟨v,he,h1,hk _ _ (ht h.1 h1) h2⟩⟩
 ·exact h.elim

def tz (P:Program):TypeDesc->List (Nat × Nat × Bool)
 | .struct fs=>fs.toList.map λf=>(f.offset,P.cellsOf f.type,match P.underlying f.type with | some (.struct _) | some (.array ..)=>true | _=>false)
 | _=>[]
structure TJ (P:Program) (t:TypeId) (i:cB) (info:TypeInfo) (d:TypeDesc):Prop where
 inf:P.info? t = some info
 und:P.underlying t = some d
 kd:i.kd = dQ d
 size:i.size = info.size
 bytes:i.bytes = info.bytes
 zero:i.zero = info.zero
 flds:i.flds = tz P d
 ok:wo P d = true
theorem mP {P:Program} {Ty:TypeId->Option cB} (h:di P Ty) {t:TypeId} {i:cB} (hi:Ty t = some i):∃ info d,TJ P t i info d:=by
 obtain ⟨c,this⟩:=h t i hi
 unfold Tx at this
 split at this
 ·rename_i a b ha hb
  simp only [Bool.cond_eq_ite] at this
  split at this
  ·rename_i hok
   have e:=Option.some.inj this
   exact ⟨a,b,ha,hb,(congrArg cB.kd e).symm,(congrArg cB.size e).symm,(congrArg cB.bytes e).symm,(congrArg cB.zero e).symm,(congrArg cB.flds e).symm.trans (by unfold tz; rfl),hok⟩
  ·cases this
 ·cases this
theorem G_ {Ty:TypeId->Option cB} {t:TypeId} {k:Kd} (h:ah Ty t = k) (hk:k≠.other):∃ i,Ty t = some i/\i.kd = k:=by
 unfold ah at h
 split at h
 ·rename_i i hi; exact ⟨i,hi,h⟩
 ·exact absurd h.symm hk
theorem du {d:TypeDesc} {e:TypeId} (h:Kd.slice e = dQ d):d = .slice e:=by cases d <;> simp [dQ] at h; subst h; rfl
theorem EN {d:TypeDesc} {n:Nat} {e:TypeId} (h:Kd.array n e = dQ d):d = .array n e:=by cases d <;> simp [dQ] at h; obtain ⟨rfl,rfl⟩:=h; rfl
theorem Ha {d:TypeDesc} {e:IntKind} (h:Kd.int e = dQ d):d = .int e:=by cases d <;> simp [dQ] at h; subst h; rfl
theorem mQ {d:TypeDesc} (h:Kd.string = dQ d):d = .string:=by cases d <;> simp [dQ] at h; rfl
theorem OZ {d:TypeDesc} (h:Kd.bool = dQ d):d = .bool:=by cases d <;> simp [dQ] at h; rfl
theorem Hb {d:TypeDesc} {e:TypeId} (h:Kd.ptr e = dQ d):d = .pointer e:=by cases d <;> simp [dQ] at h; subst h; rfl
theorem Q9 {d:TypeDesc} {k e:TypeId} (h:Kd.map k e = dQ d):d = .map k e:=by cases d <;> simp [dQ] at h; obtain ⟨rfl,rfl⟩:=h; rfl
theorem wy {d:TypeDesc} (h:Kd.struct = dQ d):∃ fs,d = .struct fs:=by cases d <;> simp [dQ] at h; exact ⟨_,rfl⟩
theorem O0 {d:TypeDesc} (h:Kd.func = dQ d):∃ a b c,d = .func a b c:=by cases d <;> simp [dQ] at h; exact ⟨_,_,_,rfl⟩
theorem cD {P:Program} {Ty:TypeId->Option cB} (h:di P Ty) {t:TypeId} {k:Kd} (hk:ah Ty t = k) (hne:k≠.other):∃ d,P.underlying t = some d/\k = dQ d:=by
 obtain ⟨i,hi,hik⟩:=G_ hk hne
 obtain ⟨info,d,ha⟩:=mP h hi
 exact ⟨d,ha.und,by rw [<- hik,ha.kd]⟩
section
variable {P:Program} {w:Ws}
theorem aK {t:TypeId} {d:TypeDesc} (h:P.underlying t = some d):(underlying t).run P w = .ok d w:=by simp [underlying,h]
theorem EO {t:TypeId} {i:TypeInfo} (h:P.info? t = some i):(typeInfo t).run P w = .ok i w:=by simp [typeInfo,h]
theorem bJ {t:TypeId} {i:TypeInfo} (h:P.info? t = some i):(sizeOf t).run P w = .ok i.size w:=by simp [sizeOf,typeInfo,h]
theorem ji {t:TypeId} {i:TypeInfo} {z:Value} (h:P.info? t = some i) (hz:i.zero = some z):(zeroValue t).run P w = .ok z w:=by simp [zeroValue,typeInfo,h,hz]
theorem dw {t:TypeId} {d:TypeDesc} (h:P.underlying t = some d):(isAgg t).run P w = .ok (dQ d).isAgg w:=by
 simp only [isAgg,Sem.run_bind,aK h,Result.andThen_ok]
 cases d <;> simp [dQ,Kd.isAgg]
theorem rh {Ty:TypeId->Option cB} (h:di P Ty) {t:TypeId} {s:Nat} (hs:BR Ty t = some s):∃ info,P.info? t = some info/\info.size = s:=by
 unfold BR at hs
 split at hs
 ·rename_i i hi
  obtain ⟨info,d,ha⟩:=mP h hi
  cases hs
  exact ⟨info,ha.inf,ha.size.symm⟩
 ·cases hs
theorem xU:∀ (n i:Nat) (a:Addr) (vs:List Value),rowAt w a i n = some vs->vs.length = n/\∀ j v,vs[j]? = some v->w.cell? (a.add (i + j)) = some v
 | 0,i,a,vs,h=>by simp [rowAt] at h; subst h; simp
 | n + 1,i,a,vs,h=>by
  unfold rowAt at h
  split at h
  ·rename_i v us hv hus
   cases h
   obtain ⟨h1,h2⟩:=xU n (i + 1) a us hus
   refine ⟨by simp [h1],λj u hj=>?_⟩
   cases j with
   | zero=>simpa using hj ▸ hv
   | succ j=>have:=h2 j u (by simpa using hj); rwa [show i + 1 + j = i + (j + 1) by omega] at this
  ·cases h
def lW (w:Ws) (a:Addr) (i:cB) (v:Value):Prop :=
 match i.kd.isAgg with
 | true=>∃ vs,rowAt w a 0 i.size = some vs/\v = .agg ⟨vs⟩
 | false=>w.cell? a = some v
theorem BZ {Ty:TypeId->Option cB} (h:di P Ty) {t:TypeId} {i:cB} (hi:Ty t = some i) {a:Addr} {v:Value} (hl:lW w a i v):(loadVar t a).run P w = .ok v w:=by
 obtain ⟨info,d,ha⟩:=mP h hi
 unfold lW at hl
 simp only [loadVar,Sem.run_bind,dw ha.und,Result.andThen_ok,<- ha.kd]
 cases hk:i.kd.isAgg with
 | true =>
  rw [hk] at hl
  obtain ⟨vs,hr,rfl⟩:=hl
  obtain ⟨h1,h2⟩:=xU _ _ _ _ hr
  have h3:info.size = vs.length:=by rw [h1,ha.size]
  have:=run_loadCells_list (P:=P) w a vs (λj v hj=>by have:=h2 j v hj; rwa [Vr] at this)
  simp [bJ ha.inf,h3,this]
 | false =>
  rw [hk] at hl
  simp [hl]
theorem EP {a:Addr} {i:cB} {k:Value->Prop} (h:Sx w a i k):∃ v,lW w a i v/\k v:=by
 unfold Sx at h
 split at h
 ·exact h.elim
 ·split at h
  ·rename_i hk _
   obtain ⟨vs,_,hr,hkv⟩:=zn h
   exact ⟨_,by unfold lW; rw [hk]; exact ⟨vs,hr,rfl⟩,hkv⟩
  ·rename_i hk _
   obtain ⟨v,hv,hkv⟩:=Cs.jY h
   exact ⟨v,by unfold lW; rw [hk]; exact hv,hkv⟩
  ·exact h.elim
theorem LO {C:Ws->Prop} {a:Addr} {i:cB} {k:Value->Prop} (h:TI C a i k):∃ v,(∀ w,C w->lW w a i v)/\k v:=by
 unfold TI at h
 split at h
 ·exact h.elim
 ·split at h
  ·rename_i hk _
   obtain ⟨vs,_,hr,hkv⟩:=zn h
   exact ⟨_,λw hw=>by unfold lW; rw [hk]; exact ⟨vs,hr w hw,rfl⟩,hkv⟩
  ·rename_i hk _
   obtain ⟨v,hv,hkv⟩:=Cs.jY h
   exact ⟨v,λw hw=>by unfold lW; rw [hk]; exact hv w hw,hkv⟩
  ·exact h.elim
end
section
variable {P:Program} {Ty:TypeId->Option cB}
theorem kD {wd:Bool} {k:IntKind} {z:Int} {K:Value->Prop} (h:EH wd k z K):K (.int k (k.wrap z)):=by
 unfold EH at h
 split at h
 ·split at h
  ·exact h
  ·rw [C_ h.1]; exact h.2
 ·exact h
theorem Kg {wd:Bool} {op:BinOp} {k k' : IntKind} {a b:Int} {t:TypeId} {K:Value->Prop} (hk:(Dd op || Nat.beq (kx k) (kx k')) = true) (h:LD wd op k a b K) :
  ∃ v,(∀ w,(Go.binOp op t (.int k a) (.int k' b)).run P w = .ok v w)/\K v:=by
 have hkk:Dd op = false->k = k':=λhs=>LB (by simpa [hs] using hk)
 unfold LD at h
 cases op <;> dsimp only at h
 case add=>refine ⟨_,λw=>?_,kD h⟩; simp [Go.binOp,<- hkk rfl,Op.intArith]
 case sub=>refine ⟨_,λw=>?_,kD h⟩; simp [Go.binOp,<- hkk rfl,Op.intArith]
 case mul=>refine ⟨_,λw=>?_,kD h⟩; simp [Go.binOp,<- hkk rfl,Op.intArith]
 case quo=>refine ⟨_,λw=>?_,kD h.2⟩; simp [Go.binOp,<- hkk rfl,Op.intDiv,show ¬ b = 0 from h.1]
 case rem=>refine ⟨_,λw=>?_,h.2⟩; simp [Go.binOp,<- hkk rfl,Op.intDiv,show ¬ b = 0 from h.1]
 case and=>refine ⟨_,λw=>?_,h⟩; simp [Go.binOp,<- hkk rfl,Op.intBits,kH]
 case or=>refine ⟨_,λw=>?_,h⟩; simp [Go.binOp,<- hkk rfl,Op.intBits,kH]
 case xor=>refine ⟨_,λw=>?_,h⟩; simp [Go.binOp,<- hkk rfl,Op.intBits,kH]
 case andNot=>refine ⟨_,λw=>?_,h⟩; simp [Go.binOp,<- hkk rfl,Op.intBits,kH]
 case eql=>refine ⟨_,λw=>?_,h⟩; simp [Go.binOp,<- hkk rfl,Op.intCmp]
 case neq=>refine ⟨_,λw=>?_,h⟩; simp [Go.binOp,<- hkk rfl,Op.intCmp]
 case lss=>refine ⟨_,λw=>?_,h⟩; simp [Go.binOp,<- hkk rfl,Op.intCmp]
 case leq=>refine ⟨_,λw=>?_,h⟩; simp [Go.binOp,<- hkk rfl,Op.intCmp]
 case gtr=>refine ⟨_,λw=>?_,h⟩; simp [Go.binOp,<- hkk rfl,Op.intCmp]
 case geq=>refine ⟨_,λw=>?_,h⟩; simp [Go.binOp,<- hkk rfl,Op.intCmp]
 case shl=>refine ⟨_,λw=>?_,h.2⟩; simp [Go.binOp,Op.shift,LC,Int.not_lt.2 h.1]
 case shr=>refine ⟨_,λw=>?_,h.2⟩; simp [Go.binOp,Op.shift,bw,Int.not_lt.2 h.1]
theorem Kh {op:BinOp} {a b:ByteArray} {t:TypeId} {K:Value->Prop} (h:LF op a b K) :
  ∃ v,(∀ w,(Go.binOp op t (.string a) (.string b)).run P w = .ok v w)/\K v:=by
 unfold LF at h
 cases op <;> dsimp only at h <;> first | exact h.elim | skip
 case add =>
  refine ⟨_,λw=>?_,h.2⟩
  simp [Go.binOp,Op.stringOp]
  exact h.1
 all_goals (refine ⟨_,λw=>?_,h⟩; simp [Go.binOp,Op.stringOp])
theorem zx {op:BinOp} {t:TypeId} {xo yo:Operand} {x y:Value} {w:Ws} (h:∀ a b,¬ (x = .agg a/\y = .agg b)) (h2:¬ (x = .nilIface/\y = .nilIface)) :
  (eqGuard op t xo yo x y).run P w = .ok () w:=by
 unfold eqGuard
 by_cases hop:(!(match op with | .eql | .neq=>true | _=>false)) = true
 ·cases op <;> simp_all
 ·cases op <;> simp at hop <;> (cases x <;> cases y <;> simp_all)
theorem uL {op:BinOp} {t:TypeId} {x y:Value} {r:Bool} {K:Value->Prop} (he:∀ w,(Op.equal t x y).run P w = .ok r w)
  (hb:∀ op,(op = .eql\/op = .neq)->Go.binOp op t x y = (match op with | .eql=>(do pure (.bool (<- Op.equal t x y))) | _=>(do pure (.bool (!(<- Op.equal t x y)))))) (h:Qx op r K) :
  ∃ v,(∀ w,(Go.binOp op t x y).run P w = .ok v w)/\K v:=by
 unfold Qx at h
 cases op <;> dsimp only at h <;> first | exact h.elim | skip
 case eql=>refine ⟨_,λw=>?_,h⟩; rw [hb .eql (.inl rfl)]; simp [he w]
 case neq=>refine ⟨_,λw=>?_,h⟩; rw [hb .neq (.inr rfl)]; simp [he w]
theorem eQ {c:Bool} {p:Prop} (h:bif c then p else False):c = true/\p:=by cases c <;> simp_all
theorem Ki (d:Nat) {t:TypeId} (h:P.underlying t = some .bool) (a b:Bool) (w:Ws):(Op.equalIn (d + 1) t (.bool a) (.bool b)).run P w = .ok (a == b) w:=by
 simp [Op.equalIn,aK h]
theorem Hc {t:TypeId} (h:P.underlying t = some .bool) (a b:Bool) (w:Ws):(Op.equal t (.bool a) (.bool b)).run P w = .ok (a == b) w:=Ki 9999 h a b w
theorem Dh (d:Nat) {t e:TypeId} (h:P.underlying t = some (.pointer e)) (a:Wr) (w:Ws):(Op.equalIn (d + 1) t (.pointer a) (.pointer none)).run P w = .ok a.isNone w:=by
 cases a <;> simp [Op.equalIn,aK h]
theorem Bn {t e:TypeId} (h:P.underlying t = some (.pointer e)) (a:Wr) (w:Ws):(Op.equal t (.pointer a) (.pointer none)).run P w = .ok a.isNone w:=Dh 9999 h a w
theorem zy (d:Nat) {t e:TypeId} (h:P.underlying t = some (.slice e)) (a:Wr) (l c l' c' : Nat) (w:Ws):(Op.equalIn (d + 1) t (.slice a l c) (.slice none l' c')).run P w = .ok a.isNone w:=by
 cases a <;> simp [Op.equalIn,aK h]
theorem yk {t e:TypeId} (h:P.underlying t = some (.slice e)) (a:Wr) (l c l' c' : Nat) (w:Ws):(Op.equal t (.slice a l c) (.slice none l' c')).run P w = .ok a.isNone w:=zy 9999 h a l c l' c' w
theorem Di (d:Nat) {t k e:TypeId} (h:P.underlying t = some (.map k e)) (a:Option Nat) (w:Ws):(Op.equalIn (d + 1) t (.map a) (.map none)).run P w = .ok a.isNone w:=by
 cases a <;> simp [Op.equalIn,aK h]
theorem Bo {t k e:TypeId} (h:P.underlying t = some (.map k e)) (a:Option Nat) (w:Ws):(Op.equal t (.map a) (.map none)).run P w = .ok a.isNone w:=Di 9999 h a w
theorem Bp (d:Nat) {t:TypeId} {a b:Array TypeId} {c:Bool} (h:P.underlying t = some (.func a b c)) (f:Fn) (x y:Array Value) (w:Ws):(Op.equalIn (d + 1) t (.func f x y) .nilFunc).run P w = .ok false w:=by
 simp [Op.equalIn,aK h]
theorem zz {t:TypeId} {a b:Array TypeId} {c:Bool} (h:P.underlying t = some (.func a b c)) (f:Fn) (x y:Array Value) (w:Ws):(Op.equal t (.func f x y) .nilFunc).run P w = .ok false w:=Bp 9999 h f x y w
theorem iS {op:BinOp} {t:TypeId} {xo yo:Operand} {x y:Value} {K:Value->Prop} (h1:∀ a b,¬ (x = .agg a/\y = .agg b)) (h2:¬ (x = .nilIface/\y = .nilIface))
  (h:∃ v,(∀ w,(Go.binOp op t x y).run P w = .ok v w)/\K v):∃ v,(∀ w,(do eqGuard op t xo yo x y; Go.binOp op t x y:Sem Value).run P w = .ok v w)/\K v:=by
 obtain ⟨v,hv,hK⟩:=h
 exact ⟨v,λw=>by simp [zx h1 h2,hv],hK⟩
theorem O1 {op:BinOp} {t:Bool} {K:Value->Prop} (h:TE op t λq=>K (.bool q)):Qx op t K:=by cases op <;> simp [TE,Qx] at h ⊢ <;> exact h
theorem LP (hT:di P Ty) {C:Ws->Prop} {rs:Sem Value->(Value->Prop)->Prop} (hrs:∀ s k,rs s k->∃ v,(∀ w,C w->s.run P w = .ok v w)/\k v)
  {op:BinOp} {t:TypeId} {xo yo:Operand} {x y:Value} {K:Value->Prop} (h:QZ Ty rs op t xo yo x y K) :
  ∃ v,(∀ w,C w->(do eqGuard op t xo yo x y; Go.binOp op t x y:Sem Value).run P w = .ok v w)/\K v:=by
 have all:(∃ v,(∀ w,(do eqGuard op t xo yo x y; Go.binOp op t x y:Sem Value).run P w = .ok v w)/\K v)->∃ v,(∀ w,C w->(do eqGuard op t xo yo x y; Go.binOp op t x y:Sem Value).run P w = .ok v w)/\K v :=
  λ⟨v,a,b⟩=>⟨v,λw _=>a w,b⟩
 unfold QZ at h
 split at h
 ·obtain ⟨hc,h⟩:=eQ h
  exact all (iS (by simp) (by simp) (Kg hc h))
 ·exact all (iS (by simp) (by simp) (Kh h))
 ·split at h
  ·rename_i hk
   obtain ⟨d,hd,hd'⟩:=cD hT hk (by simp)
   rw [OZ hd'] at hd
   exact all (iS (by simp) (by simp) (uL (Hc hd _ _) (λop ho=>by rcases ho with rfl | rfl <;> simp [Go.binOp]) h))
  ·exact h.elim
 ·unfold QY at h
  split at h
  ·obtain ⟨hc,h⟩:=eQ h
   cases hk:ah Ty t <;> rw [hk] at hc <;> simp [Qy] at hc
   obtain ⟨d,hd,hd'⟩:=cD hT hk (by simp)
   rw [Hb hd'] at hd
   exact all (iS (by simp) (by simp) (uL (Bn hd _) (λop ho=>by rcases ho with rfl | rfl <;> simp [Go.binOp]) (O1 h)))
  ·obtain ⟨v,h1,b,rfl,h2⟩:=hrs _ _ h
   exact ⟨_,h1,h2⟩
 ·obtain ⟨hc,h⟩:=eQ h
  cases hk:ah Ty t <;> rw [hk] at hc <;> simp [Iv] at hc
  obtain ⟨d,hd,hd'⟩:=cD hT hk (by simp)
  rw [du hd'] at hd
  exact all (iS (by simp) (by simp) (uL (yk hd _ _ _ _ _) (λop ho=>by rcases ho with rfl | rfl <;> simp [Go.binOp]) h))
 ·split at h
  ·rename_i hk
   obtain ⟨d,hd,hd'⟩:=cD hT hk (by simp)
   obtain ⟨_,_,_,he⟩:=O0 hd'
   rw [he] at hd
   exact all (iS (by simp) (by simp) (uL (zz hd _ _ _) (λop ho=>by rcases ho with rfl | rfl <;> simp [Go.binOp]) h))
  ·exact h.elim
 ·obtain ⟨hc,h⟩:=eQ h
  cases hk:ah Ty t <;> rw [hk] at hc <;> simp [Qz] at hc
  obtain ⟨d,hd,hd'⟩:=cD hT hk (by simp)
  rw [Q9 hd'] at hd
  exact all (iS (by simp) (by simp) (uL (Bo hd _) (λop ho=>by rcases ho with rfl | rfl <;> simp [Go.binOp]) h))
 ·obtain ⟨v,h1,b,rfl,h2⟩:=hrs _ _ h
  exact ⟨_,h1,h2⟩
end
section
variable {P:Program} {Ty:TypeId->Option cB}
theorem cM (v:Value):cellsOf v = v.cells.toList:=by cases v <;> rfl
theorem ER:∀ (vs:List Value) (off k:Nat) (cs:List Value),
  (vs.zipIdx k).foldl (λ(a:Array Value) (x:Value × Nat)=>a.setIfInBounds (off + x.2) x.1) ⟨cs⟩ = ⟨setMany cs (off + k) vs⟩
 | [],_,_,_=>rfl
 | v :: vs,off,k,cs=>by
  simp only [List.zipIdx_cons,List.foldl_cons]
  have:=ER vs off (k + 1) (G2 cs (off + k) v)
  rw [<- Nat.add_assoc] at this
  rw [setMany,<- this]
  congr 1
  rw [Iu]; simp
theorem fill_eq {pl:Nat->Option (Nat × Nat)}:∀ (ps:List (Nat × Value)) (cs out:List Value),uH pl cs ps = some out->Instr.fill pl ⟨cs⟩ ps = some ⟨out⟩
 | [],cs,out,h=>by simp [uH] at h; subst h; rfl
 | (i,v) :: ps,cs,out,h=>by
  unfold uH at h
  unfold Instr.fill
  cases hp:pl i with
  | none=>rw [hp] at h; simp at h
  | some os =>
   obtain ⟨off,size⟩:=os
   rw [hp] at h
   simp only [Bool.cond_eq_ite] at h
   split at h
   ·rename_i hc
    simp only [UT] at hc
    have h1:=pJ _ _ hc.1
    have h2:=Lx _ _ hc.2
    rw [cM] at h1
    have h1' : v.cells.size = size:=by simpa using h1
    have h2' : off + v.cells.size<=cs.length:=by omega
    have ih:=fill_eq ps _ out h
    simp only [h1',ne_eq,not_true_eq_false,List.size_toArray,decide_false,Bool.false_or]
    rw [UE (by simp; omega)]
    rw [<- ih]
    congr 1
    have:=ER v.cells.toList off 0 cs
    rw [cM,show off = off + 0 from rfl,<- this]
    rw [<- Array.foldl_toList]
    simp [Array.toList_zipIdx]
   ·cases h
theorem ES (fr:Fr):∀ l,xR fr l = l.map λ(i,x)=>(i,ev fr x)
 | []=>rfl
 | (i,x) :: l=>by simp [xR,ES fr l]
theorem wz {o:Option (List Value)} {k:List Value->Prop} (h:LG o k):∃ l,o = some l/\k l:=by
 unfold LG at h; split at h
 ·exact ⟨_,rfl,h⟩
 ·exact h.elim
theorem uM {a:Wr} {k:Addr->Prop} (h:nn a k):∃ x,a = some x/\k x:=by
 unfold nn at h; split at h
 ·exact ⟨_,rfl,h⟩
 ·exact h.elim
theorem parts_eq (fr:Fr) (ps:Array (Nat × Operand)):(ps.map λ(i,x)=>(i,ev fr x)).toList = xR fr ps.toList:=by
 rw [ES]; simp
theorem B3 {α β : Type} (f:α->Sem β) (g:α->β) (w:Ws):∀ (l:List α),(∀ x∈l,(f x).run P w = .ok (g x) w)->(l.mapM f).run P w = .ok (l.map g) w
 | [],_=>by simp
 | x :: l,h=>by
  simp only [List.mapM_cons,Sem.run_bind,h x (by simp),Result.andThen_ok,B3 f g w l (λy hy=>h y (by simp [hy])),Sem.run_pure,Vh]
theorem LQ {α β : Type} (f:α->Sem β) (g:α->β) (w:Ws) (a:Array α) (h:∀ x∈a.toList,(f x).run P w = .ok (g x) w):(a.mapM f).run P w = .ok (a.map g) w:=by
 rw [Array.mapM_eq_mapM_toList]
 simp only [Sem.run_map,B3 f g w a.toList h,Result.andThen_ok]
 congr 1
 apply VV
 simp
theorem run_places (fs:Array Go.Field) (w:Ws) (hsz:∀ f∈fs.toList,∃ i,P.info? f.type = some i) :
  (fs.mapM λf=>do pure (f.offset,<- sizeOf f.type):Sem (Array (Nat × Nat))).run P w = .ok (fs.map λf=>(f.offset,P.cellsOf f.type)) w:=by
 refine LQ _ _ w fs λf hf=>?_
 obtain ⟨i,hi⟩:=hsz f hf
 simp [bJ hi,Program.cellsOf,hi]
theorem pR {fs:Array Go.Field} (h:wo P (.struct fs) = true):∀ f∈fs.toList,∃ i,P.info? f.type = some i:=by
 intro f hf
 simp only [wo,V3] at h
 have:=h f hf
 simp only [UT] at this
 exact Option.isSome_iff_exists.1 this.1
theorem zA {fs:Array Go.Field} (h:wo P (.struct fs) = true):∀ f∈fs.toList,∃ i,P.underlying f.type = some i:=by
 intro f hf
 simp only [wo,V3] at h
 have:=h f hf
 simp only [UT] at this
 exact Option.isSome_iff_exists.1 this.2
theorem Hd {p q:Nat->Option (Nat × Nat)} (h:∀ i,p i = q i):∀ (ps:List (Nat × Value)) (cs:List Value),uH p cs ps = uH q cs ps:=by
 have:p = q:=funext h
 subst this; intros; rfl
theorem ET (fs:Array Go.Field) (i:Nat):zr (tz P (.struct fs)) i = (fs.map λf=>(f.offset,P.cellsOf f.type))[i]?:=by
 simp only [zr,tz,UD,Array.getElem?_map,Va]
 cases fs[i]? <;> rfl
theorem LR {fr:Fr} {x:Option Operand} {k:Option Int->Prop} (h:Iw fr x k):(x = none/\k none)\/∃ y kk n,x = some y/\ev fr y = .int kk n/\k (some n):=by
 unfold Iw at h
 split at h
 ·exact .inl ⟨rfl,h⟩
 ·split at h
  ·rename_i y _ kk n hv; exact .inr ⟨y,kk,n,rfl,hv,h⟩
  ·exact h.elim
theorem cK {k:IntKind} {n:Int} {y:Nat} {c:BoundsCode} {w:Ws} (h:0<=n/\n<=y):(Instr.sliceBound (.int k n) y c).run P w = .ok n.toNat w:=by
 simp [Instr.sliceBound,asIntOf,h]
end
section
variable {P:Program} {Ty:TypeId->Option cB}
theorem fX {fr:Fr} {x:Operand} {k:Option Int->Prop} (h:Iw fr (some x) k):∃ kk n,ev fr x = .int kk n/\k (some n):=by
 rcases LR h with ⟨h,_⟩ | ⟨y,kk,n,h,h1,h2⟩
 ·cases h
 ·cases h; exact ⟨kk,n,h1,h2⟩
theorem fY {fr:Fr} {k:Option Int->Prop} (h:Iw fr none k):k none:=h
theorem Bq {t e:TypeId} {info:TypeInfo} (hu:P.underlying t = some (.slice e)) (hin:P.info? e = some info) {a:Wr} {len cap:Nat} {fr:Fr} {lo hi mx:Option Operand} {K:Value->Prop}
  (h:Iw fr lo λlo=>Iw fr hi λhi=>Iw fr mx λmx=>lV a len cap lo hi mx info.size λa l c=>K (.slice a l c)) :
  ∃ v,(∀ w,(Instr.sliceAt t (.slice a len cap) (lo.map (ev fr)) (hi.map (ev fr)) (mx.map (ev fr))).run P w = .ok v w)/\K v:=by
 cases lo with
 | none =>
  have h:=fY h
  cases hi with
  | none =>
   have h:=fY h
   cases mx with
   | none =>
    have h:=fY h
    obtain ⟨_,_,_,h⟩:=h
    refine ⟨_,λw=>?_,h⟩
    simp [Instr.sliceAt,Instr.slice,Instr.sliceBounds,aK hu,bJ hin,eJ,aF]
   | some mx =>
    obtain ⟨k3,m,hmx,h⟩:=fX h
    obtain ⟨h1,_⟩:=h
    simp at h1
  | some hi =>
   obtain ⟨k2,hh,hhi,h⟩:=fX h
   cases mx with
   | none =>
    have h:=fY h
    obtain ⟨_,h1,_,h⟩:=h
    have h1:0<=hh/\hh<=(cap:Int):=by simpa using h1
    refine ⟨_,λw=>?_,h⟩
    simp [Instr.sliceAt,Instr.slice,Instr.sliceBounds,aK hu,bJ hin,eJ,aF,hhi,cK h1]
   | some mx =>
    obtain ⟨k3,m,hmx,h⟩:=fX h
    obtain ⟨h1,h2,_,h⟩:=h
    have h1:0<=m/\m<=(cap:Int):=by simpa using h1
    have h2:0<=hh/\hh<=m:=by simpa using h2
    refine ⟨_,λw=>?_,h⟩
    simp [Instr.sliceAt,Instr.slice,Instr.sliceBounds,aK hu,bJ hin,eJ,aF,hhi,hmx,cK h1,cK (y:=m.toNat) (show 0<=hh/\hh<=(m.toNat:Nat) by omega)]
 | some lo =>
  obtain ⟨k1,l,hlo,h⟩:=fX h
  cases hi with
  | none =>
   have h:=fY h
   cases mx with
   | none =>
    have h:=fY h
    obtain ⟨_,_,h2,h⟩:=h
    have h2:0<=l/\l<=(len:Int):=by simpa using h2
    refine ⟨_,λw=>?_,h⟩
    simp [Instr.sliceAt,Instr.slice,Instr.sliceBounds,aK hu,bJ hin,eJ,aF,hlo,cK h2]
   | some mx =>
    obtain ⟨k3,m,hmx,h⟩:=fX h
    obtain ⟨h1,_⟩:=h
    simp at h1
  | some hi =>
   obtain ⟨k2,hh,hhi,h⟩:=fX h
   cases mx with
   | none =>
    have h:=fY h
    obtain ⟨_,h1,h2,h⟩:=h
    have h1:0<=hh/\hh<=(cap:Int):=by simpa using h1
    have h2:0<=l/\l<=hh:=by simpa using h2
    refine ⟨_,λw=>?_,h⟩
    simp [Instr.sliceAt,Instr.slice,Instr.sliceBounds,aK hu,bJ hin,eJ,aF,hlo,hhi,cK h1,cK (y:=hh.toNat) (show 0<=l/\l<=(hh.toNat:Nat) by omega)]
   | some mx =>
    obtain ⟨k3,m,hmx,h⟩:=fX h
    obtain ⟨h1,h2,h3,h⟩:=h
    have h1:0<=m/\m<=(cap:Int):=by simpa using h1
    have h2:0<=hh/\hh<=m:=by simpa using h2
    have h3:0<=l/\l<=hh:=by simpa using h3
    refine ⟨_,λw=>?_,h⟩
    simp [Instr.sliceAt,Instr.slice,Instr.sliceBounds,aK hu,bJ hin,eJ,aF,hlo,hhi,hmx,cK h1,cK (y:=m.toNat) (show 0<=hh/\hh<=(m.toNat:Nat) by omega),cK (y:=hh.toNat) (show 0<=l/\l<=(hh.toNat:Nat) by omega)]
theorem Br {t:TypeId} (hu:P.underlying t = some .string) {s:ByteArray} {fr:Fr} {lo hi:Option Operand} {K:Value->Prop}
  (h:Iw fr lo λlo=>Iw fr hi λhi=>SH s lo hi λs=>K (.string s)) :
  ∃ v,(∀ w,(Instr.sliceAt t (.string s) (lo.map (ev fr)) (hi.map (ev fr)) none).run P w = .ok v w)/\K v:=by
 cases lo with
 | none =>
  have h:=fY h
  cases hi with
  | none =>
   have h:=fY h
   obtain ⟨_,_,h⟩:=h
   refine ⟨_,λw=>?_,h⟩
   simp [Instr.sliceAt,Instr.slice,Instr.sliceBounds,aK hu]
  | some hi =>
   obtain ⟨k2,hh,hhi,h⟩:=fX h
   obtain ⟨h1,_,h⟩:=h
   have h1:0<=hh/\hh<=(s.size:Int):=by simpa using h1
   refine ⟨_,λw=>?_,h⟩
   simp [Instr.sliceAt,Instr.slice,Instr.sliceBounds,aK hu,hhi,cK h1]
 | some lo =>
  obtain ⟨k1,l,hlo,h⟩:=fX h
  cases hi with
  | none =>
   have h:=fY h
   obtain ⟨_,h2,h⟩:=h
   have h2:0<=l/\l<=(s.size:Int):=by simpa using h2
   refine ⟨_,λw=>?_,h⟩
   simp [Instr.sliceAt,Instr.slice,Instr.sliceBounds,aK hu,hlo,cK h2]
  | some hi =>
   obtain ⟨k2,hh,hhi,h⟩:=fX h
   obtain ⟨h1,h2,h⟩:=h
   have h1:0<=hh/\hh<=(s.size:Int):=by simpa using h1
   have h2:0<=l/\l<=hh:=by simpa using h2
   refine ⟨_,λw=>?_,h⟩
   simp [Instr.sliceAt,Instr.slice,Instr.sliceBounds,aK hu,hlo,hhi,cK h1,cK (y:=hh.toNat) (show 0<=l/\l<=(hh.toNat:Nat) by omega)]

theorem pU (hT:di P Ty) {C:Ws->Prop} {ld:Addr->cB->(Value->Prop)->Prop} {rs:Sem Value->(Value->Prop)->Prop}
  (hld:∀ ad i k,ld ad i k->∃ v,(∀ w,C w->lW w ad i v)/\k v) (hrs:∀ s k,rs s k->∃ v,(∀ w,C w->s.run P w = .ok v w)/\k v)
  {o:Oper} {fr:Fr} {K:Value->Prop} (h:pM P Ty ld rs o fr K):∃ v,(∀ w,C w->(execOp (ev fr) o).run P w = .ok (.value v) w)/\K v:=by
 obtain ⟨dst,op,type,pos,after,guard⟩:=o
 unfold pM at h
 cases op <;> dsimp only at h <;> first | exact h.elim | skip
 case move x=>exact ⟨_,λw _=>rfl,h⟩
 case assign x=>exact ⟨_,λw _=>rfl,h⟩
 case pick c a b =>
  split at h
  ·rename_i t ht
   refine ⟨_,λw _=>?_,h⟩
   simp only [execOp,Sem.run_bind,ht,asBool,Sem.run_pure,Result.andThen_ok]
   cases t <;> simp
  ·exact h.elim
 case build t ps =>
  split at h
  ·rename_i i hi
   obtain ⟨info,d,ha⟩:=mP hT hi
   split at h
   ·rename_i z hz hk
    obtain ⟨fs,rfl⟩:=wy (hk ▸ ha.kd)
    obtain ⟨cs,hc,hK⟩:=wz h
    refine ⟨_,λw _=>?_,hK⟩
    rw [ha.flds,Hd (ET fs)] at hc
    have hz' : info.zero = some z:=by rw [<- ha.zero,hz]
    have hf:=fill_eq _ _ _ hc
    rw [cM] at hf
    have hf:Instr.fill _ z.cells _ = _:=hf
    have hpl:=run_places (P:=P) fs w (pR ha.ok)
    simp only [execOp,Instr.build,Sem.run_bind,ji ha.inf hz',aK ha.und,Result.andThen_ok,hpl,parts_eq]
    simp only [hf,Sem.run_pure,Result.andThen_ok]
   ·rename_i z n e hz hk
    have he:=EN (hk ▸ ha.kd)
    subst he
    split at h
    ·rename_i s hs
     obtain ⟨ie,hie,hse⟩:=rh hT hs
     obtain ⟨cs,hc,hK⟩:=wz h
     refine ⟨_,λw _=>?_,hK⟩
     have hz' : info.zero = some z:=by rw [<- ha.zero,hz]
     have hf:=fill_eq _ _ _ hc
     rw [cM] at hf
     have hf:Instr.fill _ z.cells _ = _:=hf
     simp only [execOp,Instr.build,Sem.run_bind,ji ha.inf hz',aK ha.und,Result.andThen_ok,bJ hie,hse,parts_eq]
     simp only [hf,Sem.run_pure,Result.andThen_ok]
    ·exact h.elim
   ·exact h.elim
  ·exact h.elim
 case load t x =>
  split at h
  ·rename_i a i hx hi
   obtain ⟨ad,rfl,h⟩:=uM h
   obtain ⟨v,hv,hK⟩:=hld _ _ _ h
   refine ⟨v,λw hw=>?_,hK⟩
   simp [execOp,Instr.loadAt,hx,Instr.sureAddr,BZ hT hi (hv w hw)]
  ·exact h.elim
 case nilCheck x =>
  split at h
  ·rename_i a hx
   obtain ⟨ad,rfl,h⟩:=uM h
   exact ⟨_,λw _=>by simp [execOp,hx],h⟩
  ·rename_i hx; exact ⟨_,λw _=>by simp [execOp,hx],h⟩
  ·rename_i hx; exact ⟨_,λw _=>by simp [execOp,hx],h⟩
  ·exact h.elim
 case binOp op t x y yt =>
  obtain ⟨v,hv,hK⟩:=LP hT (rs:=T_ (Ix (ah Ty t)) rs) (λs k h=>by
   cases hb:Ix (ah Ty t) with
   | true=>rw [hb] at h; exact h.elim
   | false=>rw [hb] at h; exact hrs s k h) h
  refine ⟨v,λw hw=>?_,hK⟩
  have:=hv w hw
  simp only [execOp,Sem.run_bind] at this ⊢
  rw [this]; rfl
 case unOp op t x =>
  split at h
  ·rename_i hx; exact ⟨_,λw _=>by simp [execOp,hx,Op.unary],h⟩
  ·rename_i hx; exact ⟨_,λw _=>by simp [execOp,hx,Op.unary,Op.intArith],kD h⟩
  ·rename_i hx; exact ⟨_,λw _=>by simp [execOp,hx,Op.unary,Op.intBits,kH],h⟩
  ·exact h.elim
 case convert s d x =>
  split at h
  ·rename_i k1 k2 k3 n h1 h2 hx
   obtain ⟨d1,hd1,hd1'⟩:=cD hT h1 (by simp)
   obtain ⟨d2,hd2,hd2'⟩:=cD hT h2 (by simp)
   rw [Ha hd1'] at hd1; rw [Ha hd2'] at hd2
   exact ⟨_,λw _=>by simp [execOp,hx,Go.convert,aK hd1,aK hd2,Conv.intToInt],kD h⟩
  ·rename_i s h1 h2 hx
   obtain ⟨d1,hd1,hd1'⟩:=cD hT h1 (by simp)
   obtain ⟨d2,hd2,hd2'⟩:=cD hT h2 (by simp)
   rw [mQ hd1'] at hd1; rw [mQ hd2'] at hd2
   exact ⟨_,λw _=>by simp [execOp,hx,Go.convert,aK hd1,aK hd2],h⟩
  ·exact h.elim
 case makeInterface t x =>
  split at h
  ·rename_i i hi
   obtain ⟨info,d,ha⟩:=mP hT hi
   split at h
   ·exact h.elim
   ·rename_i hk
    refine ⟨_,λw _=>?_,h⟩
    simp only [execOp,Instr.makeInterface,Sem.run_bind,aK ha.und,Result.andThen_ok]
    cases d <;> simp_all [ha.kd,dQ]
  ·exact h.elim
 case makeFunc fn first cap =>
  refine ⟨_,λw _=>?_,h⟩
  have e:∀ a:Array Operand,a.map (ev fr) = ⟨a.toList.map (ev fr)⟩:=λa=>by apply VV; simp
  simp [execOp,Instr.makeFunc,zp,e]
 case slice t x lo hi mx =>
  split at h
  ·rename_i e a len cap h1 hx
   obtain ⟨d1,hd1,hd1'⟩:=cD hT h1 (by simp)
   rw [du hd1'] at hd1
   split at h
   ·rename_i sz hsz
    obtain ⟨ie,hie,rfl⟩:=rh hT hsz
    obtain ⟨v,hv,hK⟩:=Bq hd1 hie h
    exact ⟨v,λw _=>by simp [execOp,hx,hv w],hK⟩
   ·exact h.elim
  ·rename_i s h1 hx
   obtain ⟨d1,hd1,hd1'⟩:=cD hT h1 (by simp)
   rw [mQ hd1'] at hd1
   split at h
   ·obtain ⟨v,hv,hK⟩:=Br hd1 h
    exact ⟨v,λw _=>by simp [execOp,hx,hv w],hK⟩
   ·exact h.elim
  ·exact h.elim
 case fieldAddr s x f =>
  split at h
  ·rename_i i a hi hx
   obtain ⟨info,d,ha⟩:=mP hT hi
   split at h
   ·rename_i off sz g hk hf
    obtain ⟨fs,rfl⟩:=wy (hk ▸ ha.kd)
    obtain ⟨hc,h⟩:=eQ h
    obtain ⟨ad,rfl,h⟩:=uM h
    refine ⟨_,λw _=>?_,h⟩
    rw [ha.flds] at hf
    simp only [tz,UD,Wj,Prod.mk.injEq] at hf
    obtain ⟨F,hF,rfl,hsz,_⟩:=hf
    obtain ⟨iF,hiF⟩:=pR ha.ok F (UC hF)
    have hne:iF.size≠0:=by
     have:P.cellsOf F.type = iF.size:=by simp [Program.cellsOf,hiF]
     rw [<- this,hsz]
     have:=Nat.le_of_ble_eq_true hc; omega
    have hF' : fs[f]? = some F:=by simpa using hF
    simp [execOp,hx,Instr.fieldAt,aK ha.und,hF',Instr.sureAddr,fieldPlace,bJ hiF,hne,Q0]
   ·exact h.elim
  ·exact h.elim
 case field t x f =>
  split at h
  ·rename_i i hi
   obtain ⟨info,d,ha⟩:=mP hT hi
   split at h
   ·rename_i hk
    obtain ⟨fs,rfl⟩:=wy (hk ▸ ha.kd)
    unfold SI at h
    split at h
    ·rename_i cs off sz hx hf
     rw [ha.flds] at hf
     simp only [tz,UD,Wj,Prod.mk.injEq] at hf
     obtain ⟨F,hF,rfl,rfl,hag⟩:=hf
     obtain ⟨iF,hiF⟩:=pR ha.ok F (UC hF)
     obtain ⟨dF,hdF⟩:=zA ha.ok F (UC hF)
     have hF' : fs[f]? = some F:=by simpa using hF
     have hagg:(dQ dF).isAgg = true:=by rw [hdF] at hag; cases dF <;> simp_all [dQ,Kd.isAgg]
     have hsz:P.cellsOf F.type = iF.size:=by simp [Program.cellsOf,hiF]
     refine ⟨_,λw _=>?_,h⟩
     simp only [execOp,hx,Instr.field,Sem.run_bind,aK ha.und,hF',asAgg,Sem.run_pure,Result.andThen_ok,part,dw hdF,hagg,if_true,bJ hiF,hsz]
     congr 3
     apply VV
     simp [List.extract_eq_take_drop]
    ·rename_i cs off sz hx hf
     rw [ha.flds] at hf
     simp only [tz,UD,Wj,Prod.mk.injEq] at hf
     obtain ⟨F,hF,rfl,rfl,hag⟩:=hf
     obtain ⟨dF,hdF⟩:=zA ha.ok F (UC hF)
     have hF' : fs[f]? = some F:=by simpa using hF
     have hagg:(dQ dF).isAgg = false:=by rw [hdF] at hag; cases dF <;> simp_all [dQ,Kd.isAgg]
     split at h
     ·rename_i u hu
      refine ⟨_,λw _=>?_,h⟩
      have hu' : cs[F.offset]? = some u:=by simpa using hu
      simp [execOp,hx,Instr.field,aK ha.und,hF',asAgg,part,dw hdF,hagg,hu']
     ·exact h.elim
    ·exact h.elim
   ·exact h.elim
  ·exact h.elim
 case indexAddr t x ix =>
  split at h
  ·rename_i e a len cap kk n h1 hx hix
   obtain ⟨d1,hd1,hd1'⟩:=cD hT h1 (by simp)
   rw [du hd1'] at hd1
   split at h
   ·rename_i sz hsz
    obtain ⟨ie,hie,rfl⟩:=rh hT hsz
    obtain ⟨ad,rfl,h1,h2,h⟩:=h
    refine ⟨_,λw _=>?_,h⟩
    simp [execOp,hx,hix,Instr.indexAt,asIntOf,aK hd1,bJ hie,h1,h2,aF]
   ·exact h.elim
  ·rename_i m e a kk n h1 hx hix
   obtain ⟨d1,hd1,hd1'⟩:=cD hT h1 (by simp)
   rw [EN hd1'] at hd1
   split at h
   ·rename_i sz hsz
    obtain ⟨ie,hie,rfl⟩:=rh hT hsz
    obtain ⟨ad,rfl,h1,h2,h⟩:=h
    refine ⟨_,λw _=>?_,h⟩
    simp [execOp,hx,hix,Instr.indexAt,asIntOf,aK hd1,bJ hie,h1,h2,aF,Instr.sureAddr]
   ·exact h.elim
  ·exact h.elim
 case index t x ix =>
  split at h
  ·rename_i s kk n h1 hx hix
   obtain ⟨d1,hd1,hd1'⟩:=cD hT h1 (by simp)
   rw [mQ hd1'] at hd1
   obtain ⟨⟨h1,h2⟩,h⟩:=h
   refine ⟨_,λw _=>?_,h⟩
   have hlt:n.toNat < s.size:=by omega
   have hlt' : n.toNat < s.data.size:=hlt
   have e:s[n.toNat]? = some (sb s n.toNat):=by
    rw [getElem?_pos s n.toNat hlt]
    simp only [sb,hlt',Array.getElem?_eq_getElem,Option.getD_some]
    rfl
   simp [execOp,hx,hix,Instr.index,asIntOf,aK hd1,h1,e]
  ·obtain ⟨v,hv,hK⟩:=hrs _ _ h
   exact ⟨v,λw hw=>by simp only [execOp,Sem.run_bind,hv w hw]; rfl,Sh.dK hK⟩
 case extract t i =>
  unfold QB at h
  split at h
  ·rename_i vs hx
   split at h
   ·rename_i u hu
    refine ⟨u,λw _=>?_,h⟩
    have hu' : vs[i]? = some u:=by simpa using hu
    simp [execOp,hx,Instr.extract,hu']
   ·exact h.elim
  ·exact h.elim
 case call c =>
  obtain ⟨callee,args,argTypes⟩:=c
  have ha:args.map (ev fr) = ⟨wq fr args.toList⟩:=by rw [zp]; apply VV; simp
  split at h
  ·rename_i a l cap hc hv
   dsimp only at hc hv
   subst hc
   split at h
   ·rename_i t ts hts
    obtain ⟨hk,h⟩:=eQ h
    cases hkk:ah Ty t <;> rw [hkk] at hk <;> simp [Iv] at hk
    obtain ⟨d1,hd1,hd1'⟩:=cD hT hkk (by simp)
    rw [du hd1'] at hd1
    refine ⟨_,λw _=>?_,h⟩
    have ht:argTypes[0]? = some t:=by rw [<- Va,hts]; rfl
    simp [execOp,resolve,invoke,builtin,Builtin.len_,ha,hv,ht,aK hd1,goInt]
   ·exact h.elim
  ·rename_i s hc hv
   dsimp only at hc hv
   subst hc
   split at h
   ·rename_i t ts hts
    split at h
    ·rename_i hkk
     obtain ⟨d1,hd1,hd1'⟩:=cD hT hkk (by simp)
     rw [mQ hd1'] at hd1
     refine ⟨_,λw _=>?_,h⟩
     have ht:argTypes[0]? = some t:=by rw [<- Va,hts]; rfl
     simp [execOp,resolve,invoke,builtin,Builtin.len_,ha,hv,ht,aK hd1,goInt]
    ·exact h.elim
   ·exact h.elim
  ·rename_i hc _ _
   dsimp only at hc
   subst hc
   obtain ⟨v,hv,hK⟩:=hrs _ _ h
   refine ⟨v,λw hw=>?_,Sh.dK hK⟩
   have:=hv w hw
   simp only [execOp,resolve,invoke,builtin,Sem.run_bind,Sem.run_pure,Result.andThen_ok,ha,this]
  ·rename_i k a k' b hc hv
   dsimp only at hc hv
   subst hc
   refine ⟨_,λw _=>?_,h⟩
   simp [execOp,resolve,invoke,builtin,Builtin.min_,ha,hv,Builtin.min2]
  ·rename_i k a k' b hc hv
   dsimp only at hc hv
   subst hc
   refine ⟨_,λw _=>?_,h⟩
   simp [execOp,resolve,invoke,builtin,Builtin.max_,ha,hv,Builtin.max2]
  ·exact h.elim
end
def pV (P : Program) (Fn : FuncId -> Bool) : Prop := ∀ g, Fn g = true -> ∃ fn, P.funcs[g]? = some fn /\ fn.body.isNone = false /\ (fn.name == "runtime.NumGoroutine") = false
def LS (P : Program) (g : FuncId) : Bool := match P.funcs[g]? with | some fn => !fn.body.isNone && !(fn.name == "runtime.NumGoroutine") | none => false
def ID (P:Program) (lo:Nat):Nat->Bool
 | 0=>true
 | n + 1=>LS P (lo + n) && ID P lo n
theorem EU {P:Program} {lo:Nat}:∀ {n:Nat},ID P lo n = true->∀ g,lo<=g->g < lo + n->LS P g = true
 | 0,_,g,h1,h2=>by omega
 | n + 1,h,g,h1,h2=>by
  simp only [ID,UT] at h
  by_cases hg:g = lo + n
  ·rw [hg]; exact h.1
  ·exact EU h.2 g h1 (by omega)
theorem uN {P:Program} {lo hi:Nat} (h:ID P lo (hi + 1 - lo) = true):pV P λg=>Nat.ble lo g && Nat.ble g hi:=by
 intro g hg
 simp only [UT,Nat.ble_eq] at hg
 have:=EU h g hg.1 (by omega)
 unfold LS at this
 split at this
 ·rename_i fn hfn
  simp only [UT,VQ] at this
  exact ⟨fn,hfn,this.1,this.2⟩
 ·cases this
section
variable {P:Program} {Ty:TypeId->Option cB} {Fn:FuncId->Bool} {E:Ws->Ws->Prop}
theorem fw {o:Oper} {ρ : Operand->Value} {w w' : Ws} {K:Value->Ws->Prop} {v:Value} (h:(execOp ρ o).run P w = .ok (.value v) w') (hE:E w w') (hK:K v w'):yY P E o ρ w K:=by
 unfold yY; rw [h]; exact ⟨hE,hK⟩
theorem EV {o:Oper} {ρ : Operand->Value} {w w' : Ws} {K:Value->Ws->Prop} (h:(execOp ρ o).run P w = .ok .skip w') (hE:E w w') (hK:K undef w'):yY P E o ρ w K:=by
 unfold yY; rw [h]; exact ⟨hE,hK⟩
theorem Ev.bW (w0:Ws):∀ (vs:List Value) (w:Ws) (a:Addr) (i:Nat),Ev w0 w->Ev w0 (bW w a i vs)
 | [],_,_,_,h=>h
 | v :: vs,w,a,i,h=>Ev.bW w0 vs _ a (i + 1) (h.trans (Ev.setCell _ _ _))
theorem Dj (v:Value):aH v = v.oneCell':=by cases v <;> rfl
theorem uO {w:Ws} {a b:Addr} {v u:Value} (h:w.cell? b = some u):∃ u',(w.setCell a v).cell? b = some u':=by
 unfold World.cell? World.setCell at *
 simp only [Vv]
 split at h
 ·rename_i c el fz hb
  split at h
  ·cases h
  ·rename_i hs
   by_cases hab:a.block = b.block
   ·simp only [hab,if_true,hb,VM]
    rw [UE hs]
    split
    ·exact ⟨u,h⟩
    ·by_cases ho:a.off = b.off
     ·have:=(Vd.1 h).1
      exact ⟨v,by rw [ho]; simp [this]⟩
     ·exact ⟨u,by rw [VJ ho]; exact h⟩
   ·simp only [hab,if_false,hb]
    rw [UE hs]
    exact ⟨u,h⟩
 ·cases h
theorem zB (w:Ws) (a b:Addr) (v:Value):(w.setCell a v).frozen? b = w.frozen? b:=by
 unfold World.frozen? World.setCell
 simp only [Vv]
 by_cases hab:a.block = b.block
 ·simp only [hab,if_true]
  cases h:w.heap[b.block]? with
  | none=>rfl
  | some o=>cases o <;> rfl
 ·simp only [hab,if_false]
theorem mR {w:Ws} {b:Addr} {x:Value} (a:Addr):∀ (vs:List Value) (i:Nat),jh w a i vs->jh (w.setCell b x) a i vs
 | [],_,_=>trivial
 | v :: vs,i,⟨h1,⟨u,h2⟩,h3,h4⟩=>⟨h1,uO h2,by rw [zB]; exact h3,mR a vs (i + 1) h4⟩
theorem iq (a:Addr):∀ (vs:List Value) (w:Ws) (i:Nat),jh w a i vs->(storeCells a vs i).run P w = .ok () (bW w a i vs)
 | [],w,i,_=>by simp [storeCells,bW]
 | v :: vs,w,i,⟨h1,⟨u,h2⟩,h3,h4⟩=>by
  have ih:=iq a vs (w.setCell (a.add i) v) (i + 1) (mR a vs (i + 1) h4)
  have hs:=run_store P w (a.add i) v .plain (by rw [<- Dj]; exact h1)
  simp only [h2,h3] at hs
  simp only [storeCells,Sem.run_bind,hs,bW]
  simpa using ih
theorem add_zero' (a:Addr):a.add 0 = a:=by simp [Addr.add]
theorem O2 (hT:di P Ty) {t:TypeId} {i:cB} (hi:Ty t = some i) {w:Ws} {ad:Addr} {v:Value} {k:Ws->Prop} (h:TD w ad i v k) :
  ∃ w',(storeVar t ad v).run P w = .ok () w'/\Ev w w'/\k w':=by
 obtain ⟨info,d,ha⟩:=mP hT hi
 unfold TD at h
 cases hk:i.kd.isAgg with
 | true =>
  rw [hk] at h
  cases v <;> dsimp only at h <;> first | exact h.elim | skip
  rename_i cs
  obtain ⟨hc,h1,h2⟩:=eQ h
  have hl:=pJ _ _ hc
  refine ⟨_,?_,Ev.bW w _ _ _ _ (Ev.refl _),h2 _ rfl⟩
  have hsz:cs.size = info.size:=by rw [<- ha.size,<- hl]; simp
  simp [storeVar,bJ ha.inf,Value.cells,hsz,iq _ _ _ _ h1]
 | false =>
  rw [hk] at h
  have h' : bif Nat.beq i.size 1 then st1 w ad v k else False:=by cases v <;> exact h
  obtain ⟨hc,⟨u,h1⟩,h2,h3,h4⟩:=eQ h'
  have hsz:info.size = 1:=by rw [<- ha.size]; exact V7 hc
  refine ⟨_,?_,Ev.setCell _ _ _,h4 _ rfl⟩
  have hcells:v.cells = #[v]:=by cases v <;> first | rfl | cases h3
  have:=iq (P:=P) ad [v] w 0 ⟨h3,⟨u,by rw [add_zero']; exact h1⟩,by rw [add_zero']; exact h2,trivial⟩
  simp only [bW,add_zero'] at this
  simp [storeVar,bJ ha.inf,hcells,hsz,this]
theorem zC (z:List Value):∀ n,((Array.range (n * z.length)).map λk=>(⟨z⟩ : Array Value)[k % z.length]!) = ⟨(List.replicate n z).flatten⟩:=by
 intro n
 apply VV
 simp only [Array.toList_map,Array.toList_range]
 induction n with
 | zero=>simp
 | succ n ih =>
  rw [V0,List.range_add,U1,List.replicate_succ',List.flatten_append,ih]
  congr 1
  simp only [V_,List.flatten_cons,List.flatten_nil,U3]
  apply List.ext_getElem
  ·simp
  ·intro i h1 h2
   simp only [UH,Vw] at h1
   simp [h1,Nat.mod_eq_of_lt]
theorem IE (z:List Value):∀ n,lD n z = (List.replicate n z).flatten
 | 0=>rfl
 | n + 1=>by simp [lD,IE z n,V6]
theorem EW (z:List Value):∀ n,BS n z = (List.replicate n z).flatten
 | 0=>rfl
 | n + 1=>by simp [BS,yX,EW z n,V6]
theorem da (hE:∀ a b,Ev a b->E a b) {o:Oper} {ρ : Operand->Value} {w:Ws} {K:Value->Ws->Prop} {s:Sem Value} (he:execOp ρ o = (do pure (.value (<- s)))) {R:Value->Ws->Prop} (h:aU P s w R) (hR:∀ v w',R v w'->K v w'):yY P E o ρ w K:=by
 obtain ⟨v,w',h1,h2,h3⟩:=h
 refine fw (v:=v) (w':=w') ?_ (hE _ _ h2) (hR _ _ h3)
 rw [he]; simp [h1]
theorem zD (hE:∀ a b,Ev a b->E a b) {o:Oper} {ρ : Operand->Value} {w:Ws} {K:Value->Ws->Prop} {s:Sem Unit} (he:execOp ρ o = (do s; pure .skip)) {R:Unit->Ws->Prop} (h:aU P s w R) (hR:∀ v w',R v w'->K undef w'):yY P E o ρ w K:=by
 obtain ⟨v,w',h1,h2,h3⟩:=h
 refine EV (w':=w') ?_ (hE _ _ h2) (hR _ _ h3)
 rw [he]; simp [h1]
theorem Kj {v:Value} {sh:Sh} {k:Value->Prop} (h:Q1 v sh k):k v:=by
 unfold Q1 at h
 split at h
 ·obtain ⟨n,u,rfl,h⟩:=h; exact h
 ·obtain ⟨us,rfl,h2⟩:=zo h; exact h2
 ·exact h.elim
theorem He {v:Value} {sh:Sh} {k:Value->Prop} (h:QC v sh k):k v:=by
 rcases h with ⟨rfl,h⟩ | h
 ·exact h
 ·split at h
  ·obtain ⟨us,h1,h2⟩:=zo h; rw [h1]; exact h2
  ·obtain ⟨n,u,h1,h2⟩:=h; rw [h1]; exact h2
  ·exact h.elim
theorem uP (hF:pV P Fn) {g:FuncId} (hg:Fn g = true) (args:Array Value) (w:Ws):(callFunc g args).run P w = .ok (.enter g args) w:=by
 obtain ⟨fn,h1,h2,h3⟩:=hF g hg
 have h3' : fn.name ≠ "runtime.NumGoroutine" := by simpa using h3
 have h2' : fn.body≠none:=λe=>by rw [e] at h2; cases h2
 simp [callFunc,h1,h2',h3']
theorem Hf (hF:pV P Fn) (hE:∀ a b,Ev a b->E a b) {o:Oper} {fr:Fr} {w:Ws} {K:Value->Ws->Prop} {f:Operand} {args:Array Operand} {tys:Array TypeId} {sh:Sh}
  (ho:o.op = .call { callee:=.value f,args:=args,argTypes:=tys }) {d:Bool} (h:LH P Fn E (ev fr f) (wq fr args.toList) sh w K d):yY P E o (ev fr) w K:=by
 obtain ⟨dst,op,type,pos,after,guard⟩:=o
 dsimp only at ho
 subst ho
 have ha:args.map (ev fr) = ⟨wq fr args.toList⟩:=by rw [zp]; apply VV; simp
 unfold LH at h
 split at h
 ·rename_i g first cap hv
  unfold T9 at h
  cases hg:Fn g with
  | false =>
   rw [hg] at h
   cases d with
   | false=>exact h.elim
   | true =>
   obtain ⟨v,w',h1,h2,h3⟩:=h
   refine fw (v:=v) (w':=w') ?_ (hE _ _ h2) (Sh.dK h3)
   have e2:first ++ (⟨wq fr args.toList⟩ : Array Value) ++ cap = ⟨yj first.toList (wq fr args.toList) cap.toList⟩:=by
    apply VV; simp [De]
   simp only [execOp,resolve,ha,hv,Deferred.ofValue,invoke,Sem.run_bind,Sem.run_pure,Result.andThen_ok,e2,h1]
  | true =>
  rw [hg] at h
  have h:=(by cases d <;> exact h:r_ P E g (yj first.toList (wq fr args.toList) cap.toList) w λv w'=>sh.is v λu=>K u w')
  have he:(execOp (ev fr) { dst:=dst,op:=.call { callee:=.value f,args:=args,argTypes:=tys },type:=type,pos:=pos,after:=after,guard:=guard }).run P w
    = .ok (.enter g ⟨yj first.toList (wq fr args.toList) cap.toList⟩) w:=by
   have e2:first ++ (⟨wq fr args.toList⟩ : Array Value) ++ cap = ⟨yj first.toList (wq fr args.toList) cap.toList⟩:=by
    apply VV; simp [De]
   simp only [execOp,resolve,ha,hv,Deferred.ofValue,invoke,Sem.run_bind,Sem.run_pure,Result.andThen_ok,e2,uP hF hg]
  unfold yY
  rw [he]
  refine ⟨hE _ _ (Ev.refl _),?_⟩
  exact Calls.mono h λe w' ⟨v,h1,h2,h3⟩=>⟨v,h1,h2,Sh.dK h3⟩
 ·rename_i l first cap hv
  obtain ⟨f',tmps,assign,body,hy,hr⟩:=h
  have he:(execOp (ev fr) { dst:=dst,op:=.call { callee:=.value f,args:=args,argTypes:=tys },type:=type,pos:=pos,after:=after,guard:=guard }).run P w
    = .ok (.round l f' tmps assign body) w:=by
   have e2:first ++ (⟨wq fr args.toList⟩ : Array Value) = ⟨EI first.toList (wq fr args.toList)⟩:=by
    apply VV; simp [yX]
   simp only [execOp,resolve,ha,hv,Deferred.ofValue,invoke,Sem.run_bind,Sem.run_pure,Result.andThen_ok,e2,hy]
  unfold yY
  rw [he]
  refine ⟨hE _ _ (Ev.refl _),?_⟩
  exact RoundIn.mono hr λe w' ⟨v,h1,h2,h3⟩=>⟨v,h1,h2,Sh.dK h3⟩
 ·exact h.elim

theorem B5 (hT:di P Ty) (hF:pV P Fn) (hE:∀ a b,Ev a b->E a b) {o:Oper} {fr:Fr} {w:Ws} {K:Value->Ws->Prop} (h:LI P Ty Fn E o fr w K):yY P E o (ev fr) w K:=by
 have h0:=h
 obtain ⟨dst,op,type,pos,after,guard⟩:=o
 unfold LI at h
 cases op <;> dsimp only at h <;> first | exact h.elim | skip
 case alloc t =>
  split at h
  ·rename_i i hi
   obtain ⟨info,d,ha⟩:=mP hT hi
   split at h
   ·rename_i z hz
    have hz' : info.zero = some z:=by rw [<- ha.zero,hz]
    refine fw (w':={ w with heap:=w.heap.push (.cells ⟨cellsOf z⟩ t) }) ?_ (hE _ _ (Ev.push _ _)) (h _ _ rfl rfl)
    have e:z.cells = ⟨cellsOf z⟩:=by rw [cM]
    simp [execOp,Instr.alloc,ji ha.inf hz',newVar,newRow,e]
   ·exact h.elim
  ·exact h.elim
 case box t x =>
  refine fw (w':={ w with heap:=w.heap.push (.cells ⟨cellsOf (ev fr x)⟩ t) }) ?_ (hE _ _ (Ev.push _ _)) (h _ _ rfl rfl)
  have e:(ev fr x).cells = ⟨cellsOf (ev fr x)⟩:=by rw [cM]
  simp [execOp,Instr.box,newVar,newRow,e]
 case buildSlice t n ps =>
  split at h
  ·rename_i e hk
   obtain ⟨d1,hd1,hd1'⟩:=cD hT hk (by simp)
   rw [du hd1'] at hd1
   split at h
   ·rename_i i hi
    obtain ⟨info,d,ha⟩:=mP hT hi
    split at h
    ·rename_i z hz
     have hz' : info.zero = some z:=by rw [<- ha.zero,hz]
     obtain ⟨hc,h⟩:=eQ h
     simp only [UT,Nat.ble_eq] at hc
     obtain ⟨⟨hl,hn1,hn2⟩,hs⟩:=hc
     have hl:=pJ _ _ hl
     obtain ⟨cs,hcs,h⟩:=wz h
     refine fw (w':={ w with heap:=w.heap.push (.cells ⟨cs⟩ e) }) ?_ (hE _ _ (Ev.push _ _)) (h _ _ rfl rfl)
     have hf:=fill_eq _ _ _ hcs
     have hzc:z.cells = ⟨cellsOf z⟩:=by rw [cM]
     have hsz:info.size = (cellsOf z).length:=by rw [hl,ha.size]
     have hlt:n * info.size<=16777216:=by
      have:n * info.size<=4096 * 4096:=Nat.mul_le_mul hn1 (by rw [<- ha.size]; exact hn2)
      omega
     have hne:∀ hh:n * info.size = 0,n = 0:=λhh=>by
      rcases Nat.mul_eq_zero.1 hh with h | h
      ·exact h
      ·rw [<- ha.size] at h; omega
     simp only [execOp,Instr.buildSlice,Sem.run_bind,aK hd1,bJ ha.inf,Result.andThen_ok,parts_eq]
     rw [UE (by omega)]
     have hpl:(λk=>some (k * i.size,i.size)) = (λk=>some (k * info.size,info.size)):=by rw [ha.size]
     rw [hpl] at hf
     by_cases h00:n * info.size = 0
     ·have:=hne h00
      subst this
      have hf0:Instr.fill (λi=>some (i * info.size,info.size)) ((Array.range 0).map λ_=>default) (xR fr ps.toList) = some ⟨cs⟩:=by
       rw [show ((Array.range 0).map λ_=>(default:Value)) = (⟨BS 0 (cellsOf z)⟩ : Array Value) from by simp [BS]]; exact hf
      simp [hf0,newRow]
     ·simp only [h00,if_false,Sem.run_bind,ji ha.inf hz',Result.andThen_ok,Sem.run_pure,hzc]
      have hz2:=zC (cellsOf z) n
      rw [<- hsz] at hz2
      have:(⟨cellsOf z⟩ : Array Value).size = info.size:=by simp [hsz]
      rw [this,hz2,<- EW,hf]
      simp [newRow]
    ·exact h.elim
   ·exact h.elim
  ·exact h.elim
 case store t a x =>
  split at h
  ·rename_i p i ha hi
   obtain ⟨ad,rfl,h⟩:=uM h
   obtain ⟨w',hr,hEv,hK⟩:=O2 hT hi h
   refine EV (w':=w') ?_ (hE _ _ hEv) hK
   simp [execOp,Instr.storeAt,ha,Instr.sureAddr,hr]
  ·exact h.elim
 case convert s d x=>exact da hE rfl h λv w' h=>Sh.dK h
 case makeMap t r =>
  cases r with
  | some r=>exact h.elim
  | none =>
   refine fw (w':={ w with heap:=w.heap.push (.map #[] 0) }) ?_ (hE _ _ (Ev.push _ _)) (h _ _ rfl rfl)
   simp [execOp,Instr.makeMap]
 case makeSlice t l c =>
  split at h
  ·rename_i e hk
   obtain ⟨d1,hd1,hd1'⟩:=cD hT hk (by simp)
   rw [du hd1'] at hd1
   split at h
   ·rename_i i k1 n1 k2 n2 hi hl hc
    obtain ⟨info,d,ha⟩:=mP hT hi
    obtain ⟨hb,h⟩:=eQ h
    unfold QA at h
    split at h
    ·rename_i z hz
     rw [hz] at hb
     simp only [UT,Nat.ble_eq] at hb
     obtain ⟨⟨hlen,hby⟩,hs⟩:=hb
     have hlen:=pJ _ _ hlen
     obtain ⟨⟨h1,rfl,h3⟩,hK⟩:=h
     have hz' : info.zero = some z:=by rw [<- ha.zero,hz]
     have hzc:z.cells = ⟨cellsOf z⟩:=by rw [cM]
     have hsz:info.size = (cellsOf z).length:=by rw [hlen,ha.size]
     refine fw (w':={ w with heap:=w.heap.push (.cells ⟨lD n1.toNat (cellsOf z)⟩ e) }) ?_ (hE _ _ (Ev.push _ _)) (hK _ _ rfl rfl)
     have hb1:(1:Int)<=i.bytes:=by omega
     have hn1:n1<=140737488355328:=Int.le_trans (by have:=Int.mul_le_mul_of_nonneg_right hb1 h1; omega) h3
     have hw:IntKind.i64.wrap n1 = n1:=C_ ⟨by omega,by omega⟩
     have h3' : (info.bytes:Int) * n1<=140737488355328:=by rw [<- ha.bytes]; exact h3
     have hA:¬ n1 < 0:=by omega
     have hB:¬ (281474976710656:Int) < info.bytes * n1:=by omega
     have hz2:=zC (cellsOf z) n1.toNat
     rw [<- hsz] at hz2
     have hsz2:(⟨cellsOf z⟩ : Array Value).size = info.size:=by simp [hsz]
     have hne:n1.toNat * info.size = 0->n1.toNat = 0:=λhh=>by
      rcases Nat.mul_eq_zero.1 hh with h | h
      ·exact h
      ·rw [<- ha.size] at h; omega
     have e0:∀ f:Nat->Value,(Array.range 0).map f = #[]:=λ_=>by simp
     have hz3:Array.map (λx=>(cellsOf z)[x % (cellsOf z).length]?.getD default) (Array.range (n1.toNat * info.size)) = ⟨(List.replicate n1.toNat (cellsOf z)).flatten⟩:=by
      rw [<- hz2,hsz]; congr 1; funext k; simp
     by_cases h00:n1.toNat * info.size = 0
     ·have h01:=hne h00
      simp [execOp,Instr.makeSlice,aK hd1,hl,hc,asInt,asIntOf,EO ha.inf,bJ ha.inf,hw,hA,hB,h01,lD,newRow,e0]
     ·simp [execOp,Instr.makeSlice,aK hd1,hl,hc,asInt,asIntOf,EO ha.inf,bJ ha.inf,hw,hA,hB,newRow,h00,ji ha.inf hz',hzc,IE]
      rw [hz3]
    ·exact h.elim
   ·exact h.elim
  ·exact h.elim
 case lookup t m k ok=>exact da hE rfl h λv w' h=>Sh.dK h
 case mapUpdate t m k x=>exact zD hE rfl h λv w' h=>h
 case insert t m k x=>exact zD hE rfl h λv w' h=>h
 case mapEntry t m k=>exact da hE rfl h λv w' h=>Sh.dK h
 case entryStore t m s x=>exact zD hE rfl h λv w' h=>h
 case range t x=>exact da hE rfl h λv w' h=>Sh.dK h
 case next it isS=>exact da hE rfl h λv w' h=>He h
 case entry it=>exact da hE rfl h λv w' h=>Kj h
 case typeAssert x t u ok=>exact da hE rfl h λv w' h=>Sh.dK h
 case call c =>
  obtain ⟨callee,args,argTypes⟩:=c
  have ha:args.map (ev fr) = ⟨wq fr args.toList⟩:=by rw [zp]; apply VV; simp
  cases callee with
  | value f=>exact Hf hF hE rfl h
  | invoke r m=>exact h.elim
  | builtin b =>
   dsimp only at h
   unfold Ua at h
   cases b <;> dsimp only at h <;> first | exact h.elim | skip
   case append=>exact da (s:=Builtin.append_ argTypes type ⟨wq fr args.toList⟩) hE (by simp only [execOp,resolve,invoke,builtin,ha]; rfl) h λv w' h=>Sh.dK h
   case copy=>exact da (s:=Builtin.copy_ argTypes type ⟨wq fr args.toList⟩) hE (by simp only [execOp,resolve,invoke,builtin,ha]; rfl) h λv w' h=>Sh.dK h
   case delete=>exact da (s:=Builtin.delete_ argTypes type ⟨wq fr args.toList⟩) hE (by simp only [execOp,resolve,invoke,builtin,ha]; rfl) h λv w' h=>h
   case clear=>exact da (s:=Builtin.clear_ argTypes type ⟨wq fr args.toList⟩) hE (by simp only [execOp,resolve,invoke,builtin,ha]; rfl) h λv w' h=>h
   case cap=>exact da (s:=Builtin.cap_ argTypes type ⟨wq fr args.toList⟩) hE (by simp only [execOp,resolve,invoke,builtin,ha]; rfl) h λv w' h=>Sh.dK h
   case unsafeSliceData=>exact da (s:=Builtin.unsafeSliceData_ argTypes type ⟨wq fr args.toList⟩) hE (by simp only [execOp,resolve,invoke,builtin,ha]; rfl) h λv w' h=>Sh.dK h
   case unsafeString=>exact da (s:=Builtin.unsafeString_ argTypes type ⟨wq fr args.toList⟩) hE (by simp only [execOp,resolve,invoke,builtin,ha]; rfl) h λv w' h=>Sh.dK h
theorem LU {w:Ws}:∀ (ad:Addr) (i:cB) (k:Value->Prop),Sx w ad i k->∃ v,(∀ w',w' = w->lW w' ad i v)/\k v :=
 λ_ _ _ h=>let ⟨v,h1,h2⟩:=EP h; ⟨v,λ_ e=>e ▸ h1,h2⟩
theorem LV {w:Ws}:∀ (s:Sem Value) (k:Value->Prop),TH P w s k->∃ v,(∀ w',w' = w->s.run P w' = .ok v w')/\k v :=
 λ_ _ ⟨v,h1,h2⟩=>⟨v,λ_ e=>by subst e; exact h1,h2⟩
theorem LW (hT:di P Ty) (hF:pV P Fn) (hE:∀ a b,Ev a b->E a b) {o:Oper} {fr:Fr} {w:Ws} {K:Value->Ws->Prop} (h:Iy P Ty Fn E o fr w K):yY P E o (ev fr) w K:=by
 cases hs:dL Ty o with
 | true =>
  have h' : pM P Ty (Sx w) (TH P w) o fr (λv=>K v w):=by simpa only [Iy,hs,cond_true] using h
  obtain ⟨v,h1,h2⟩:=pU hT LU LV (C:=λw'=>w' = w) h'
  exact fw (h1 w rfl) (hE _ _ (Ev.refl _)) h2
 | false =>
  have h' : LI P Ty Fn E o fr w K:=by simpa only [Iy,hs,cond_false] using h
  exact B5 hT hF hE h'
end
def wf (r:Option Nat):Fence:={ fn:=λ_=>True,depth:=none,alive:=false,round:=r }
def mK (ws:List Nat) (fr fr' : Fr):Prop:=∀ t,t∉ws->dE fr' t = dE fr t
theorem mK.refl (ws:List Nat) (fr:Fr):mK ws fr fr:=λ_ _=>rfl
theorem mK.mono {ws ws' : List Nat} {a b:Fr} (h:mK ws a b) (hs:∀ x∈ws,x∈ws'):mK ws' a b:=λt ht=>h t λhx=>ht (hs t hx)
theorem mK.trans {ws:List Nat} {a b c:Fr} (h:mK ws a b) (k:mK ws b c):mK ws a c:=λt ht=>(k t ht).trans (h t ht)
theorem mK.put {ws:List Nat} {N:Nat} {a b:Fr} (h:mK ws a b) {d:Option Tmp} (v:Value) (hd:∀ x,d = some x->x∈ws):mK ws a (V.put N b d v):=by
 intro t ht
 cases d with
 | none=>exact h t ht
 | some x=>rw [jZ,UE (λ(e:x = t/\x < N)=>ht (e.1 ▸ hd x rfl))]; exact h t ht

section
variable {P:Program} {Ty:TypeId->Option cB} {Fn:FuncId->Bool} {E:Ws->Ws->Prop}
theorem semAt_eq {r:Option Nat} {ρ : Operand->Value} {o:Oper} (h:∀ c,o.op≠.defer c):o.semAt r ρ = execOp ρ o:=by
 cases r with
 | none=>rfl
 | some l=>exact Oper.semAt_some l ρ o h
theorem EX {o:Oper} {ρ : Operand->Value} {w:Ws} {K:Value->Ws->Prop} (h:yY P E o ρ w K):∀ c,o.op≠.defer c:=by
 intro c hc
 unfold yY at h
 simp only [execOp,hc,Sem.run_bind] at h
 cases hr:(resolve ρ c o.type).run P w with
 | ok d w'=>rw [hr] at h; simp at h
 | halt x w'=>rw [hr] at h; simp at h
theorem EY {r:Option Nat} {n:Nat} {o:Oper} {a:Act} {w:Ws} {next:Act->Ws->Prop} {Q:Exit->Act->Ws->Prop} (h:yY P E o a.eval w λv w'=>next (a.put o.dst v) w'):o.wpIn (wf r) n P a w next Q:=by
 refine ⟨λ_ _=>trivial,?_⟩
 have he:o.semAt (wf r).round a.eval = execOp a.eval o:=semAt_eq (EX h)
 rw [he]
 unfold yY at h
 split at h
 ·rename_i v w' hr; rw [hr]; exact h.2
 ·rename_i w' hr; rw [hr]; exact h.2
 ·rename_i f args w' hr
  rw [hr]
  refine ⟨λh=>(by cases h),?_⟩
  have hc:CallsIn Fence.wide (n - 1) P f args w' λe w''=>∃ v,e = .returned v/\E w' w''/\next (a.put o.dst v) w'':=callsIn_wide.2 h.2
  exact CallsIn.mono (F:=wf r) hc λe w'' ⟨v,he,_,hk⟩=>by subst he; exact hk
 ·rename_i l f tmps assign body w' hr
  rw [hr]
  refine ⟨λh=>(by cases h),trivial,λc cs _=>?_⟩
  obtain ⟨e,w'',⟨v,rfl,_,hk⟩,hs⟩:=h.2.2 c cs (room_wide _)
  exact ⟨.returned v,w'',hk,hs⟩
 ·exact h.elim
def gZ (all:List Oper) (fr:Fr) (o:Oper):Bool :=
 match o.guard with
 | none=>true
 | some (j,t)=>match xS all j with
  | some d=>(match dE fr d with | .bool b=>Iz b t | _=>false)
  | none=>false
theorem wA {all:List Oper} {fr:Fr} {o:Oper} {yes no:Prop}:EK all fr o yes no↔(if gZ all fr o = true then yes else no):=by
 unfold EK gZ
 cases o.guard with
 | none=>simp
 | some g =>
  obtain ⟨j,t⟩:=g
  cases hd:xS all j with
  | none=>simp [hd]
  | some d =>
   cases hv:dE fr d with
   | bool b=>simp only [hd,hv]; cases Iz b t <;> simp
   | _=>simp [hd,hv]
theorem Dk:∀ (l:List Oper) (n:Nat),G8 l n = l[n]?
 | [],n=>by simp [G8]
 | o :: l,0=>by simp [G8]
 | o :: l,n + 1=>by simp [G8,Dk l n]
theorem LX (a b:Bool):Iz a b = (a == b):=by cases a <;> cases b <;> rfl
theorem B6 {N:Nat} {fr:Fr} (hf:Fits N fr) (ds:List Deferred) (all:List Oper) (o:Oper):Region.wanted o (yielded ⟨all⟩ (aP N fr ds).tmps) = gZ all fr o:=by
 unfold Region.wanted gZ
 cases hg:o.guard with
 | none=>rfl
 | some g =>
  obtain ⟨j,t⟩:=g
  have hd:xS all j = ((⟨all⟩ : Array Oper)[j]?).bind (·.dst):=by
   unfold xS; rw [Dk]; simp only [List.getElem?_toArray]; cases all[j]? <;> rfl
  simp only [yielded,<- hd]
  cases hdj:xS all j with
  | none=>rfl
  | some d =>
   simp only [Option.bind_some]
   have hget:(aP N fr ds).tmps[d]? = if d < N then some (dE fr d) else none:=by
    simp only [aP,List.getElem?_toArray,UD]
    by_cases h:d < N
    ·simp [h]
    ·simp [h]
   rw [hget]
   by_cases h:d < N
   ·rw [UJ h]
    cases hv:dE fr d <;> simp [LX]
   ·rw [UE h,hf d (Nat.le_of_not_lt h)]
    rfl
theorem lX {g:Bool} {v:Value} {k:Value->Prop} (h:zu g v k):k v:=by
 unfold zu at h
 split at h
 ·exact Ka h
 ·exact h
theorem B7 (hT:di P Ty) (hF:pV P Fn) (hE:C8 E) {N:Nat} {r:Option Nat} {n:Nat} {all:List Oper} {ds:List Deferred} {K:Fr->Ws->Prop} {Q:Exit->Act->Ws->Prop} :
  ∀ (l:List Oper) (i:Nat) (fr:Fr) (w:Ws),wv P Ty Fn E N all i l fr w K->Fits N fr ->
   (∀ fr' w',Fits N fr'->mK (dstsOf l) fr fr'->E w w'->K fr' w'->Q .normal (aP N fr' ds) w')->wpListIn (wf r) n P ⟨all⟩ Q l (aP N fr ds) w
 | [],i,fr,w,h,hf,hQ=>hQ fr w hf (mK.refl _ _) (hE.ofEv _ _ (Ev.refl w)) h
 | o :: l,i,fr,w,h,hf,hQ=>by
  have sub:∀ x,o.dst = some x->x∈dstsOf (o :: l):=λx hx=>by simp [dstsOf,hx]
  have subl:∀ x∈dstsOf l,x∈dstsOf (o :: l):=λx hx=>by
   unfold dstsOf; cases o.dst <;> simp [hx]
  have next:∀ v w',E w w'->wv P Ty Fn E N all (i + 1) l (put N fr o.dst v) w' K->wpListIn (wf r) n P ⟨all⟩ Q l ((aP N fr ds).put o.dst v) w':=λv w' hew hd=>by
   rw [C9]
   exact B7 hT hF hE l (i + 1) _ w' hd (uG hf _ _) λfr' w'' h1 h2 h3 h4 =>
    hQ fr' w'' h1 (((mK.refl _ fr).put v sub).trans (h2.mono subl)) (hE.trans hew h3) h4
  simp only [wv] at h
  rw [wA] at h
  simp only [wpListIn,B6 hf]
  by_cases hw:gZ all fr o = true
  ·rw [UJ hw] at h ⊢
   have hs:=LW hT hF hE.ofEv h
   refine EY (E:=E) ?_
   rw [It N fr ds hf]
   exact hs.mono (λv w' hew hk=>next v w' hew (lX hk)) hE.trans
  ·rw [UE hw] at h ⊢
   exact ⟨λ_ _=>trivial,next undef w (hE.ofEv _ _ (Ev.refl w)) h⟩
end
def ar (ls:List Bool):Array Bool:=⟨ls⟩
theorem Dl:∀ (ls:List Bool) (i:Nat),G9 ls i = (ar ls).getD i true
 | [],i=>by simp [G9,ar]
 | b :: l,0=>by simp [G9,ar]
 | b :: l,n + 1=>by
  have:=Dl l n
  simp only [G9,this,ar]
  by_cases h:n < l.length <;> simp [h]
theorem EZ:∀ (ls:List Bool) (i:Nat),BU ls i = (ar ls).getD i false
 | [],i=>by simp [BU,ar]
 | b :: l,0=>by simp [BU,ar]
 | b :: l,n + 1=>by
  have:=EZ l n
  simp only [BU,this,ar]
  by_cases h:n < l.length <;> simp [h]
theorem zE : ∀ (ls:List Bool) (i:Nat),fW ls i = ls.set i true
 | [],i=>by simp [fW]
 | b :: l,0=>by simp [fW]
 | b :: l,n + 1=>by simp [fW,zE l n]
theorem ri (ls:List Bool) (i:Nat):ar (fW ls i) = (ar ls).setIfInBounds i true:=by
 rw [zE]; apply VV; simp [ar]
theorem Kk (ls:List Bool) (i j:Nat):fW (fW ls i) j = fW (fW ls j) i:=by
 simp only [zE]
 by_cases h:i = j
 ·subst h; rfl
 ·exact List.set_comm _ _ h
theorem zF {ls:List Bool}:∀ {es:List Edge},zv ls es = true↔∀ e∈es,Region.binds .any e = true->(ar ls).getD e.on false = true
 | []=>by simp [zv]
 | e :: l=>by
  have ih:=zF (ls:=ls) (es:=l)
  simp only [zv,UT,ih,UR,forall_eq_or_imp]
  cases hg:e.ground <;> simp [Region.binds,hg,EZ]
theorem B8 {i:Nat}:∀ {es:List Edge},waits i es = true↔∃ e∈es,Region.binds .any e = true/\e.on = i
 | []=>by simp [waits]
 | e :: l=>by
  have ih:=B8 (i:=i) (es:=l)
  simp only [waits,VH,ih,UR,exists_eq_or_imp]
  cases hg:e.ground <;> simp [Region.binds,hg]
theorem jc {ls:List Bool} {i:Nat} {o:Oper}:EL ls i o = true↔(ar ls).getD i true = false/\∀ e∈o.after,Region.binds .any e = true->(ar ls).getD e.on false = true:=by
 unfold EL
 rw [UT,zF,Dl]
 simp
theorem zG {ls:List Bool}:∀ {l:List Oper} {i:Nat} {x:Nat × Oper},x∈dX ls i l↔∃ k,x.1 = i + k/\l[k]? = some x.2/\EL ls x.1 x.2 = true
 | [],i,x=>by simp [dX]
 | o :: l,i,x=>by
  have ih:=zG (ls:=ls) (l:=l) (i:=i + 1) (x:=x)
  have:x∈dX ls i (o :: l)↔(x = (i,o)/\EL ls i o = true)\/x∈dX ls (i + 1) l:=by
   simp only [dX]
   cases h:EL ls i o <;> simp
  rw [this,ih]
  constructor
  ·rintro (⟨rfl,h⟩ | ⟨k,h1,h2,h3⟩)
   ·exact ⟨0,rfl,rfl,h⟩
   ·exact ⟨k + 1,by omega,by simpa using h2,h3⟩
  ·rintro ⟨k,h1,h2,h3⟩
   cases k with
   | zero=>exact .inl ⟨by obtain ⟨a,b⟩:=x; simp at h1 h2; simp [h1,h2],by obtain ⟨a,b⟩:=x; simp at h1 h2; subst h1; subst h2; exact h3⟩
   | succ k=>exact .inr ⟨k,by omega,by simpa using h2,h3⟩
theorem fZ {ls:List Bool} {l:List Oper} {x:Nat × Oper}:x∈dX ls 0 l↔l[x.1]? = some x.2/\EL ls x.1 x.2 = true:=by
 rw [zG]
 constructor
 ·rintro ⟨k,h1,h2,h3⟩; rw [Vr] at h1; rw [h1]; exact ⟨h2,h1 ▸ h3⟩
 ·rintro ⟨h1,h2⟩; exact ⟨x.1,by omega,h1,h2⟩
theorem ml {ls:List Bool} {l:List Oper} {j:Nat}:j∈Region.ready .any ⟨l⟩ (ar ls)↔∃ o,(j,o)∈dX ls 0 l:=by
 rw [mem_ready]
 constructor
 ·rintro ⟨h0,o,ho,hd⟩
  exact ⟨o,fZ.2 ⟨by simpa using ho,jc.2 ⟨h0,hd⟩⟩⟩
 ·rintro ⟨o,h⟩
  obtain ⟨h1,h2⟩:=fZ.1 h
  obtain ⟨h3,h4⟩:=jc.1 h2
  exact ⟨h3,o,by simpa using h1,h4⟩
theorem zH {ls:List Bool} {i j:Nat} {o:Oper} (h:EL ls j o = true) (hne:j≠i):EL (fW ls i) j o = true:=by
 rw [jc] at *
 rw [ri]
 exact ⟨by rw [getD_set_ne true (Ne.symm hne)]; exact h.1,λe he hb=>getD_set_true (h.2 e he hb)⟩
theorem IF:∀ l m,OV l m = l ++ m
 | [],_=>rfl
 | x :: l,m=>by simp [OV,IF l m]
theorem Dm:∀ l,OW l = l.map (·.2)
 | []=>rfl
 | (a,x) :: l=>by simp [OW,Dm l]
theorem LY (o:Op):∀ x,x∈LM o↔x∈o.operands:=by
 intro x
 cases o <;> simp only [LM,Op.operands] <;> try (simp; done)
 case build t ps=>simp [Dm]
 case buildSlice t n ps=>simp [Dm]
 case makeFunc fn a b=>simp [IF]
 case slice t y l h m=>cases l <;> cases h <;> cases m <;> simp [OU]
 case call c =>
  obtain ⟨callee,args,tys⟩:=c
  cases callee <;> simp [Call.operands]
theorem wB {t:Nat}:∀ {l:List Operand} {m:List Nat},t∈BV l m↔Operand.tmp t∈l\/t∈m
 | [],m=>by simp [BV]
 | x :: l,m=>by
  have ih:=wB (t:=t) (l:=l) (m:=m)
  cases x <;> simp [BV,ih,or_assoc]
theorem pW {x:Nat}:∀ {l:List Nat},nT x l = true↔x∈l
 | []=>by simp [nT]
 | y :: l=>by simp [nT,pW (l:=l)]
theorem Kl {all:List Oper} {x y:Oper} (h:wx all x y = true) :
  (∀ d,x.dst = some d->d∉looks all y)/\(∀ d,x.dst = some d->y.dst≠some d)/\(∀ d,y.dst = some d->d∉looks all x):=by
 simp only [wx,UT] at h
 obtain ⟨⟨h1,h2⟩,h3⟩:=h
 refine ⟨λd hd=>?_,λd hd hy=>?_,λd hd=>?_⟩
 ·rw [hd] at h1; simp only [Df,VQ] at h1
  intro hm; rw [pW.2 hm] at h1; cases h1
 ·rw [hd,hy] at h2; simp [QD] at h2
 ·rw [hd] at h3; simp only [Df,VQ] at h3
  intro hm; rw [pW.2 hm] at h3; cases h3
theorem B9 {all:List Oper} {ls:List Bool} {i:Nat} {o:Oper}:∀ {l:List Oper} {j:Nat},IB all ls i o j l = true->∀ k p,l[k]? = some p->j + k≠i->(ar ls).getD (j + k) true = false->waits i p.after.toList = false->wx all o p = true
 | [],j,h,k,p,hk,_,_,_=>by simp at hk
 | q :: l,j,h,k,p,hk,hne,hb,hw=>by
  simp only [IB,UT,VH,Nat.beq_eq] at h
  cases k with
  | zero =>
   simp only [We,Option.some.injEq] at hk
   subst hk
   rw [Wo] at hne hb
   rw [Dl] at h
   rcases h.1 with ((h1 | h1) | h1) | h1
   ·exact absurd h1 hne
   ·rw [hb] at h1; cases h1
   ·rw [hw] at h1; cases h1
   ·exact h1
  | succ k =>
   exact B9 h.2 k p (by simpa using hk) (by omega) (by rw [show j + 1 + k = j + (k + 1) by omega]; exact hb) hw
def ext (a b:Fr):Prop:=∀ t,dE a t = dE b t
theorem IG {N:Nat} {a b:Fr} (h:ext a b) (d:Option Tmp) (v:Value):ext (put N a d v) (put N b d v):=by
 intro t
 cases d with
 | none=>exact h t
 | some d=>rw [jZ,jZ,h t]
theorem put_comm {N:Nat} {a:Fr} {x y:Option Tmp} {v u:Value} (h:∀ d,x = some d->y≠some d):ext (put N (put N a x v) y u) (put N (put N a y u) x v):=by
 intro t
 cases x with
 | none=>rfl
 | some d =>
  cases y with
  | none=>rfl
  | some e =>
   have hne:d≠e:=λhe=>h d rfl (by rw [he])
   simp only [jZ]
   by_cases h1:e = t
   ·subst h1
    simp [hne]
   ·rw [UE (show ¬ (e = t/\e < N) from λh=>h1 h.1)]
    by_cases h2:d = t/\d < N
    ·rw [UJ h2,UJ h2]
    ·rw [UE h2,UE h2,UE (show ¬ (e = t/\e < N) from λh=>h1 h.1)]
theorem Q_ {a b:Fr} (h:ext a b):ev a = ev b:=by
 funext x; cases x <;> simp [ev,h _]
theorem Km {all:List Oper} {a b:Fr} (h:ext a b) (o:Oper):gZ all a o = gZ all b o:=by
 unfold gZ; simp only [h _]
theorem Hg {all:List Oper} {o:Oper} {t:Nat} (h:Operand.tmp t∈o.op.operands):t∈looks all o :=
 wB.2 (.inl ((LY o.op _).2 h))
theorem E0 {all:List Oper} {N:Nat} {fr:Fr} {o:Oper} (hs:∀ cs b,o.op≠.select cs b) {d:Option Tmp} {v:Value} (h:∀ x,d = some x->x∉looks all o):execOp (ev (put N fr d v)) o = execOp (ev fr) o:=by
 refine execOp_congr o hs λx hx=>?_
 cases x with
 | tmp t =>
  cases d with
  | none=>rfl
  | some e =>
   simp only [ev,jZ]
   rw [UE]
   rintro ⟨rfl,_⟩
   exact h e rfl (Hg hx)
 | _=>rfl
theorem E1 {all:List Oper} {N:Nat} {fr:Fr} {o:Oper} {d:Option Tmp} {v:Value} (h:∀ x,d = some x->x∉looks all o):gZ all (put N fr d v) o = gZ all fr o:=by
 cases d with
 | none=>rfl
 | some e =>
  unfold gZ
  cases hg:o.guard with
  | none=>rfl
  | some g =>
   obtain ⟨j,t⟩:=g
   dsimp only
   cases hd:xS all j with
   | none=>rfl
   | some d =>
    have hm:d∈looks all o:=by unfold looks; rw [hg]; simp only [hd]; exact wB.2 (.inr (by simp))
    simp only [jZ]
    rw [UE]
    rintro ⟨rfl,_⟩
    exact h e rfl hm
section
variable {P:Program} {Ty:TypeId->Option cB} {Fn:FuncId->Bool} {E:Ws->Ws->Prop} {N:Nat} {C:Ws->Prop} {all:List Oper} {Kend:Fr->Ws->Prop}
theorem LZ {o:Oper} {ρ ρ' : Operand->Value} {w:Ws} {K:Value->Ws->Prop} (he:execOp ρ o = execOp ρ' o) (h:yY P E o ρ w K):yY P E o ρ' w K:=by
 unfold yY at *; rw [<- he]; exact h
def cS (Ty:TypeId->Option cB) (all:List Oper) (C:Ws->Prop) (o:Oper) (w w' : Ws):Prop:=(dL Ty o = true->w' = w)/\(dL Ty o = false->zw Ty all o.after.toList = true->C w')
def pX (P:Program) (Ty:TypeId->Option cB) (E:Ws->Ws->Prop) (N:Nat) (C:Ws->Prop) (all:List Oper) (Kend:Fr->Ws->Prop):Nat->List Bool->Fr->Ws->Prop
 | 0,ls,fr,w=>dX ls 0 all = []/\Kend fr w
 | n + 1,ls,fr,w=>(dX ls 0 all = []->Kend fr w)/\∀ x∈dX ls 0 all,
   if gZ all fr x.2 = true then yY P E x.2 (ev fr) w λv w'=>cS Ty all C x.2 w w'/\pX P Ty E N C all Kend n (fW ls x.1) (put N fr x.2.dst v) w'
   else pX P Ty E N C all Kend n (fW ls x.1) (put N fr x.2.dst undef) w
theorem zI (hE:C8 E) (hK:∀ a b w,ext a b->Kend a w->Kend b w):∀ (n:Nat) (ls:List Bool) (a b:Fr) (w:Ws),ext a b->pX P Ty E N C all Kend n ls a w->pX P Ty E N C all Kend n ls b w
 | 0,ls,a,b,w,he,h=>⟨h.1,hK a b w he h.2⟩
 | n + 1,ls,a,b,w,he,h=>by
  refine ⟨λh0=>hK a b w he (h.1 h0),λx hx=>?_⟩
  have:=h.2 x hx
  rw [Km he] at this
  split
  ·rename_i hw
   rw [UJ hw] at this
   rw [<- Q_ he]
   exact this.mono (λv w' _ hk=>⟨hk.1,zI hE hK n _ _ _ w' (IG he _ _) hk.2⟩) hE.trans
  ·rename_i hw
   rw [UE hw] at this
   exact zI hE hK n _ _ _ w (IG he _ _) this
def Cl (all:List Oper) (ls:List Bool):Prop:=∀ j o,all[j]? = some o->(ar ls).getD j false = true->∀ e∈o.after,Region.binds .any e = true->(ar ls).getD e.on false = true
theorem wC {i:Nat}:∀ {es:List Edge} {m:List Nat},i∈uJ es m↔(∃ e∈es,Region.binds .any e = true/\e.on = i)\/i∈m
 | [],m=>by simp [uJ]
 | e :: l,m=>by
  have ih:=wC (i:=i) (es:=l) (m:=m)
  have e1:(∃ x∈e :: l,Region.binds .any x = true/\x.on = i)↔(Region.binds .any e = true/\e.on = i)\/∃ x∈l,Region.binds .any x = true/\x.on = i:=by
   simp only [UR,exists_eq_or_imp]
  rw [e1,or_assoc,<- ih]
  have hb:Region.binds .any e = (match e.ground with | .textOnly _ | .gcOnly _=>false | _=>true):=by
   cases hg:e.ground <;> simp [Region.binds,hg]
  rw [hb]
  conv=>lhs; unfold uJ
  cases hg:e.ground <;> simp [eq_comm]
theorem tA {ls:List Bool} (hcl:Cl all ls):∀ (n:Nat) (todo done:List Nat),(∀ j∈todo,(ar ls).getD j false = true)->(∀ j∈done,(ar ls).getD j false = true)->∀ j∈Q5 all n todo done,(ar ls).getD j false = true
 | 0,_,done,_,h2,j,hj=>h2 j hj
 | n + 1,[],done,_,h2,j,hj=>h2 j hj
 | n + 1,k :: todo,done,h1,h2,j,hj=>by
  unfold Q5 at hj
  have hk:=h1 k (by simp)
  split at hj
  ·exact tA hcl n todo done (λj hj=>h1 j (by simp [hj])) h2 j hj
  ·refine tA hcl n _ _ (λj hj=>?_) (λj hj=>?_) j hj
   ·split at hj
    ·rename_i o ho
     rw [Dk] at ho
     rcases wC.1 hj with ⟨e,he,hb,rfl⟩ | hj
     ·exact hcl k o ho hk e (by simpa using he) hb
     ·exact h1 j (by simp [hj])
    ·exact h1 j (by simp [hj])
   ·rcases UR.1 hj with rfl | hj
    ·exact hk
    ·exact h2 j hj
theorem E2 {cl:List Nat}:∀ {l:List Oper} {j:Nat},BW Ty cl j l = false->∀ k o,l[k]? = some o->dL Ty o = true->j + k∈cl
 | [],j,_,k,o,hk,_=>by simp at hk
 | q :: l,j,h,k,o,hk,hs=>by
  simp only [BW,Bool.or_eq_false_iff,Bool.and_eq_false_iff,Bool.not_eq_false'] at h
  cases k with
  | zero =>
   simp only [We,Option.some.injEq] at hk
   subst hk
   rcases h.1 with h1 | h1
   ·rw [hs] at h1; cases h1
   ·exact pW.1 h1
  | succ k=>have:=E2 h.2 k o (by simpa using hk) hs; rwa [show j + 1 + k = j + (k + 1) by omega] at this
theorem uQ {cl:List Nat}:∀ {l:List Oper} {j:Nat},tw Ty cl j l = false->∀ (k:Nat) (o:Oper),l[k]? = some o->uK Ty o = true->j + k∈cl
 | [],j,_,k,o,hk,_=>by simp at hk
 | p :: l,j,h,k,o,hk,hs=>by
  simp only [tw,Bool.or_eq_false_iff,Bool.and_eq_false_iff,Bool.not_eq_false'] at h
  cases k with
  | zero =>
   simp only [We,Option.some.injEq] at hk
   subst hk
   rcases h.1 with h1 | h1
   ·rw [hs] at h1; cases h1
   ·exact pW.1 h1
  | succ k=>have:=uQ h.2 k o (by simpa using hk) hs; rwa [show j + 1 + k = j + (k + 1) by omega] at this
theorem xV {ls:List Bool} {i:Nat} {oi:Oper} (hcl:Cl all ls) (hr:EL ls i oi = true) (h:zw Ty all oi.after.toList = false) (k:Nat) (o:Oper) (hk:all[k]? = some o) (hs:uK Ty o = true):(ar ls).getD k false = true:=by
 have h1:=uQ h k o hk hs
 rw [Vr] at h1
 refine tA hcl _ _ _ (λj hj=>?_) (λj hj=>by cases hj) k h1
 rcases wC.1 hj with ⟨e,he,hb,rfl⟩ | hj
 ·exact (jc.1 hr).2 e (by simpa using he) hb
 ·cases hj
theorem B_ {cl:List Nat}:∀ {l:List Oper} {j:Nat},tw Ty cl j l = true->BW Ty cl j l = true
 | [],j,h=>by simp [tw] at h
 | p :: l,j,h=>by
  simp only [tw,VH,UT] at h
  simp only [BW,VH,UT]
  rcases h with ⟨h1,h2⟩ | h
  ·refine .inl ⟨?_,h2⟩
   unfold uK at h1
   rw [UT] at h1
   exact h1.1
  ·exact .inr (B_ h)
theorem E3 {o:Oper} (h:zw Ty all o.after.toList = true):BX Ty all o = true:=by
 unfold BX
 split
 ·exact h
 ·exact B_ h
theorem E4 {ls:List Bool} {i:Nat} {oi:Oper} (hcl:Cl all ls) (hr:EL ls i oi = true) (h:BX Ty all oi = false) (k:Nat) (o:Oper) (hk:all[k]? = some o) (hs:uK Ty o = true):(ar ls).getD k false = true:=by
 refine xV hcl hr ?_ k o hk hs
 cases hn:zw Ty all oi.after.toList with
 | false=>rfl
 | true=>rw [E3 hn] at h; cases h
theorem Cl.set {ls:List Bool} {i:Nat} {oi:Oper} (hcl:Cl all ls) (hi:all[i]? = some oi) (hr:EL ls i oi = true):Cl all (fW ls i):=by
 intro j o hj hl e he hb
 rw [ri] at hl ⊢
 by_cases hji:i = j
 ·subst hji
  rw [hi] at hj; cases hj
  exact getD_set_true ((jc.1 hr).2 e he hb)
 ·rw [getD_set_ne false hji] at hl
  exact getD_set_true (hcl j o hj hl e he hb)
theorem Kn {ls:List Bool} {i j:Nat} {oj:Oper} (hi:(ar ls).getD i true = false) (hj:EL ls j oj = true):waits i oj.after.toList = false:=by
 cases hw:waits i oj.after.toList with
 | false=>rfl
 | true =>
  obtain ⟨e,he,hb,rfl⟩:=B8.1 hw
  have h1:=(jc.1 hj).2 e (by simpa using he) hb
  rcases Nat.lt_or_ge e.on (ar ls).size with h' | h'
  ·simp [h'] at h1 hi; rw [hi] at h1; cases h1
  ·simp [Array.getElem?_eq_none h'] at h1
theorem tB (hE:C8 E) (hK:∀ a b w,ext a b->Kend a w->Kend b w) (hsel:∀ (k:Nat) (o:Oper) cs b,all[k]? = some o->o.op≠.select cs b)
  {i:Nat} {oi:Oper} {v:Value} {D:Ws->Prop} (hi:all[i]? = some oi) (hst:dL Ty oi = true) (hD:(∀ w,D w)\/(uK Ty oi = true/\∀ w,C w->D w)):∀ (n:Nat) (ls:List Bool) (fr:Fr) (w:Ws),Cl all ls ->
   (∀ j oj,all[j]? = some oj->j≠i->(ar ls).getD j true = false->waits i oj.after.toList = false->wx all oi oj = true) ->
   EL ls i oi = true->((gZ all fr oi = true/\∀ w,D w->(execOp (ev fr) oi).run P w = .ok (.value v) w)\/(gZ all fr oi = false/\v = undef))->(uK Ty oi = true->C w) ->
   pX P Ty E N C all Kend n (fW ls i) (put N fr oi.dst v) w->pX P Ty E N C all Kend (n + 1) ls fr w:=by
 have toD:∀ w,(uK Ty oi = true->C w)->D w:=λw h=>by
  rcases hD with hD | ⟨h1,h2⟩
  ·exact hD w
  ·exact h2 w (h h1)
 have same:∀ (n:Nat) (ls:List Bool) (fr:Fr) (w:Ws),((gZ all fr oi = true/\∀ w,D w->(execOp (ev fr) oi).run P w = .ok (.value v) w)\/(gZ all fr oi = false/\v = undef))->D w ->
   pX P Ty E N C all Kend n (fW ls i) (put N fr oi.dst v) w ->
   (if gZ all fr oi = true then yY P E oi (ev fr) w λv w'=>cS Ty all C oi w w'/\pX P Ty E N C all Kend n (fW ls i) (put N fr oi.dst v) w'
    else pX P Ty E N C all Kend n (fW ls i) (put N fr oi.dst undef) w):=by
  intro n ls fr w hy hDw H
  rcases hy with ⟨hw,hv⟩ | ⟨hw,rfl⟩
  ·rw [UJ hw]
   exact fw (hv w hDw) (hE.ofEv _ _ (Ev.refl w)) ⟨⟨λ_=>rfl,λh=>by rw [hst] at h; cases h⟩,H⟩
  ·rw [hw]; exact H
 intro n
 induction n with
 | zero =>
  intro ls fr w hcl hfree hr hy hC H
  have hmem:(i,oi)∈dX ls 0 all:=fZ.2 ⟨hi,hr⟩
  refine ⟨λh=>(by rw [h] at hmem; cases hmem),λx hx=>?_⟩
  obtain ⟨hx1,hx2⟩:=fZ.1 hx
  by_cases hji:x.1 = i
  ·have:x.2 = oi:=by rw [hji,hi] at hx1; exact (Option.some.inj hx1).symm
   rw [this,hji]; exact same 0 ls fr w hy (toD w hC) H
  ·have:x∈dX (fW ls i) 0 all:=fZ.2 ⟨hx1,zH hx2 hji⟩
   rw [H.1] at this; cases this
 | succ n ih =>
  intro ls fr w hcl hfree hr hy hC H
  have hmem:(i,oi)∈dX ls 0 all:=fZ.2 ⟨hi,hr⟩
  refine ⟨λh=>(by rw [h] at hmem; cases hmem),λx hx=>?_⟩
  obtain ⟨hx1,hx2⟩:=fZ.1 hx
  by_cases hji:x.1 = i
  ·have:x.2 = oi:=by rw [hji,hi] at hx1; exact (Option.some.inj hx1).symm
   rw [this,hji]; exact same (n + 1) ls fr w hy (toD w hC) H
  ·have h1:=H.2 x (fZ.2 ⟨hx1,zH hx2 hji⟩)
   have hun:(ar ls).getD i true = false:=(jc.1 hr).1
   have hnw:=Kn hun hx2
   have hap:=hfree x.1 x.2 hx1 hji (jc.1 hx2).1 hnw
   obtain ⟨a1,a2,a3⟩:=Kl hap
   have hneed:uK Ty oi = true->zw Ty all x.2.after.toList = true:=λhrd=>by
    cases hn:zw Ty all x.2.after.toList with
    | true=>rfl
    | false =>
     have h':=xV hcl hx2 hn i oi hi hrd
     rcases Nat.lt_or_ge i (ar ls).size with h'' | h''
     ·simp [h''] at h' hun; rw [hun] at h'; cases h'
     ·simp [Array.getElem?_eq_none h''] at h'
   have keep:∀ u,((gZ all (put N fr x.2.dst u) oi = true/\∀ w,D w->(execOp (ev (put N fr x.2.dst u)) oi).run P w = .ok (.value v) w)\/(gZ all (put N fr x.2.dst u) oi = false/\v = undef)):=λu=>by
    rw [E1 a3,E0 (all:=all) (hsel i oi · · hi) a3]; exact hy
   have hfree' : ∀ j oj,all[j]? = some oj->j≠i->(ar (fW ls x.1)).getD j true = false->waits i oj.after.toList = false->wx all oi oj = true:=λj oj h1 h2 h3 h4=>by
    refine hfree j oj h1 h2 ?_ h4
    rw [ri] at h3
    by_cases hjx:x.1 = j
    ·subst hjx; exact (jc.1 hx2).1
    ·rw [getD_set_ne true hjx] at h3; exact h3
   have go:∀ u w',(uK Ty oi = true->C w')->pX P Ty E N C all Kend n (fW (fW ls i) x.1) (put N (put N fr oi.dst v) x.2.dst u) w'->pX P Ty E N C all Kend (n + 1) (fW ls x.1) (put N fr x.2.dst u) w':=λu w' hC' hA=>by
    refine ih (fW ls x.1) (put N fr x.2.dst u) w' (hcl.set hx1 hx2) hfree' (zH hr (Ne.symm hji)) (keep u) hC' ?_
    rw [Kk]
    exact zI hE hK n _ _ _ w' (put_comm a2) hA
   rw [E1 a1] at h1
   split
   ·rename_i hw
    rw [UJ hw] at h1
    have h2:=LZ (E0 (all:=all) (hsel x.1 x.2 · · hx1) a1) h1
    refine h2.mono (λu w' _ hk=>⟨hk.1,go u w' (λhrd=>?_) hk.2⟩) hE.trans
    cases hs:dL Ty x.2 with
    | true=>rw [hk.1.1 hs]; exact hC hrd
    | false=>exact hk.1.2 hs (hneed hrd)
   ·rename_i hw
    rw [UE hw] at h1
    exact go undef w hC h1
theorem oK {ls:List Bool}:∀ {l:List Oper} {i:Nat} {x:Nat × Oper},gG Ty ls i l = some x->∃ k,x.1 = i + k/\l[k]? = some x.2/\dL Ty x.2 = true/\EL ls x.1 x.2 = true
 | [],i,x,h=>by simp [gG] at h
 | o :: l,i,x,h=>by
  simp only [gG,Bool.cond_eq_ite] at h
  split at h
  ·rename_i hc
   cases h
   simp only [UT] at hc
   exact ⟨0,rfl,rfl,hc.1,hc.2⟩
  ·obtain ⟨k,h1,h2,h3⟩:=oK h
   exact ⟨k + 1,by omega,by simpa using h2,h3⟩
theorem E5 {f:Nat × Oper->Prop}:∀ {l:List (Nat × Oper)},Q4 l f->∀ x∈l,f x
 | [],_,x,hx=>by cases hx
 | [y],h,x,hx=>by simp at hx; rw [hx]; exact h
 | y :: z :: l,h,x,hx=>by
  obtain ⟨h1,h2⟩:=h
  rcases UR.1 hx with rfl | hx
  ·exact h1
  ·exact E5 h2 x hx
theorem Dn (hE:C8 E) {C C' : Ws->Prop} (hC:∀ w,C' w->C w):∀ (n:Nat) (ls:List Bool) (fr:Fr) (w:Ws),pX P Ty E N C' all Kend n ls fr w->pX P Ty E N C all Kend n ls fr w
 | 0,ls,fr,w,h=>by
  unfold pX at h ⊢
  exact h
 | n + 1,ls,fr,w,h=>by
  refine ⟨h.1,λx hx=>?_⟩
  have h1:=h.2 x hx
  split
  ·rename_i hw
   rw [UJ hw] at h1
   exact h1.mono (λv w' _ hk=>⟨⟨hk.1.1,λh1 h2=>hC _ (hk.1.2 h1 h2)⟩,Dn hE hC n _ _ w' hk.2⟩) hE.trans
  ·rename_i hw
   rw [UE hw] at h1
   exact Dn hE hC n _ _ w h1
theorem Hh {ld ld' : Addr->cB->(Value->Prop)->Prop} {rs rs' : Sem Value->(Value->Prop)->Prop} {o:Oper} {fr:Fr} {K:Value->Prop} (hp:Dg Ty o = true) (h:pM P Ty ld rs o fr K):pM P Ty ld' rs' o fr K:=by
 obtain ⟨dst,op,type,pos,after,guard⟩:=o
 cases op <;> simp only [Dg,Wa] at hp
 case binOp op t x y yt =>
  unfold pM at h ⊢
  dsimp only at h ⊢
  rw [hp] at h ⊢
  exact h
 all_goals exact h
theorem oM {ls:List Bool}:∀ {l:List Oper} {i:Nat},gG Ty ls i l = none->∀ (k:Nat) (o:Oper),l[k]? = some o->EL ls (i + k) o = true->dL Ty o = false
 | [],i,_,k,o,hk,_=>by simp at hk
 | p :: l,i,h,k,o,hk,hr=>by
  simp only [gG,Bool.cond_eq_ite] at h
  split at h
  ·cases h
  ·rename_i hc
   cases k with
   | zero =>
    simp only [We,Option.some.injEq] at hk
    subst hk
    cases hs:dL Ty p with
    | false=>rfl
    | true=>exact absurd (by rw [hs]; simpa using hr) hc
   | succ k=>exact oM h k o (by simpa using hk) (by rw [show i + 1 + k = i + (k + 1) by omega]; exact hr)
theorem g_ (hT:di P Ty) (hF:pV P Fn) (hE:C8 E) {K0:Fr->Ws->Prop} (hsub:∀ fr w,K0 fr w->Kend fr w) (hK:∀ a b w,ext a b->Kend a w->Kend b w) (hsel:∀ (k:Nat) (o:Oper) cs b,all[k]? = some o->o.op≠.select cs b) :
  ∀ (n:Nat) (C:Ws->Prop) (ls:List Bool) (fr:Fr) (w:Ws),Cl all ls->(C w\/∀ k o,all[k]? = some o->uK Ty o = true->(ar ls).getD k true = true)->xT P Ty Fn E N C all K0 n ls fr w->pX P Ty E N C all Kend n ls fr w
 | 0,C,ls,fr,w,_,_,h=>by
  unfold xT at h
  split at h
  ·rename_i h0; exact ⟨h0,hsub _ _ h⟩
  ·exact h.elim
 | n + 1,C,ls,fr,w,hcl,hinv,h=>by
  have listed:∀ j,(C w\/∀ k o,all[k]? = some o->uK Ty o = true->(ar (fW ls j)).getD k true = true):=λj=>by
   rcases hinv with h | h
   ·exact .inl h
   ·refine .inr λk o hk hs=>?_
    rw [ri]
    by_cases hjk:j = k
    ·subst hjk
     by_cases hlt:j < (ar ls).size
     ·simp [hlt]
     ·have:(ar ls).setIfInBounds j true = ar ls:=by simp [Array.setIfInBounds,hlt]
      rw [this]; exact h j o hk hs
    ·rw [getD_set_ne true hjk]; exact h k o hk hs
  unfold xT at h
  split at h
  ·rename_i i o hfs
   obtain ⟨k,hk1,hk2,hst,hr⟩:=oK hfs
   rw [Vr] at hk1
   dsimp only at hk1 hk2 hst hr
   subst hk1
   obtain ⟨hfr,h⟩:=bz.1 h
   have hC:uK Ty o = true->C w:=λhrd=>hinv.resolve_right λh=>by
    have h1:=h i o hk2 hrd
    have h2:=(jc.1 hr).1
    rw [h1] at h2; cases h2
   have hfree:=λj oj h1 h2 h3 h4=>B9 hfr j oj h1 (by rw [Vr]; exact h2) (by rw [Vr]; exact h3) h4
   rw [wA] at h
   by_cases hw:gZ all fr o = true
   ·rw [UJ hw] at h
    by_cases hp:Dg Ty o = true
    ·obtain ⟨v,h1,h2⟩:=pU hT (C:=λ_=>True) (ld:=λad i k=>∃ v,(∀ w,True->lW w ad i v)/\k v) (rs:=λs k=>∃ v,(∀ w,True->s.run P w = .ok v w)/\k v) (λ_ _ _ h=>h) (λ_ _ h=>h) (Hh hp h)
     exact tB hE hK hsel hk2 hst (D:=λ_=>True) (.inl λ_=>trivial) n ls fr w hcl hfree hr (.inl ⟨hw,h1⟩) hC (g_ hT hF hE hsub hK hsel n _ _ _ w (hcl.set hk2 hr) (listed i) (lX h2))
    ·obtain ⟨v,h1,h2⟩:=pU hT (C:=C) (λ_ _ _ h=>LO h) (λ_ _ h=>h) h
     exact tB hE hK hsel hk2 hst (D:=C) (.inr ⟨by unfold uK; rw [hst]; simpa using hp,λ_ h=>h⟩) n ls fr w hcl hfree hr (.inl ⟨hw,h1⟩) hC (g_ hT hF hE hsub hK hsel n _ _ _ w (hcl.set hk2 hr) (listed i) (lX h2))
   ·rw [UE hw] at h
    exact tB hE hK hsel hk2 hst (D:=λ_=>True) (.inl λ_=>trivial) n ls fr w hcl hfree hr (.inr ⟨by simpa using hw,rfl⟩) hC (g_ hT hF hE hsub hK hsel n _ _ _ w (hcl.set hk2 hr) (listed i) h)
  ·rename_i hfs
   split at h
   ·rename_i h0
    exact ⟨λ_=>hsub _ _ h,λx hx=>by rw [h0] at hx; cases hx⟩
   ·rename_i es hne
    refine ⟨λh0=>absurd h0 hne,λx hx=>?_⟩
    have h1:=E5 h x hx
    rw [wA] at h1
    obtain ⟨hx1,hx2⟩:=fZ.1 hx
    split
    ·rename_i hw
     rw [UJ hw] at h1
     refine (B5 hT hF hE.ofEv h1).mono (λv w' _ hk=>?_) hE.trans
     have hk:=lX hk
     have eff:∀ {X:Ws->Prop},(BX Ty all x.2 = true->X w')->dL Ty x.2 = false->cS Ty all X x.2 w w':=λhX hs=>⟨λh=>(by rw [hs] at h; cases h),λ_ hn=>hX (E3 hn)⟩
     have hes:dL Ty x.2 = false:=oM hfs x.1 x.2 hx1 (by rw [Vr]; exact hx2)
     cases hn:BX Ty all x.2 with
     | true =>
      rw [hn] at hk
      unfold Ub at hk
      dsimp only at hk
      split at hk
      ·obtain ⟨C',k1,k2,k3⟩:=hk
       exact ⟨eff (λ_=>k2 _ k1) hes,Dn hE k2 n _ _ w' (g_ hT hF hE hsub hK hsel n C' _ _ w' (hcl.set hx1 hx2) (.inl k1) k3)⟩
      ·exact ⟨eff (λ_=>hk.1) hes,g_ hT hF hE hsub hK hsel n _ _ _ w' (hcl.set hx1 hx2) (.inl hk.1) hk.2⟩
     | false =>
      rw [hn] at hk
      refine ⟨eff (λh=>(by rw [hn] at h; cases h)) hes,g_ hT hF hE hsub hK hsel n _ _ _ w' (hcl.set hx1 hx2) (.inr λk o hk' hs=>?_) hk⟩
      have h2:=E4 hcl hx2 hn k o hk' hs
      have h3:(ar (fW ls x.1)).getD k false = true:=by rw [ri]; exact getD_set_true h2
      rcases Nat.lt_or_ge k (ar (fW ls x.1)).size with h' | h'
      ·simp [h'] at h3 ⊢; exact h3
      ·simp [Array.getElem?_eq_none h'] at h3
    ·rename_i hw
     rw [UE hw] at h1
     exact g_ hT hF hE hsub hK hsel n _ _ _ w (hcl.set hx1 hx2) (listed _) h1
end
def Lr (D:Nat):Deferred:={ target:=.collected D,args:=#[] }
def Mk (rf:Bool) (w0 w:Ws) (ds:List Deferred):Prop:=(rf = false->ds = [])/\∃ Ds:List Nat,ds = Ds.map Lr/\Ds.Nodup/\∀ D∈Ds,w0.heap.size<=D/\w.heap[D]? = some (Obj.deferred (some []))
theorem Mk.nil {rf:Bool} (w0 w:Ws):Mk rf w0 w []:=⟨λ_=>rfl,[],rfl,List.nodup_nil,λ_ h=>by cases h⟩
section
variable {P:Program} {Ty:TypeId->Option cB} {Fn:FuncId->Bool} {E:Ws->Ws->Prop} {rf:Bool}
theorem Mk.trans (hE:C8 E) {w0 w1 w2:Ws} {d1 d2:List Deferred} (h0:E w0 w1) (h12:E w1 w2) (h1:Mk rf w0 w1 d1) (h2:Mk rf w1 w2 d2):Mk rf w0 w2 (d2 ++ d1):=by
 obtain ⟨e1,D1,rfl,n1,p1⟩:=h1
 obtain ⟨e2,D2,rfl,n2,p2⟩:=h2
 refine ⟨λh=>(by rw [e1 h,e2 h]; rfl),D2 ++ D1,by simp,?_,?_⟩
 ·rw [Vg]
  refine ⟨n2,n1,λa ha b hb hab=>?_⟩
  subst hab
  have h1:=(p2 a ha).1
  have h2:=(Vd.1 (p1 a hb).2).1
  omega
 ·intro D hD
  rcases UF.1 hD with h | h
  ·exact ⟨U7 (hE.size h0) (p2 D h).1,(p2 D h).2⟩
  ·exact ⟨(p1 D h).1,hE.dfr h12 _ _ (p1 D h).2⟩
def QN (rf:Bool) (E:Ws->Ws->Prop) (N:Nat) (ws:List Nat) (fr0:Fr) (w0:Ws) (ds:List Deferred) (n r:Fr->Ws->Prop) (x:Nat->Fr->Ws->Prop):Exit->Act->Ws->Prop
 | .normal,a,w=>∃ fr ds',a = aP N fr (ds' ++ ds)/\Fits N fr/\mK ws fr0 fr/\E w0 w/\Mk rf w0 w ds'/\n fr w
 | .ret,a,w=>∃ fr ds',a = aP N fr (ds' ++ ds)/\Fits N fr/\mK ws fr0 fr/\E w0 w/\Mk rf w0 w ds'/\r fr w
 | .exit i,a,w=>∃ fr ds',a = aP N fr (ds' ++ ds)/\Fits N fr/\mK ws fr0 fr/\E w0 w/\Mk rf w0 w ds'/\x i fr w
 | _,_,_=>False
theorem QN.mono {N:Nat} {ws ws' : List Nat} {fr0:Fr} {w0:Ws} {ds:List Deferred} {n r n' r' : Fr->Ws->Prop} {x x' : Nat->Fr->Ws->Prop}
  (hs:∀ t∈ws,t∈ws') (hn:∀ fr w,mK ws fr0 fr->E w0 w->n fr w->n' fr w) (hr:∀ fr w,r fr w->r' fr w) (hx:∀ i fr w,x i fr w->x' i fr w) {e:Exit} {a:Act} {w:Ws}
  (h:QN rf E N ws fr0 w0 ds n r x e a w):QN rf E N ws' fr0 w0 ds n' r' x' e a w:=by
 cases e <;> try exact h.elim
 all_goals (obtain ⟨fr,ds',h1,h2,h3,h4,h5,h6⟩:=h)
 ·exact ⟨fr,ds',h1,h2,h3.mono hs,h4,h5,hn fr w h3 h4 h6⟩
 ·exact ⟨fr,ds',h1,h2,h3.mono hs,h4,h5,hx _ fr w h6⟩
 ·exact ⟨fr,ds',h1,h2,h3.mono hs,h4,h5,hr fr w h6⟩
theorem QN.later (hE:C8 E) {N:Nat} {ws ws' : List Nat} {fr0 fr1:Fr} {w0 w1:Ws} {ds d1:List Deferred} {n r:Fr->Ws->Prop} {x:Nat->Fr->Ws->Prop}
  (hs:∀ t∈ws',t∈ws) (ha:mK ws fr0 fr1) (he:E w0 w1) (hm:Mk rf w0 w1 d1) {e:Exit} {a:Act} {w:Ws}
  (h:QN rf E N ws' fr1 w1 (d1 ++ ds) n r x e a w):QN rf E N ws fr0 w0 ds n r x e a w:=by
 cases e <;> try exact h.elim
 all_goals
  obtain ⟨fr,ds',h1,h2,h3,h4,h5,h6⟩:=h
  exact ⟨fr,ds' ++ d1,by rw [h1,UK],h2,ha.trans (h3.mono hs),hE.trans he h4,Mk.trans hE he h4 hm h5,h6⟩

theorem Dp:∀ l m,G7 l m = l ++ m
 | [],_=>rfl
 | x :: l,m=>by simp [G7,Dp l m]
theorem IH (a b:Code):nP (.seq a b) = nP a ++ nP b:=by simp [nP,Dp]
theorem E6 (c:Operand) (a b:Code):nP (.cond c a b) = nP a ++ nP b:=by simp [nP,Dp]

def L0 (c:Cs) (v:Value):Prop:=∀ f:Value->Prop,c.all f->f v
theorem Cs.Dq {β : Type} (c:Cs) (b:β) (v:Value):c.ap (c.OT b) v b = b:=by
 cases c <;> cases v <;> simp only [Cs.ap,Cs.OT] <;> try rfl
 ·rename_i k k' n; cases Nat.beq (kx k) (kx k') <;> rfl
 ·rename_i fn first cap; cases fn <;> try rfl
  obtain ⟨first⟩:=first; obtain ⟨cap⟩:=cap; cases first <;> rfl
theorem Cs.uR {β : Type} {c:Cs} {g:c.arr β} {v:Value} {d:β} (D:β->Prop) (hd:¬ D d) (h:D (c.ap g v d)):L0 c v:=by
 intro f ha
 cases c <;> cases v <;> simp only [Cs.ap] at h <;> try exact absurd h hd
 case int.int k k' n =>
  cases hb:Nat.beq (kx k) (kx k') <;> rw [hb] at h
  ·exact absurd h hd
  ·rw [<- LB hb]; exact ha n
 case fn.func fn first cap =>
  cases fn <;> try exact absurd h hd
  obtain ⟨first⟩:=first
  obtain ⟨cap⟩:=cap
  cases first
  ·exact ha _ _
  ·exact absurd h hd
 all_goals (first | exact ha _ | exact ha _ _ _)
theorem Dr {β : Type} (d:β):∀ (l:List Cs) (vs:List Value),Sy l (G6 l d) vs d = d
 | [],[]=>rfl
 | [],_ :: _=>rfl
 | c :: l,[]=>rfl
 | c :: l,v :: vs=>by
  show Sy l (c.ap (c.OT (G6 l d)) v (G6 l d)) vs d = d
  rw [Cs.Dq]; exact Dr d l vs
theorem Ca {β : Type} (d:β) (D:β->Prop) (hd:¬ D d):∀ {l:List Cs} {g:Kc l β} {vs:List Value},D (Sy l g vs d)->∀ f:List Value->Prop,OP l f->f vs
 | [],g,[],_=>λf ha=>ha
 | [],g,v :: vs,h=>absurd h hd
 | c :: l,g,[],h=>absurd h hd
 | c :: l,g,v :: vs,h=>λf ha=>by
  have h1:L0 c v:=Cs.uR (β:=Kc l β) (g:=g) (d:=G6 l d) (λk=>D (Sy l k vs d)) (by rw [Dr]; exact hd) h
  exact Ca d D hd (l:=l) h (λvs=>f (v :: vs)) (h1 _ ha)
theorem S1.Dq {β : Type} (c:S1) (b:β) (v:Value):c.ap (c.OT b) v b = b:=by
 cases c with
 | one c=>cases v <;> exact Cs.Dq c b _
 | agg l=>cases v <;> first | exact Dr b l _ | rfl
theorem S1.uR {β : Type} {c:S1} {g:c.arr β} {v:Value} {d:β} (D:β->Prop) (hd:¬ D d) (h:D (c.ap g v d)):∀ f:Value->Prop,c.all f->f v:=by
 cases c with
 | one c=>exact Cs.uR D hd (by cases v <;> exact h)
 | agg l =>
  cases v <;> try exact absurd h hd
  rename_i cs
  intro f ha
  obtain ⟨cs⟩:=cs
  exact Ca d D hd (l:=l) h (λvs=>f (.agg ⟨vs⟩)) ha
theorem II {β : Type} (d:β):∀ (l:List S1) (vs:List Value),BT l (Ke l d) vs d = d
 | [],[]=>rfl
 | [],_ :: _=>rfl
 | c :: l,[]=>rfl
 | c :: l,v :: vs=>by
  show BT l (c.ap (c.OT (Ke l d)) v (Ke l d)) vs d = d
  rw [S1.Dq]; exact II d l vs
theorem wD {β : Type} (d:β) (D:β->Prop) (hd:¬ D d):∀ {l:List S1} {g:zt l β} {vs:List Value},D (BT l g vs d)->∀ f:List Value->Prop,EJ l f->f vs
 | [],g,[],_=>λf ha=>ha
 | [],g,v :: vs,h=>absurd h hd
 | c :: l,g,[],h=>absurd h hd
 | c :: l,g,v :: vs,h=>λf ha=>by
  have h1:=S1.uR (β:=zt l β) (c:=c) (g:=g) (v:=v) (d:=Ke l d) (λk=>D (BT l k vs d)) (by rw [II]; exact hd) h
  exact wD d D hd (l:=l) h (λvs=>f (v :: vs)) (h1 _ ha)
theorem wE {N:Nat} {d:Nat->Value} (t:Nat) (ht:t < N):∀ (ws:List Nat) (fr:Fr),(∀ s,dE fr s = d s\/s∉ws)\/True->dE (mN N d ws fr) t = if t∈ws then d t else dE fr t
 | [],fr,_=>by simp [mN]
 | s :: ws,fr,_=>by
  rw [mN,wE t ht ws _ (.inr trivial)]
  by_cases h:t∈ws
  ·simp [h]
  ·rw [UE h,jZ]
   by_cases hs:s = t
   ·subst hs; simp [ht]
   ·have hs' : t≠s:=λe=>hs e.symm
    simp [hs,hs',h]
theorem zJ {N:Nat} (t:Nat) (ht:t < N) (fr2:Fr):∀ (lv:List (Nat × S1)) (fr:Fr),dE (j1 N fr lv (pO fr2 lv)) t = if t∈lv.map (·.1) then dE fr2 t else dE fr t
 | [],fr=>by simp [j1]
 | (s,c) :: lv,fr=>by
  rw [pO,j1,zJ t ht fr2 lv]
  by_cases h:t∈lv.map (·.1)
  ·have:t∈((s,c) :: lv).map (·.1):=by simp only [Vh,UR]; exact .inr h
   rw [UJ h,UJ this]
  ·rw [UE h,jZ]
   by_cases hs:s = t
   ·subst hs; simp [ht]
   ·have hs' : t≠s:=λe=>hs e.symm
    have:t∉((s,c) :: lv).map (·.1):=by simp only [Vh,UR]; rintro (h1 | h1); exact hs' h1; exact h h1
    rw [UE this,UE (λe:s = t/\s < N=>hs e.1)]
theorem kI {N:Nat} {d:Nat->Value}:∀ (ws:List Nat) {fr:Fr},Fits N fr->Fits N (mN N d ws fr)
 | [],_,h=>h
 | s :: ws,_,h=>kI ws (uG h _ _)
theorem kE {N:Nat}:∀ (lv:List (Nat × S1)) (vs:List Value) {fr:Fr},Fits N fr->Fits N (j1 N fr lv vs)
 | [],_,_,h=>h
 | (s,c) :: lv,[],_,h=>h
 | (s,c) :: lv,v :: vs,_,h=>kE lv vs (uG h _ _)
theorem zK {N:Nat} {ws:List Nat} {fr fr2:Fr} (lv:List (Nat × S1)) (ds:List Deferred) (ha:mK ws fr fr2) :
  aP N (j1 N (mN N (dE fr2) ws fr) lv (pO fr2 lv)) ds = aP N fr2 ds:=by
 refine xP ds λt ht=>?_
 rw [zJ t ht]
 split
 ·rfl
 ·rw [wE t ht ws fr (.inr trivial)]
  split
  ·rfl
  ·rename_i h; exact (ha t h).symm
end
section
variable {P:Program} {Ty:TypeId->Option cB} {Fn:FuncId->Bool} {E:Ws->Ws->Prop} {N:Nat} {ro:Option Nat} {k:Nat}
theorem wF {ws:List Nat} {fr fr2:Fr} (lv:List (Nat × S1)) (hf:Fits N fr) (ha:mK ws fr fr2):mK ws fr (j1 N (mN N (dE fr2) ws fr) lv (pO fr2 lv)):=by
 intro t ht
 by_cases hN:t < N
 ·rw [zJ t hN]
  split
  ·exact ha t ht
  ·rw [wE t hN ws fr (.inr trivial),UE ht]
 ·rw [kE lv _ (kI ws hf) t (Nat.le_of_not_lt hN),hf t (Nat.le_of_not_lt hN)]
theorem Cb (hE:C8 E) {C:Ws->Prop} {all:List Oper} {Kend:Fr->Ws->Prop} {ds:List Deferred} {Q:Exit->Act->Ws->Prop} :
  ∀ (n:Nat) (ls:List Bool) (fr:Fr) (w:Ws),pX P Ty E N C all Kend n ls fr w->Fits N fr ->
   (∀ fr' w',Fits N fr'->mK (dstsOf all) fr fr'->E w w'->Kend fr' w'->Q .normal (aP N fr' ds) w')->wpAnyIn (wf ro) k P .any ⟨all⟩ Q n (ar ls) (aP N fr ds) w
 | 0,ls,fr,w,h,hf,hQ=>by
  refine ⟨?_,hQ fr w hf (mK.refl _ _) (hE.ofEv _ _ (Ev.refl w)) h.2⟩
  cases hr:Region.ready .any ⟨all⟩ (ar ls) with
  | nil=>rfl
  | cons j l =>
   have:j∈Region.ready .any ⟨all⟩ (ar ls):=by rw [hr]; simp
   obtain ⟨o,ho⟩:=ml.1 this
   rw [h.1] at ho; cases ho
 | n + 1,ls,fr,w,h,hf,hQ=>by
  refine ⟨λh0=>?_,λj hj=>?_⟩
  ·refine hQ fr w hf (mK.refl _ _) (hE.ofEv _ _ (Ev.refl w)) (h.1 ?_)
   cases hr:dX ls 0 all with
   | nil=>rfl
   | cons x l =>
    have:x.1∈Region.ready .any ⟨all⟩ (ar ls):=ml.2 ⟨x.2,by rw [hr]; simp⟩
    rw [h0] at this; cases this
  ·obtain ⟨o,ho⟩:=ml.1 hj
   have hx:=h.2 (j,o) ho
   obtain ⟨h1,h2⟩:=fZ.1 ho
   dsimp only at hx h1 h2
   have ho' : (⟨all⟩ : Array Oper)[j]? = some o:=by simpa using h1
   unfold wpOpIn
   simp only [ho',B6 hf]
   have sub:∀ x,o.dst = some x->x∈dstsOf all:=by
    intro x hx
    have:∀ (l:List Oper) (j:Nat),l[j]? = some o->x∈dstsOf l:=by
     intro l
     induction l with
     | nil=>intro j h; simp at h
     | cons p l ih =>
      intro j h
      cases j with
      | zero=>simp at h; subst h; simp [dstsOf,hx]
      | succ j=>have:=ih j (by simpa using h); unfold dstsOf; cases p.dst <;> simp [this]
    exact this all j h1
   have next:∀ v w',E w w'->pX P Ty E N C all Kend n (fW ls j) (put N fr o.dst v) w'->wpAnyIn (wf ro) k P .any ⟨all⟩ Q n ((ar ls).setIfInBounds j true) ((aP N fr ds).put o.dst v) w':=λv w' hew hd=>by
    rw [C9,<- ri]
    exact Cb hE n _ _ w' hd (uG hf _ _) λfr' w'' h1 h2 h3 h4=>hQ fr' w'' h1 (((mK.refl _ fr).put v sub).trans h2) (hE.trans hew h3) h4
   split
   ·rename_i hw
    rw [UJ hw] at hx
    refine EY (E:=E) ?_
    rw [It N fr ds hf]
    refine hx.mono (λv w' hew hk=>next v w' hew ?_) hE.trans
    exact hk.2
   ·rename_i hw
    rw [UE hw] at hx
    exact ⟨λ_ _=>trivial,next undef w (hE.ofEv _ _ (Ev.refl w)) hx⟩
theorem IJ:∀ l,OX.lenO l = l.length
 | []=>rfl
 | _ :: l=>by simp [OX.lenO,IJ l]
theorem zL:∀ n,IA n = List.replicate n false
 | 0=>rfl
 | n + 1=>by simp [IA,zL n,V6]
theorem E7:∀ {ops:List Oper},IC ops = true->∀ (k:Nat) (o:Oper) cs b,ops[k]? = some o->o.op≠.select cs b
 | [],_,k,o,cs,b,hk=>by simp at hk
 | p :: l,h,k,o,cs,b,hk=>by
  simp only [IC,UT] at h
  cases k with
  | zero=>simp at hk; subst hk; intro he; rw [he] at h; cases h.1
  | succ k=>exact E7 h.2 k o cs b (by simpa using hk)
theorem Ra (n j:Nat):(ar (List.replicate n false)).getD j false = false:=by
 by_cases h:j < n <;> simp [ar,h]
theorem Ko (hT:di P Ty) (hF:pV P Fn) (hE:C8 E) (hm:P.follows .mixedOrders = true) {id:Nat} {ops:Array Oper} {draw:Bool} {fr:Fr} {w:Ws} {K:Fr->Ws->Prop} {ds:List Deferred} {Q:Exit->Act->Ws->Prop}
  (h:OX P Ty Fn E N ops.toList draw fr w K) (hf:Fits N fr)
  (hQ:∀ fr' w',Fits N fr'->mK (dstsOf ops.toList) fr fr'->E w w'->K fr' w'->Q .normal (aP N fr' ds) w'):(Code.region id ops draw).wpIn (wf ro) k P Q (aP N fr ds) w:=by
 cases draw with
 | false =>
  refine wpIn_region_list ?_
  exact B7 hT hF hE ops.toList 0 fr w h hf hQ
 | true =>
  refine wpIn_region_any hm ?_
  obtain ⟨hns,h⟩:=bz.1 h
  obtain ⟨C,hC,hd⟩:=h _ rfl
  have hK:∀ (a b:Fr) (w:Ws),ext a b->(∃ fr2,ext fr2 a/\K fr2 w)->∃ fr2,ext fr2 b/\K fr2 w:=λa b w he ⟨f,h1,h2⟩=>⟨f,λt=>(h1 t).trans (he t),h2⟩
  have:=g_ hT hF hE (Kend:=λfr w=>∃ fr2,ext fr2 fr/\K fr2 w) (λfr w h=>⟨fr,λ_=>rfl,h⟩) hK (E7 hns) _ _ _ fr _ (λj o _ hl=>by rw [zL,Ra] at hl; cases hl) (.inl hC) hd
  rw [IJ,zL] at this
  have e:(Array.replicate ops.size false) = ar (List.replicate ops.toList.length false):=by apply VV; simp [ar]
  rw [e]
  have e2:ops.size = ops.toList.length:=by simp
  rw [e2]
  refine Cb hE (ds:=ds) (Q:=Q) _ _ fr _ this hf λfr' w' h1 h2 h3 ⟨fr2,h4,h5⟩=>?_
  rw [xP ds (fr:=fr') (fr':=fr2) λt _=>(h4 t).symm]
  exact hQ fr2 w' (λt ht=>by rw [h4 t]; exact h1 t ht) (λt ht=>by rw [h4 t]; exact h2 t ht) (hE.trans (hE.ofEv _ _ (Ev.drew w _)) h3) h5
end
structure yZ (l:Nat) (w w' : Ws):Prop where
 os:w'.os = w.os
 tape:w'.tape = w.tape
 output:w'.output = w.output
 size:w.heap.size<=w'.heap.size
 dfr:∀ (b:Nat) (d:Option (List Deferred)),w.heap[b]? = some (Obj.deferred d)->w'.heap[b]? = some (Obj.deferred d)
 lop:∀ (b:Nat) (d:Loop),b≠l->w.heap[b]? = some (Obj.loop d)->w'.heap[b]? = some (Obj.loop d)
theorem yZ.trans {l:Nat} {a b c:Ws} (h:yZ l a b) (k:yZ l b c):yZ l a c :=
 ⟨k.os.trans h.os,k.tape.trans h.tape,k.output.trans h.output,U7 h.size k.size,λx d hx=>k.dfr x d (h.dfr x d hx),λx d hl hx=>k.lop x d hl (h.lop x d hl hx)⟩
theorem yZ.of {l:Nat} {a b:Ws} (h:Ev a b):yZ l a b:=⟨h.os,h.tape,h.output,h.size,h.dfr,λx d _ hx=>h.lop x d hx⟩
theorem SM (l:Nat):C8 (yZ l):=⟨λh k=>h.trans k,λ_ _ h=>.of h,λh k d hd=>h.dfr k d hd,λh=>h.size⟩
theorem yZ.putObj {l:Nat} {w:Ws} {r r' : Loop} (h:w.heap[l]? = some (.loop r)):yZ l w (w.putObj l (.loop r')):=by
 refine ⟨rfl,rfl,rfl,by simp,λb d hb=>?_,λb d hne hb=>?_⟩
 ·rw [World.putObj_heap_other]; exact hb
  intro e; subst e; rw [h] at hb; cases hb
 ·rw [World.putObj_heap_other hne]; exact hb
theorem Ev.Ux {l:Nat} {a b:Ws} (h:yZ l a b) (hl:a.heap.size<=l):Ev a b :=
 ⟨h.os,h.tape,h.output,h.size,h.dfr,λx d hx=>h.lop x d (λe=>by have:=(Vd.1 hx).1; omega) hx⟩
theorem Ev.back {l:Nat} {a b c:Ws} (h1:Ev a b) (h:yZ l b c) (hl:a.heap.size<=l):Ev a c :=
 ⟨h.os.trans h1.os,h.tape.trans h1.tape,h.output.trans h1.output,U7 h1.size h.size,λx d hx=>h.dfr x d (h1.dfr x d hx),
  λx d hx=>h.lop x d (λe=>by have:=(Vd.1 hx).1; omega) (h1.lop x d hx)⟩
theorem St.putObj {w:Ws} {b:Nat} {o:Obj} {L:List au} (h:St w (blk b o :: L)) (o' : Obj) (ho:ED o' = true:=by rfl):St (w.putObj b o') (blk b o' :: L):=h.setObj o' ho
theorem St.alloc {w:Ws} {L:List au} (h:St w L) (o:Obj) (ho:ED o = true:=by rfl):St (w.alloc o) (blk w.heap.size o :: L):=h.push o ho
theorem St.Rb {w:Ws} {L:List au} (h:St w L) (d:Option (List Deferred)):St (w.alloc (.deferred d)) L:=h.eq (LA w d)

theorem IK {c:Cs} {q p:Value->Prop} (h:c.ex q) (ha:c.all p):∃ v,q v/\p v:=by
 cases c <;> simp only [Cs.ex,Cs.all] at h ha
 case slice=>obtain ⟨a,l,c,h⟩:=h; exact ⟨_,h,ha _ _ _⟩
 case fn=>obtain ⟨a,l,h⟩:=h; exact ⟨_,h,ha _ _⟩
 all_goals (obtain ⟨a,h⟩:=h; exact ⟨_,h,ha _⟩)
theorem O3 {l:List Cs}:∀ {q p:List Value->Prop},Sw l q->OP l p->∃ vs,q vs/\p vs:=by
 induction l with
 | nil=>exact λh k=>⟨[],h,k⟩
 | cons c l ih=>intro q p h k; obtain ⟨v,h,k⟩:=IK h k; obtain ⟨vs,h,k⟩:=ih h k; exact ⟨v :: vs,h,k⟩
theorem L3 {c:S1} {q p:Value->Prop} (h:c.ex q) (ha:c.all p):∃ v,q v/\p v:=by
 cases c with
 | one c=>exact IK h ha
 | agg l=>obtain ⟨vs,h,k⟩:=O3 h ha; exact ⟨_,h,k⟩
theorem O4 {l:List S1}:∀ {q p:List Value->Prop},QX l q->EJ l p->∃ vs,vs.length = l.length/\q vs/\p vs:=by
 induction l with
 | nil=>exact λh k=>⟨[],rfl,h,k⟩
 | cons c l ih=>intro q p h k; obtain ⟨v,h,k⟩:=L3 h k; obtain ⟨vs,hl,h,k⟩:=ih h k; exact ⟨v :: vs,by simp [hl],h,k⟩
theorem E8 {p:Nat->Prop}:∀ {l:List Nat},Q7 l p->∀ j,nT j l = true->p j
 | [],_,j,h=>by simp [nT] at h
 | [a],h,j,hj=>by
  simp only [nT,Bool.or_false] at hj
  rw [V7 hj]; exact h
 | a :: b :: l,h,j,hj=>by
  obtain ⟨h1,h2⟩:=h
  by_cases e:Nat.beq j a = true
  ·rw [V7 e]; exact h1
  ·refine E8 h2 j ?_
   rw [nT] at hj
   simpa [e] using hj
theorem IL:∀ lv,(uD lv).length = lv.length
 | []=>rfl
 | _ :: l=>by simp [uD,IL l]
theorem Cc:∀ {ps:List Nat} {lv:List (Nat × S1)},pQ ps lv = true->ps.length = lv.length
 | [],[],_=>rfl
 | [],_ :: _,h=>by simp [pQ] at h
 | _ :: _,[],h=>by simp [pQ] at h
 | a :: l,(b,c) :: m,h=>by simp only [pQ,UT] at h; simp [Cc h.2]
theorem Cd {N:Nat} {d:List Deferred}:∀ (ps:List Nat) (lv:List (Nat × S1)) (vs:List Value) (fr:Fr),pQ ps lv = true->vs.length = lv.length ->
  (ps.zip vs).foldl (λ(t:Array Value) (x:Nat × Value)=>t.setIfInBounds x.1 x.2) (aP N fr d).tmps = (aP N (j1 N fr lv vs) d).tmps
 | [],[],vs,fr,_,hl=>by simp [j1]
 | [],_ :: _,_,_,h,_=>by simp [pQ] at h
 | _ :: _,[],_,_,h,_=>by simp [pQ] at h
 | a :: l,(b,c) :: m,[],fr,h,hl=>by simp at hl
 | a :: l,(b,c) :: m,v :: vs,fr,h,hl=>by
  simp only [pQ,UT] at h
  have hab:=V7 h.1
  subst hab
  simp only [List.zip_cons_cons,List.foldl_cons,j1]
  have:=C9 N fr d (some a) v
  rw [<- Cd l m vs _ h.2 (by simpa using hl),<- this]
  rfl
section
variable {P:Program} {Ty:TypeId->Option cB} {Fn:FuncId->Bool} {E:Ws->Ws->Prop} {N:Nat} {k:Nat} {rf:Bool}
theorem Kp (hrf:rf = true) (hT:di P Ty) (hF:pV P Fn) (hE:C8 E) (hEE:∀ a b,E a b->Ev a b) (A:bh) {f:Operand} {ps:Array Tmp} {a b:Code} {fr:Fr} {w:Ws} {n r:Fr->Ws->Prop} {x:Nat->Fr->Ws->Prop} {ds:List Deferred}
    (iha:∀ (ro:Option Nat) (k:Nat) (fr:Fr) (w:Ws) (n r:Fr->Ws->Prop) (x:Nat->Fr->Ws->Prop),den P Ty Fn E N A a fr w n r x->Fits N fr->∀ ds,a.wpIn (wf ro) k P (QN rf E N (nP a) fr w ds n r x) (aP N fr ds) w)
    (ihb:∀ (ro:Option Nat) (k:Nat) (fr:Fr) (w:Ws) (n r:Fr->Ws->Prop) (x:Nat->Fr->Ws->Prop),den P Ty Fn E N A b fr w n r x->Fits N fr->∀ ds,b.wpIn (wf ro) k P (QN rf E N (nP b) fr w ds n r x) (aP N fr ds) w)
    {g:FuncId} {first cap:Array Value} {lv:List (Nat × S1)} (hv:ev fr f = .func (.func g) first cap) (hg:Fn g = true) (hps:pQ ps.toList lv = true)
    (h : SL P g first.toList cap.toList (uD lv) (fv b) w
          (λvs w K=>den P Ty Fn E N A a (j1 N fr lv vs) w K (λ_ _=>False) (λ_ _ _=>False))
          (λfr1 w n' r' x'=>den P Ty Fn E N A b fr1 w (λ_ w=>n' w) (λ_ w=>r' w) (λj _ w=>x' j w)) (n fr) (r fr) (λj=>x j fr))
    (hf:Fits N fr):(Code.rangeFunc f ps a b).wpIn (wf none) k P (QN rf E N [] fr w ds n r x) (aP N fr ds) w:=by
  obtain ⟨xs,D,Q,J,Jr,Jx0,L,h0,hQL,hI,hty,hrd0,hn,hr,hx0⟩:=h
  let Jx:Nat->au:=λj=>aT [pu (nT j (fv b) = true),Jx0 j]
  have jx:∀ j w L,St w (Jx j :: L)↔uI (nT j (fv b)) (St w (Jx0 j :: L)):=λj w L=>by
    rw [bz]; exact St.flat.trans St.pu
  have hx:∀ j w',St w' (Jx j :: D :: L)->x j fr w':=λj w' hs=>by
    obtain ⟨h1,h2⟩:=bz.1 ((jx j w' _).1 hs)
    exact E8 hx0 j h1 w' h2
  have hrd:∀ i,EJ (uD lv) λvs=>xs[i]? = some vs->∀ L' w,OY L' L->St w (J i :: L') ->
      den P Ty Fn E N A a (j1 N fr lv vs) w (λfr1 w1=>∃ M:au,St w1 (M :: L')/\∀ L' w,OY L' L->St w (M :: L') ->
        den P Ty Fn E N A b fr1 w (λ_ w'=>St w' (J (i + 1) :: L')) (λ_ w'=>St w' (Jr :: L')) (λj _ w'=>St w' (Jx j :: L'))) (λ_ _=>False) (λ_ _ _=>False):=λi=>by
    have e:(λ(L:List au) (j:Nat) (_:Fr) (w' : Ws)=>St w' (Jx j :: L)) = λL j _ w'=>uI (nT j (fv b)) (St w' (Jx0 j :: L)):=by
      funext L j _ w'; exact propext (jx j w' L)
    have:=hrd0 i
    have e2:∀ L:List au,(λ(j:Nat) (_:Fr) (w' : Ws)=>St w' (Jx j :: L)) = λj _ w'=>uI (nT j (fv b)) (St w' (Jx0 j :: L)):=λL=>congrFun e L
    simp only [e2]
    exact this
  refine wpIn_rangeFunc λfn _=>?_
  let rec0:Loop:={ state:=.ready,pending:=none,fn,tmps:=(aP N fr ds).tmps,params:=ps,assign:=a,body:=b,defers:=w.heap.size }
  let w1:Ws:=(w.alloc (.deferred (some []))).alloc (.loop rec0)
  have hl:w.heap.size + 1 = (w.alloc (.deferred (some []))).heap.size:=by simp
  have ew1:Ev w w1:=(Ev.push w _).trans (Ev.push _ _)
  have he:(f:Operand) = f:=rfl
  have e2:first ++ (#[.func (.yield (w.heap.size + 1)) #[] #[]] : Array Value) ++ cap = ⟨yj first.toList [.func (.yield (w.heap.size + 1)) #[] #[]] cap.toList⟩:=by
    apply VV; simp [De]
  have hev:(aP N fr ds).eval f = .func (.func g) first cap:=by rw [G1 N fr ds hf]; exact hv
  refine ⟨w.heap.size + 1,[Lr w.heap.size],w1,⟨.fn (.func g) cap,first ++ #[.func (.yield (w.heap.size + 1)) #[] #[]]⟩,w1,g,⟨yj first.toList [.func (.yield (w.heap.size + 1)) #[] #[]] cap.toList⟩,w1,
    run_enterLoop_outer fn _ ps a b,?_,λ_ _=>trivial,?_,λh=>(by cases h),?_⟩
  · simp only [resolve,List.map_toArray,Vh,List.map_nil,hev,Deferred.ofValue,Sem.run_pure]
    rfl
  · simp only [invoke,e2,uP hF hg]
  · have hcall:r_ P (yZ (w.heap.size + 1)) g (yj first.toList [.func (.yield (w.heap.size + 1)) #[] #[]] cap.toList) w1 _ :=
      hI (w.heap.size + 1) (yZ (w.heap.size + 1)) (SM _) (λi=>aT [J i,blk (w.heap.size + 1) (.loop rec0)])
        (ex λc:Option Nat=>match c with
          | none=>aT [Jr,blk (w.heap.size + 1) (.loop { rec0 with state:=.done,pending:=some .ret })]
          | some j=>aT [Jx j,blk (w.heap.size + 1) (.loop { rec0 with state:=.done,pending:=some (.exit j) })])
        L w1 ?_ hQL ?_
    · refine callsIn_wide.2 ?_
      refine Calls.mono hcall ?_
      rintro e w3 ⟨v,rfl,hX,hQ⟩
      have fin:∀ (st:LoopState) (pd:Option Code) (M:au),st≠.busy->St w3 (M :: blk (w.heap.size + 1) (.loop { rec0 with state:=st,pending:=pd }) :: D :: L) ->
          ∃ w4,(Instr.endLoop (w.heap.size + 1)).run P w3 = .ok pd w4/\St w4 (M :: D :: L)/\E w w4/\Mk rf w w4 [Lr w.heap.size]:=by
        intro st pd M hst hs
        have hs':=hs.swap
        have hg:=hs'.get
        refine ⟨_,run_endLoop hg hst,(hs'.putObj _).tail,?_,?_⟩
        · exact hE.ofEv _ _ (ew1.back (hX.trans (yZ.putObj hg)) (by omega))
        · refine ⟨λh=>(by rw [hrf] at h; cases h),[w.heap.size],rfl,by simp,λd hd=>?_⟩
          simp only [U2] at hd
          subst hd
          refine ⟨US _,?_⟩
          refine (hX.trans (yZ.putObj hg)).dfr _ _ ?_
          show ((w.heap.push _).push _)[w.heap.size]? = _
          rw [Array.getElem?_push,UE (by simp),Array.getElem?_push,UJ rfl]
      have qn:∀ w4,E w w4->Mk rf w w4 [Lr w.heap.size]->∀ {p:Prop},p->∃ fr' ds',{ (aP N fr ds) with defers:=[Lr w.heap.size] ++ (aP N fr ds).defers } = aP N fr' (ds' ++ ds)/\Fits N fr'/\mK [] fr fr'/\E w w4/\Mk rf w w4 ds'/\(fr' = fr/\p) :=
        λw4 h1 h2 _ hp=>⟨fr,[Lr w.heap.size],rfl,hf,mK.refl _ _,h1,h2,rfl,hp⟩
      rcases hQ with hQ | hQ
      · have hQ:=St.flat.1 hQ
        obtain ⟨w4,h1,h2,h3,h4⟩:=fin .ready none _ (by intro h; cases h) hQ
        refine ⟨none,w4,h1,?_⟩
        obtain ⟨fr',ds',g1,g2,g3,g4,g5,rfl,g6⟩:=qn w4 h3 h4 (hn w4 h2)
        exact ⟨_,ds',g1,g2,g3,g4,g5,g6⟩
      · obtain ⟨c,hQ⟩:=St.ex.1 hQ
        cases c with
        | none =>
          have hQ:=St.flat.1 hQ
          obtain ⟨w4,h1,h2,h3,h4⟩:=fin .done (some .ret) _ (by intro h; cases h) hQ
          refine ⟨some .ret,w4,h1,wpIn_ret ?_⟩
          obtain ⟨fr',ds',g1,g2,g3,g4,g5,rfl,g6⟩:=qn w4 h3 h4 (hr w4 h2)
          exact ⟨_,ds',g1,g2,g3,g4,g5,g6⟩
        | some j =>
          have hQ:=St.flat.1 hQ
          obtain ⟨w4,h1,h2,h3,h4⟩:=fin .done (some (.exit j)) _ (by intro h; cases h) hQ
          refine ⟨some (.exit j),w4,h1,wpIn_exit ?_⟩
          obtain ⟨fr',ds',g1,g2,g3,g4,g5,rfl,g6⟩:=qn w4 h3 h4 (hx j w4 h2)
          exact ⟨_,ds',g1,g2,g3,g4,g5,g6⟩
    · have h1:=(h0.Rb (some [])).alloc (.loop rec0)
      rw [<- hl] at h1
      refine St.flat.2 ?_
      exact h1.swap
    · intro i us hi L' w' hsup hs
      have hs1:=St.flat.1 hs
      have hg:=hs1.swap.get
      obtain ⟨vs,hvl,hve,hvs⟩:=O4 (hty us (UC hi)) (hrd i)
      subst hve
      have hlen:us.length = lv.length:=by rw [hvl,IL]
      have hpl:=Cc hps
      have hden:=hvs hi (blk (w.heap.size + 1) (.loop rec0) :: L') w' (λh hh=>hsup h (aQ hh)) hs1
      refine ⟨fn,(aP N (j1 N fr lv us) []).tmps,a,b,?_,?_⟩
      · have hy:=run_yield (P:=P) (args:=⟨us⟩) hg (by show us.length = ps.size; rw [hlen,<- hpl]; simp)
        rw [hy]
        have hz:(ps.zip (⟨us⟩ : Array Value)).foldl (λ(t:Array Value) (x:Nat × Value)=>t.setIfInBounds x.1 x.2) (aP N fr ds).tmps = (aP N (j1 N fr lv us) []).tmps:=by
          rw [show (aP N (j1 N fr lv us) []).tmps = (aP N (j1 N fr lv us) ds).tmps from rfl,<- Cd ps.toList lv us fr hps hlen,<- Array.foldl_toList]
          congr 1
          simp
        show Result.ok (Next.round (w.heap.size + 1) fn ((ps.zip (⟨us⟩ : Array Value)).foldl (λ(t:Array Value) (x:Nat × Value)=>t.setIfInBounds x.1 x.2) (aP N fr ds).tmps) a b) w' = _
        rw [hz]
      · refine roundIn_of_wpIn trivial ?_
        have hfit:Fits N (j1 N fr lv us):=kE lv _ hf
        refine wpIn_mono (iha (some (w.heap.size + 1)) 0 _ w' _ _ _ hden hfit []) λe a1 w1' hq=>?_
        cases e with
        | normal =>
          obtain ⟨fr1,ds1,rfl,q2,q3,q4,q5,M,q6,q7⟩:=hq
          have hs2:=q6.swap
          have hg2:=hs2.get
          refine ⟨_,run_beginRound hg2 rfl,?_⟩
          have hs3:=(hs2.putObj (.loop { rec0 with state:=.busy })).swap
          have hx3:yZ (w.heap.size + 1) w' (w1'.putObj (w.heap.size + 1) (.loop { rec0 with state:=.busy })):=(yZ.of (hEE _ _ q4)).trans (yZ.putObj hg2)
          refine wpIn_mono (ihb (some (w.heap.size + 1)) 0 _ _ _ _ _ (q7 _ _ (λh hh=>hsup h (aQ hh)) hs3) q2 _) λe a2 w2 hq=>?_
          cases e with
          | normal =>
            obtain ⟨fr2,ds2,rfl,p2,p3,p4,p5,p6⟩:=hq
            have hs4:=p6.swap
            have hg4:=hs4.get
            refine ⟨_,_,run_endRound none hg4,_,rfl,(hx3.trans (yZ.of (hEE _ _ p4))).trans (yZ.putObj hg4),.inl ⟨rfl,St.flat.2 (hs4.putObj _).swap⟩⟩
          | ret =>
            obtain ⟨fr2,ds2,rfl,p2,p3,p4,p5,p6⟩:=hq
            have hs4:=p6.swap
            have hg4:=hs4.get
            refine ⟨_,_,run_endRound (some .ret) hg4,_,rfl,(hx3.trans (yZ.of (hEE _ _ p4))).trans (yZ.putObj hg4),.inr ⟨rfl,St.ex.2 ⟨none,St.flat.2 (hs4.putObj _).swap⟩⟩⟩
          | exit j =>
            obtain ⟨fr2,ds2,rfl,p2,p3,p4,p5,p6⟩:=hq
            have hs4:=p6.swap
            have hg4:=hs4.get
            refine ⟨_,_,run_endRound (some (.exit j)) hg4,_,rfl,(hx3.trans (yZ.of (hEE _ _ p4))).trans (yZ.putObj hg4),.inr ⟨rfl,St.ex.2 ⟨some j,St.flat.2 (hs4.putObj _).swap⟩⟩⟩
          | goto l=>exact hq.elim
          | panic ch=>exact hq.elim
          | outgrown=>exact hq.elim
        | ret=>obtain ⟨_,_,_,_,_,_,_,hh⟩:=hq; exact hh.elim
        | exit j=>obtain ⟨_,_,_,_,_,_,_,hh⟩:=hq; exact hh.elim
        | goto l=>exact hq.elim
        | panic ch=>exact hq.elim
        | outgrown=>exact hq.elim
end
section
variable {P:Program} {Ty:TypeId->Option cB} {Fn:FuncId->Bool} {E:Ws->Ws->Prop} {N:Nat} {rf:Bool}
theorem L4 {v:Value} {a b:Prop} (h:TA v a b):∃ t,v = .bool t/\(if t then a else b):=by
 unfold TA at h
 split at h
 ·rename_i c; refine ⟨c,rfl,?_⟩; cases c <;> exact h
 ·exact h.elim
theorem hZ {b:Frame} {a:Act} {k:List Item} {cs:List Frame} {w:Ws} {c:Code}:step P (lone (b.atR a (.code (.scope c) :: k)) cs w) = .next (lone (b.atR a (.code c :: .inScope c :: k)) cs w) :=
 step_lone_go (by simp [stepG,stepG.exec,Frame.atR])
theorem Bt {b:Frame} {a:Act} {k:List Item} {cs:List Frame} {w:Ws} {c:Code}:step P (lone (b.atR a (.inScope c :: k)) cs w) = .next (lone (b.atR a k) cs w) :=
 step_lone_go (by simp [stepG,stepG.exec,Frame.atR])
theorem Hi {F:Fence} {n:Nat} {a:Act} {w:Ws} {Q:Exit->Act->Ws->Prop} {c:Code} (hQ:∀ l a w,¬ Q (.goto l) a w) (h:c.wpIn F n P Q a w):(Code.scope c).wpIn F n P Q a w:=by
 intro b k cs hro hb hr
 have h0:(lone (b.atR a (.code (.scope c) :: k)) cs w).fenced P F:=fenced_calm hb hr rfl
 obtain ⟨e,a₁,w₁,hq,harr⟩:=h b (.inScope c :: k) cs hro hb hr
 cases e with
 | normal=>exact ⟨.normal,a₁,w₁,hq,.head h0 hZ (StepsIn.trans harr (.one (fenced_calm hb hr rfl) Bt))⟩
 | exit id =>
  have hx:exitTo id (.inScope c :: k) = exitTo id k:=by simp [exitTo]
  exact ⟨.exit id,a₁,w₁,hq,λk' hk=>.head h0 hZ (harr.1 k' (by rw [hx]; exact hk)),
   λhr' hk=>let ⟨k₁,h1,h2⟩:=harr.2 hr' (by rw [hx]; exact hk); ⟨k₁,h1,.head h0 hZ h2⟩⟩
 | goto l=>exact absurd hq (hQ _ _ _)
 | ret=>exact ⟨_,a₁,w₁,hq,.of_steps (.one h0 hZ) harr⟩
 | panic ch=>exact ⟨_,a₁,w₁,hq,.of_steps (.one h0 hZ) harr⟩
 | outgrown=>exact ⟨_,a₁,w₁,hq,.of_steps (.one h0 hZ) harr⟩
theorem Ce {ws:List Nat} {fr fr2:Fr} {lv:List (Nat × S1)} {J:zt (uD lv) (Ws->Prop)} {w:Ws} {b:Fr->Ws->Prop}
  (hJ:BT (uD lv) J (pO fr2 lv) (λ_=>False) w) (hb:∀ (d:Nat->Value),EJ (uD lv) λvs=>∀ w,BT (uD lv) J vs (λ_=>False) w->b (j1 N (mN N d ws fr) lv vs) w) :
  b (j1 N (mN N (dE fr2) ws fr) lv (pO fr2 lv)) w :=
 wD (λ_=>False) (λf=>f w) (λh=>h) hJ _ (hb (dE fr2)) w hJ
theorem SN {i j:Nat} {p q:Prop} (h:bif Nat.beq i j then p else q):if i = j then p else q:=by
 by_cases hij:i = j
 ·subst hij; simpa using h
 ·rw [UE hij]
  have:Nat.beq i j = false:=by cases hb:Nat.beq i j with | false=>rfl | true=>exact absurd (V7 hb) hij
  rw [this] at h; exact h
def O5 (a:Act):List (Nat × S1)->List Value
 | []=>[]
 | (s,_) :: l=>a.tmps.getD s undef :: O5 a l
theorem Dt {fr:Fr} {ds:List Deferred} (hf:Fits N fr):∀ lv,O5 (aP N fr ds) lv = pO fr lv
 | []=>rfl
 | (s,c) :: l=>by
  have h1:=q8 N fr ds hf s
  show (aP N fr ds).tmps.getD s undef :: O5 (aP N fr ds) l = dE fr s :: pO fr l
  rw [h1,Dt hf l]
theorem Kq (hT:di P Ty) (hF:pV P Fn) (hE:C8 E) (hm:P.follows .mixedOrders = true) (A:bh):∀ (c:Code) (ro:Option Nat) (_:dr c = true->ro = none/\rf = true/\∀ a b,E a b->Ev a b) (k:Nat) (fr:Fr) (w:Ws) (n r:Fr->Ws->Prop) (x:Nat->Fr->Ws->Prop),
  den P Ty Fn E N A c fr w n r x->Fits N fr->∀ ds,c.wpIn (wf ro) k P (QN rf E N (nP c) fr w ds n r x) (aP N fr ds) w:=by
 have eref:∀ w,E w w:=λw=>hE.ofEv _ _ (Ev.refl w)
 intro c
 induction c with
 | skip=>exact λro hro k fr w n r x h hf ds=>wpIn_skip ⟨fr,[],rfl,hf,mK.refl _ _,eref w,Mk.nil _ _,h⟩
 | region id ops draw =>
  intro ro hro k fr w n r x h hf ds
  exact Ko hT hF hE hm h hf λfr' w' h1 h2 h3 h4=>⟨fr',[],rfl,h1,h2,h3,Mk.nil _ _,h4⟩
 | seq a b iha ihb =>
  intro ro hro k fr w n r x h hf ds
  have hra:=λ(h:dr a = true)=>hro (by simp [dr,h])
  have hrb:=λ(h:dr b = true)=>hro (by simp [dr,h])
  have sa:∀ t∈nP a,t∈nP (.seq a b):=λt ht=>by rw [IH]; simp [ht]
  have sb:∀ t∈nP b,t∈nP (.seq a b):=λt ht=>by rw [IH]; simp [ht]
  refine wpIn_seq ?_
  have key:∀ n',den P Ty Fn E N A a fr w n' r x->(∀ fr' w',Fits N fr'->mK (nP a) fr fr'->E w w'->n' fr' w'->∃ fr'',(∀ d,aP N fr'' d = aP N fr' d)/\Fits N fr''/\mK (nP a) fr fr''/\den P Ty Fn E N A b fr'' w' n r x) ->
    a.wpIn (wf ro) k P (Exit.then (b.wpIn (wf ro) k P (QN rf E N (nP (.seq a b)) fr w ds n r x)) (QN rf E N (nP (.seq a b)) fr w ds n r x)) (aP N fr ds) w:=by
   intro n' hd hn
   refine wpIn_mono (iha ro hra k fr w n' r x hd hf ds) λe a' w' hq=>?_
   cases e with
   | normal =>
    obtain ⟨fr',ds',rfl,h2,h3,h4,h5,h6⟩:=hq
    obtain ⟨fr'',g1,g2,g3,g4⟩:=hn fr' w' h2 h3 h4 h6
    show b.wpIn (wf ro) k P _ _ w'
    rw [<- g1]
    exact wpIn_mono (ihb ro hrb k fr'' w' n r x g4 g2 (ds' ++ ds)) λe a w hq=>QN.later hE sb (g3.mono sa) h4 h5 hq
   | ret=>exact QN.mono sa (λ_ _ _ _ h=>h) (λ_ _ h=>h) (λ_ _ _ h=>h) (n:=n') (n':=n') hq
   | exit i=>exact QN.mono sa (λ_ _ _ _ h=>h) (λ_ _ h=>h) (λ_ _ _ h=>h) (n:=n') (n':=n') hq
   | goto l=>exact hq.elim
   | panic ch=>exact hq.elim
   | outgrown=>exact hq.elim
  simp only [den] at h
  split at h
  ·rename_i lv _
   obtain ⟨J,h1,h2⟩:=h
   refine key _ h1 λfr' w' g1 g2 g3 g4=>⟨_,λd=>zK lv d g2,kE lv _ (kI _ hf),wF lv hf g2,Ce (b:=λfr w=>den P Ty Fn E N A b fr w n r x) g4 h2⟩
  ·exact key _ h λfr' w' g1 g2 g3 g4=>⟨fr',λ_=>rfl,g1,g2,g4⟩
 | cond c a b iha ihb =>
  intro ro hro k fr w n r x h hf ds
  have hra:=λ(h:dr a = true)=>hro (by simp [dr,h])
  have hrb:=λ(h:dr b = true)=>hro (by simp [dr,h])
  obtain ⟨t,ht,h⟩:=L4 h
  have he:(aP N fr ds).eval c = .bool t:=by rw [G1 N fr ds hf]; exact ht
  refine wpIn_cond he ?_
  cases t with
  | true=>exact wpIn_mono (iha ro hra k fr w n r x h hf ds) λe a w hq=>QN.mono (λt ht=>by rw [E6]; simp [ht]) (λ_ _ _ _ h=>h) (λ_ _ h=>h) (λ_ _ _ h=>h) hq
  | false=>exact wpIn_mono (ihb ro hrb k fr w n r x h hf ds) λe a w hq=>QN.mono (λt ht=>by rw [E6]; simp [ht]) (λ_ _ _ _ h=>h) (λ_ _ h=>h) (λ_ _ _ h=>h) hq
 | block id a iha =>
  intro ro hro k fr w n r x h hf ds
  have hra:=λ(h:dr a = true)=>hro (by simpa [dr] using h)
  refine wpIn_block ?_
  have key:∀ n',den P Ty Fn E N A a fr w n' r (λj fr w=>bif Nat.beq j id then n' fr w else x j fr w)->(∀ fr' w',Fits N fr'->mK (nP a) fr fr'->n' fr' w'->∃ fr'',(∀ d,aP N fr'' d = aP N fr' d)/\Fits N fr''/\mK (nP a) fr fr''/\n fr'' w') ->
    a.wpIn (wf ro) k P (Exit.inBlock id (QN rf E N (nP (.block id a)) fr w ds n r x)) (aP N fr ds) w:=by
   intro n' hd hn
   have toN:∀ fr' ds' w',Fits N fr'->mK (nP a) fr fr'->E w w'->Mk rf w w' ds'->n' fr' w'->QN rf E N (nP (.block id a)) fr w ds n r x .normal (aP N fr' (ds' ++ ds)) w':=λfr' ds' w' h2 h3 h4 h5 h6=>by
    obtain ⟨fr'',g1,g2,g3,g4⟩:=hn fr' w' h2 h3 h6
    exact ⟨fr'',ds',(g1 _).symm,g2,g3,h4,h5,g4⟩
   refine wpIn_mono (iha ro hra k fr w n' r _ hd hf ds) λe a' w' hq=>?_
   cases e with
   | normal=>obtain ⟨fr',ds',rfl,h2,h3,h4,h5,h6⟩:=hq; exact toN fr' ds' w' h2 h3 h4 h5 h6
   | exit i =>
    obtain ⟨fr',ds',rfl,h2,h3,h4,h5,h6⟩:=hq
    have h6:=SN h6
    simp only [Exit.inBlock]
    split
    ·rename_i hi; rw [UJ hi] at h6; exact toN fr' ds' w' h2 h3 h4 h5 h6
    ·rename_i hi; rw [UE hi] at h6; exact ⟨fr',ds',rfl,h2,h3,h4,h5,h6⟩
   | ret=>exact hq
   | goto l=>exact hq.elim
   | panic ch=>exact hq.elim
   | outgrown=>exact hq.elim
  simp only [den] at h
  split at h
  ·rename_i lv _
   obtain ⟨J,h1,h2⟩:=h
   refine key _ h1 λfr' w' g1 g2 g4=>⟨_,λd=>zK lv d g2,kE lv _ (kI _ hf),wF lv hf g2,Ce g4 h2⟩
  ·exact key _ h λfr' w' g1 g2 g4=>⟨fr',λ_=>rfl,g1,g2,g4⟩
 | loop a iha =>
  intro ro hro k fr w n r x h hf ds
  have hra:=λ(h:dr a = true)=>hro (by simpa [dr] using h)
  simp only [den] at h
  split at h
  ·rename_i lv _
   obtain ⟨I,m,h0,hr⟩:=h
   refine wpIn_loop (λa' w'=>∃ fr2 ds',a' = aP N fr2 (ds' ++ ds)/\Fits N fr2/\mK (nP a) fr fr2/\E w w'/\Mk rf w w' ds'/\BT (uD lv) I (pO fr2 lv) (λ_=>False) w')
    (λa' w'=>BT (uD lv) m (O5 a' lv) (λ_=>0) w') ⟨fr,[],rfl,hf,mK.refl _ _,eref w,Mk.nil _ _,h0⟩ ?_
   rintro _ w' ⟨fr2,ds',rfl,h2,h3,h4,h5,h6⟩
   have hfit:Fits N (j1 N (mN N (dE fr2) (nP a) fr) lv (pO fr2 lv)):=kE lv _ (kI _ hf)
   have hagr:=wF (N:=N) lv hf h3
   have hb:=wD (λ_=>False) (λf=>f w') (λh=>h) h6 (λvs=>∀ w,BT (uD lv) I vs (λ_=>False) w->den P Ty Fn E N A a (j1 N (mN N (dE fr2) (nP a) fr) lv vs) w
    (λfr' w'=>BT (uD lv) I (pO fr' lv) (λ_=>False) w'/\BT (uD lv) m (pO fr' lv) (λ_=>0) w' < BT (uD lv) m vs (λ_=>0) w) r x) (hr (dE fr2)) w' h6
   have hw:=iha ro hra k _ w' _ r x hb hfit (ds' ++ ds)
   rw [zK lv (ds' ++ ds) h3] at hw
   refine wpIn_mono hw λe a' w'' hq=>?_
   cases e with
   | normal =>
    obtain ⟨fr3,ds3,rfl,g2,g3,g4,g5,g6,g7⟩:=hq
    refine ⟨⟨fr3,ds3 ++ ds',by rw [UK],g2,hagr.trans g3,hE.trans h4 g4,Mk.trans hE h4 g4 h5 g5,g6⟩,?_⟩
    rw [Dt g2,Dt h2]
    exact g7
   | ret =>
    have hq' : QN rf E N (nP a) _ w' (ds' ++ ds) n r x (.ret) a' w'':=hq
    exact QN.later hE (λ_ h=>h) hagr h4 h5 hq'
   | exit i =>
    have hq' : QN rf E N (nP a) _ w' (ds' ++ ds) n r x (.exit i) a' w'':=hq
    exact QN.later hE (λ_ h=>h) hagr h4 h5 hq'
   | goto l=>exact hq.elim
   | panic ch=>exact hq.elim
   | outgrown=>exact hq.elim
  ·exact h.elim
 | exit i=>exact λro hro k fr w n r x h hf ds=>wpIn_exit ⟨fr,[],rfl,hf,mK.refl _ _,eref w,Mk.nil _ _,h⟩
 | ret=>exact λro hro k fr w n r x h hf ds=>wpIn_ret ⟨fr,[],rfl,hf,mK.refl _ _,eref w,Mk.nil _ _,h⟩
 | label l=>exact λro hro k fr w n r x h hf ds=>wpIn_label ⟨fr,[],rfl,hf,mK.refl _ _,eref w,Mk.nil _ _,h⟩
 | rangeFunc f ps a b iha ihb =>
  intro ro hro k fr w n r x h hf ds
  obtain ⟨rfl,hrf,hEE⟩:=hro rfl
  simp only [den] at h
  obtain ⟨hab,h⟩:=bz.1 h
  simp only [UT,VQ] at hab
  split at h
  ·rename_i g first cap lv hv hlv
   obtain ⟨hg2,h⟩:=bz.1 h
   obtain ⟨hg1,h⟩:=bz.1 h
   exact Kp hrf hT hF hE hEE A (λro k=>iha ro (λe=>by rw [hab.1] at e; cases e) k) (λro k=>ihb ro (λe=>by rw [hab.2] at e; cases e) k) hv hg1 hg2 h hf
  ·exact h.elim
 | scope a iha =>
  intro ro hro k fr w n r x h hf ds
  exact Hi (λl a w hq=>hq.elim) (iha ro (λh=>hro (by simpa [dr] using h)) k fr w n r x h hf ds)
 | goto l=>exact λro hro k fr w n r x h hf ds=>h.elim
 | refuse y=>exact λro hro k fr w n r x h hf ds=>h.elim
end
section
variable {P:Program} {Ty:TypeId->Option cB} {Fn:FuncId->Bool} {E:Ws->Ws->Prop} {N:Nat}
theorem L5 {w w' : Ws} (h:hp w' = hp w) {a:Addr} {i:cB} {v:Value} (hl:lW w a i v):lW w' a i v:=by
 unfold lW at *
 split at hl
 ·rename_i hk; obtain ⟨vs,h1,h2⟩:=hl; exact ⟨vs,by rw [EG h]; exact h1,h2⟩
 ·rename_i hk; show w'.cell? a = _; rw [ft h]; exact hl
def SO (tmps:Array Value):ResultVar->Sem Value
 | .tmp t=>pure (tmps.getD t undef)
 | .cell a t=>do loadVar t (<- asAddr (tmps.getD a undef))
theorem go_sound (hT:di P Ty) {fr:Fr} {ds:List Deferred} {w:Ws} (hf:Fits N fr):∀ (l:List ResultVar) (k:List Value->Prop),Kf.go Ty fr w l k ->
  ∃ vs,(∀ w',hp w' = hp w->(l.mapM (SO (aP N fr ds).tmps)).run P w' = .ok vs w')/\k vs
 | [],k,h=>⟨[],λw' _=>rfl,h⟩
 | .tmp t :: l,k,h=>by
  obtain ⟨vs,h1,h2⟩:=go_sound hT hf l _ h
  refine ⟨_,λw' hw=>?_,h2⟩
  rw [List.mapM_cons,Sem.run_bind]
  show (Sem.run P (pure ((aP N fr ds).tmps.getD t undef)) w').andThen _ = _
  simp only [Sem.run_pure,Result.andThen_ok,Sem.run_bind]
  rw [h1 w' hw,q8 N fr ds hf]
  simp
 | .cell a t :: l,k,h=>by
  unfold Kf.go at h
  split at h
  ·rename_i p i ha hi
   obtain ⟨ad,hp',h5⟩:=uM h
   subst hp'
   obtain ⟨v,hl,h6⟩:=EP h5
   obtain ⟨vs,h1,h2⟩:=go_sound hT hf l _ h6
   refine ⟨_,λw' hw=>?_,h2⟩
   rw [List.mapM_cons,Sem.run_bind]
   show (Sem.run P (do loadVar t (<- asAddr ((aP N fr ds).tmps.getD a undef))) w').andThen _ = _
   simp only [Sem.run_bind,q8 N fr ds hf,ha,asAddr,Sem.run_pure,Result.andThen_ok]
   rw [BZ hT hi (L5 hw hl)]
   simp only [Result.andThen_ok]
   rw [h1 w' hw]
   simp
  ·exact h.elim
theorem Kr (hT:di P Ty) {fn:Func} {fr:Fr} {ds:List Deferred} {w:Ws} (hf:Fits N fr) {R:Value->Prop} (h:Kf P Ty fn.results.toList fr w R) :
  ∃ v,(∀ w',hp w' = hp w->(results fn (aP N fr ds).tmps).run P w' = .ok v w')/\R v:=by
 obtain ⟨vs,h1,h2⟩:=go_sound (ds:=ds) hT hf _ _ h
 refine ⟨if h:vs.length = 1 then vs[0] else .tuple ⟨vs⟩,λw' hw=>?_,?_⟩
 ·have he:results fn (aP N fr ds).tmps = (do let vs <- fn.results.mapM (SO (aP N fr ds).tmps); pure (if h:vs.size = 1 then vs[0] else .tuple vs)):=by
   unfold results
   congr 2
  rw [he,Array.mapM_eq_mapM_toList,map_eq_pure_bind]
  simp only [Sem.run_bind]
  rw [h1 w' hw]
  simp
 ·split at h2
  ·simpa using h2
  ·rename_i hne
   split
   ·rename_i hl
    cases vs with
    | nil=>simp at hl
    | cons v l=>cases l with
     | nil=>exact absurd rfl (hne v)
     | cons _ _=>simp at hl
   ·exact h2
theorem xW {F:Fence} {n:Nat} {fn:Func} {tmps:Array Value} {R:Ending->Ws->Prop} {w0:Ws} (hE:C8 E):∀ (Ds:List Nat) (w:Ws),Ds.Nodup->(∀ D∈Ds,w0.heap.size<=D/\w.heap[D]? = some (Obj.deferred (some [])))->Ev w0 w ->
  (∀ w',hp w' = hp w->Ev w0 w'->∃ v,(results fn tmps).run P w' = .ok v w'/\R (.returned v) w')->LeavesInM F n P fn tmps R (Ds.map Lr) .returning w
 | [],w,_,_,he,h=>h w rfl he
 | D :: Ds,w,hn,hD,he,h=>by
  obtain ⟨h1,h2⟩:=hD D (by simp)
  rw [Vy] at hn
  refine ⟨(by intro h; cases h),.inl ⟨D,_,rfl,run_takeDeferred h2,?_⟩⟩
  have hhp:hp (w.putObj D (.deferred none)) = hp w:=OS h2
  have he' : Ev w0 (w.putObj D (.deferred none)):=by
   refine ⟨he.os,he.tape,he.output,by simpa using he.size,λb d hb=>?_,λb d hb=>?_⟩
   ·rw [World.putObj_heap_other]; exact he.dfr _ _ hb
    have:=(Vd.1 hb).1; omega
   ·rw [World.putObj_heap_other]; exact he.lop _ _ hb
    have:=(Vd.1 hb).1; omega
  refine xW hE Ds _ hn.2 (λD' h'=>?_) he' λw' g1 g2=>h w' (g1.trans hhp) g2
  refine ⟨(hD D' (by simp [h'])).1,?_⟩
  rw [World.putObj_heap_other]
  ·exact (hD D' (by simp [h'])).2
  ·intro e; subst e; exact hn.1 h'
theorem uS:∀ (l:List Value) (i t:Nat),dE (EM i l) t = if i<=t then (l[t - i]?).getD undef else undef
 | [],i,t=>by simp [EM,dE]
 | v :: l,i,t=>by
  simp only [EM]
  rw [wu,uS l (i + 1) t]
  by_cases h:i = t
  ·subst h; simp
  ·rw [UE h]
   by_cases h2:i + 1<=t
   ·rw [UJ h2,UJ (by omega)]
    have:t - i = (t - (i + 1)) + 1:=by omega
    rw [this]; simp
   ·rw [UE h2,UE (by omega)]
theorem L6 (hT:di P Ty) (hF:pV P Fn) (hm:P.follows .mixedOrders = true) {f:FuncId} {fn:Func} (hfn:P.funcs[f]? = some fn) (A:bh) (hE:C8 E)
  (hro:(match fn.body with | some c=>dr c | none=>false) = true->∀ a b,E a b->Ev a b) {args:List Value} {w:Ws} {R:Value->Ws->Prop}
  (h:Q8 P Ty Fn E A fn args w R):r_ P E f args w R:=by
 unfold Q8 at h
 cases hb:fn.body with
 | none=>rw [hb] at h; exact h.elim
 | some c =>
  rw [hb] at h hro
  dsimp only at h hro
  obtain ⟨hle,h⟩:=eQ h
  have hle:=Lw _ _ hle
  refine callsIn_wide.1 (callsIn_of_wp_marks (F:=Fence.wide) (n:=0) hfn hb trivial ?_)
  have ha:({ tmps:=(⟨args⟩ : Array Value) ++ Array.replicate (fn.ntmps - (⟨args⟩ : Array Value).size) undef,defers:=[] }:Act) = aP fn.ntmps (EM 0 args) []:=by
   simp only [aP,Act.mk.injEq,and_true]
   apply VV
   apply Vq
   intro i
   simp only [Array.toList_append,Array.toList_replicate,UD]
   by_cases hi:i < args.length
   ·rw [UQ hi,VN (by omega)]
    simp [uS,hi]
   ·rw [UP (by omega)]
    by_cases hi2:i < fn.ntmps
    ·rw [VN hi2]
     have:args[i]? = none:=UW (by omega)
     have h3:i - args.length < fn.ntmps - args.length:=by omega
     simp [uS,this,h3]
    ·have:(List.range fn.ntmps)[i]? = none:=UW (by simp; omega)
     rw [this]; simp; omega
  rw [ha]
  have hfit:Fits fn.ntmps (EM 0 args):=λt ht=>by
   rw [uS,UJ (UM _),UW (by omega)]; rfl
  have fin:∀ a' w',(∃ fr ds',a' = aP fn.ntmps fr (ds' ++ [])/\Fits fn.ntmps fr/\mK (nP c) (EM 0 args) fr/\E w w'/\Mk (dr c) w w' ds'/\Kf P Ty fn.results.toList fr w' λv=>LN c R v w') ->
    LeavesInM Fence.wide 0 P fn a'.tmps (λe w'=>∃ v,e = .returned v/\E w w'/\R v w') a'.defers .returning w':=by
   rintro a' w' ⟨fr,ds',rfl,h1,h2,h3,⟨h0,Ds,rfl,h4,h5⟩,h6⟩
   obtain ⟨v,g1,g2⟩:=Kr (ds:=(Ds.map Lr) ++ []) hT h1 h6
   show LeavesInM Fence.wide 0 P fn (aP fn.ntmps fr (Ds.map Lr ++ [])).tmps _ (Ds.map Lr ++ []) .returning w'
   cases hrf:dr c with
   | true =>
    have hEE:=hro hrf
    simp only [LN,hrf,cond_true] at g2
    generalize (aP fn.ntmps fr (Ds.map Lr ++ [])).tmps = tm at g1
    rw [U3]
    exact xW hE Ds w' h4 h5 (hEE _ _ h3) λw2 k1 k2=>⟨v,g1 w2 k1,v,rfl,hE.ofEv _ _ k2,g2 w2 k1⟩
   | false =>
    simp only [LN,hrf,cond_false] at g2
    have hd:=h0 hrf
    generalize (aP fn.ntmps fr (Ds.map Lr ++ [])).tmps = tm at g1
    rw [hd]
    exact ⟨v,g1 w' rfl,v,rfl,h3,g2⟩
  refine wpIn_mono (Kq hT hF hE hm A c none (λhh=>⟨rfl,hh,hro hh⟩) 0 _ w _ _ _ h hfit []) λe a' w' hq=>?_
  cases e with
  | normal=>exact fin a' w' hq
  | ret=>exact fin a' w' hq
  | exit i=>obtain ⟨_,_,_,_,_,_,_,hh⟩:=hq; exact hh.elim
  | goto l=>exact hq.elim
  | panic ch=>exact hq.elim
  | outgrown=>exact hq.elim
def Re (fn:Func):Bool:=match fn.body with | some c=>dr c | none=>false
theorem L7 (hT:di P Ty) (hF:pV P Fn) (hm:P.follows .mixedOrders = true) {f:FuncId} {fn:Func} (hfn:P.funcs[f]? = some fn) (A:bh) {args:List Value} {w:Ws} {R:Value->Ws->Prop}
  (h:Q8 P Ty Fn Ev A fn args w R):ay P f args w R:=L6 hT hF hm hfn A Tz (λ_ _ _ h=>h) h
theorem O6 (hT:di P Ty) (hF:pV P Fn) (hm:P.follows .mixedOrders = true) {f:FuncId} {fn:Func} (hfn:P.funcs[f]? = some fn) (A:bh) (hE:C8 E) (hb:Re fn = false) {args:List Value} {w:Ws} {R:Value->Ws->Prop}
  (h:Q8 P Ty Fn E A fn args w R):r_ P E f args w R:=L6 hT hF hm hfn A hE (λh=>absurd (hb.symm.trans h) (by simp)) h
end
abbrev WP:=Ws->Prop
abbrev lP (l:List (Nat × S1)):=zt (uD l) (Ws->Prop)
abbrev lN (l:List (Nat × S1)):=zt (uD l) (Ws->Nat)
abbrev aD:S1:=S1.one (Cs.int IntKind.i64)
abbrev mL:S1:=S1.one Cs.slice
abbrev pI:S1:=S1.one Cs.bool
abbrev iI (n:Int):Value:=.int .i64 n
abbrev vS (a:Wr) (l c:Nat):Value:=.slice a l c
abbrev vP (a:Wr):Value:=.pointer a
abbrev vB (b:Bool):Value:=.bool b
abbrev vA (a:Array Value):Value:=.agg a
abbrev vG (l:List Value):Value:=.agg (Array.mk l)
abbrev vT (a:Array Value):Value:=.tuple a
abbrev aM (k:Nat):Addr:=⟨k,0,none⟩
abbrev oC (l:List Value) (t:TypeId):Obj:=.cells (Array.mk l) t
abbrev jT (t:TypeId) (xs:Array Value):Sem Value:=Builtin.append_ (Array.mk [t,t]) t xs
def aS (b:Nat) (vs:List Value):au:=λh=>∃ e,h b = some (.cells ⟨vs⟩ e (0,0))
section
variable {P:Program} {w w' : Ws} {L:List au} {b:Nat} {vs:List Value} {e:TypeId} {A B C D:au}
theorem gH:St w (aS b vs :: L)↔∃ e,St w (blk b (.cells ⟨vs⟩ e (0,0)) :: L) :=
 ⟨λ⟨h1,h2,d,s1,s2,⟨e,ha⟩,hl⟩=>⟨e,h1,h2,d,s1,s2,ha,hl⟩,λ⟨e,h1,h2,d,s1,s2,ha,hl⟩=>⟨h1,h2,d,s1,s2,⟨e,ha⟩,hl⟩⟩
theorem St.cell (h:St w (aS b vs :: L)) (i:Nat):w.cell? ⟨b,i,none⟩ = vs[i]?:=by
 obtain ⟨e,h⟩:=gH.1 h
 have:=h.get
 simp [World.cell?,this]
theorem St.frozen (h:St w (aS b vs :: L)) (i:Nat) (s:Option _):w.frozen? ⟨b,i,s⟩ = false:=by
 obtain ⟨e,h⟩:=gH.1 h
 have:=h.get
 simp [World.frozen?,this]
theorem St.Rf (h:St w (aS b vs :: L)) (i:Nat) (v:Value):St (w.setCell ⟨b,i,none⟩ v) (aS b (vs.set i v) :: L):=by
 obtain ⟨e,h⟩:=gH.1 h
 have:=St.setCell h i v
 have e2:(⟨vs⟩ : Array Value).setIfInBounds i v = ⟨vs.set i v⟩:=by simp
 rw [e2] at this
 exact gH.2 ⟨e,this⟩
theorem lY {o:Obj} {k:Nat->Ws->Prop} (h:St w L) (hk:∀ b w',St w' (blk b o :: L)->k b w') (ho:ED o = true:=by rfl):new w o k :=
 λb w' hb hw=>by subst hb; subst hw; exact hk _ _ (h.push o ho)
theorem af {k:Nat->Ws->Prop} (h:St w L) (hk:∀ b w',St w' (aS b vs :: L)->k b w'):new w (.cells (Array.mk vs) e) k:=lY h λb w' h=>hk b w' (gH.2 ⟨_,h⟩)
theorem bC {i:Nat} {v:Value} {k:Ws->Prop} (h:St w (aS b vs :: L)) (hi:i < vs.length) (hk:∀ w',St w' (aS b (vs.set i v) :: L)->k w') (hv:aH v = true:=by rfl):st1 w ⟨b,i,none⟩ v k :=
 ⟨⟨vs[i],by rw [h.cell]; simp [hi]⟩,h.frozen i none,hv,λw' hw=>by subst hw; exact hk _ (h.Rf i v)⟩
theorem St.setCells:∀ (news pre post:List Value) {w:Ws},news.length<=post.length->St w (aS b (pre ++ post) :: L)->St (w.setCells b pre.length news) (aS b (pre ++ news ++ post.drop news.length) :: L)
 | [],pre,post,w,_,h=>by simpa [World.setCells] using h
 | v :: r,pre,[],w,hl,h=>by simp at hl
 | v :: r,pre,p :: post,w,hl,h=>by
  have h1:=h.Rf pre.length v
  have e1:(pre ++ p :: post).set pre.length v = (pre ++ [v]) ++ post:=by simp
  rw [e1] at h1
  have h2:=St.setCells r (pre ++ [v]) post (by simpa using hl) h1
  have e2:(pre ++ [v]).length = pre.length + 1:=by simp
  rw [e2] at h2
  simpa [World.setCells] using h2

theorem add_lit (b o j:Nat):(⟨b,o,none⟩ : Addr).add j = ⟨b,o + j,none⟩:=by cases j <;> simp [Addr.add]
theorem aV (b j:Nat):(⟨b,0,none⟩ : Addr).add j = ⟨b,j,none⟩:=by rw [add_lit]; simp
theorem add_add (a:Addr) (i j:Nat):(a.add i).add j = a.add (i + j):=by
 unfold Addr.add
 by_cases hi:i = 0
 ·subst hi; simp
 ·by_cases hj:j = 0
  ·subst hj; simp [hi]
  ·simp [hi,hj,Nat.add_assoc]
def own (sz:Nat) (a:Wr) (l c:Nat) (vs:List Value):au:=λh =>
 (a = none/\l = 0/\c = 0/\vs = [])\/∃ b pre cs post,a = some ⟨b,List.length pre,none⟩/\aS b (pre ++ (vs ++ (cs ++ post))) h/\vs.length = l * sz/\(vs ++ cs).length = c * sz/\l<=c
theorem az (sz:Nat) (h:St w L):St w (own sz none 0 0 [] :: L) :=
 ⟨λ_=>none,hp w,λ_=>.inl rfl,λ_ _ h=>(nomatch h),sub.refl _,.inl ⟨rfl,rfl,rfl,rfl⟩,h⟩
theorem cq {sz l c:Nat} {a:Wr} (h:St w (own sz a l c vs :: L)) :
  (a = none/\l = 0/\c = 0/\vs = [])\/∃ b pre cs post,a = some ⟨b,List.length pre,none⟩/\St w (aS b (pre ++ (vs ++ (cs ++ post))) :: L)/\vs.length = l * sz/\(vs ++ cs).length = c * sz/\l<=c:=by
 obtain ⟨h1,h2,d,s1,s2,ha,hl⟩:=h
 rcases ha with ha | ⟨b,pre,cs,post,h3,h4,h5,h6,h7⟩
 ·exact .inl ha
 ·exact .inr ⟨b,pre,cs,post,h3,⟨h1,h2,d,s1,s2,h4,hl⟩,h5,h6,h7⟩
theorem dx {sz l c:Nat} {pre cs post:List Value} (h:St w (aS b (pre ++ (vs ++ (cs ++ post))) :: L)) (h1:vs.length = l * sz) (h2:(vs ++ cs).length = c * sz) (h3:l<=c):St w (own sz (some ⟨b,pre.length,none⟩) l c vs :: L) :=
 h.head λh ha=>.inr ⟨b,pre,cs,post,rfl,ha,h1,h2,h3⟩
theorem dR {sz l c:Nat} {cs:List Value} (h:St w (aS b (vs ++ cs) :: L)) (h1:vs.length = l * sz) (h2:(vs ++ cs).length = c * sz) (h3:l<=c):St w (own sz (some ⟨b,0,none⟩) l c vs :: L) :=
 dx (pre:=[]) (post:=[]) (by simpa using h) h1 h2 h3
theorem ir {sz l c:Nat} {a:Wr} (h:St w (own sz a l c vs :: L)):vs.length = l * sz:=by
 rcases cq h with ⟨_,rfl,_,rfl⟩ | ⟨_,_,_,_,_,_,h,_⟩
 ·simp
 ·exact h
theorem dj {sz l c:Nat} {a:Wr} (h:St w (own sz a l c vs :: L)):l<=c:=by
 rcases cq h with ⟨_,rfl,_,rfl⟩ | ⟨_,_,_,_,_,_,_,_,h⟩
 ·omega
 ·exact h
theorem bX {sz l c:Nat} {a:Wr} (h:St w (own sz a l c vs :: L)) {j:Nat} {v:Value} (hj:vs[j]? = some v):∃ ad,a = some ad/\w.cell? (ad.add j) = some v:=by
 rcases cq h with ⟨_,_,_,rfl⟩ | ⟨b,pre,cs,post,rfl,h,_⟩
 ·simp at hj
 ·refine ⟨_,rfl,?_⟩
  rw [add_lit,h.cell,UP (by omega),Vp,UQ (UA.1 hj).1]; exact hj
theorem O7 {t tx ty:TypeId} {i:TypeInfo} {z:Value} (ht:P.underlying t = some (.slice e)) (hi:P.info? e = some i) (hz:i.zero = some z) (hzs:z.cells.size = i.size)
  {a:Wr} {l c:Nat} (h:St w (own i.size a l c vs :: L)) {x:Value} {n:Nat} {news:List Value} (hs:Src P i.size tx x n news w) (hb:(l + n) * i.bytes<=140737488355328) (h63:l + n<=9223372036854775807) :
  aU P (Builtin.append_ (Array.mk [t,tx]) ty (Array.mk [.slice a l c,x])) w λv w'=>∃ a' c',v = .slice a' (l + n) c'/\St w' (own i.size a' (l + n) c' (vs ++ news) :: L):=by
 have hnl:=hs.newsLen
 have grow:c < l + n->(Builtin.firstCells i.size l (.slice a l c)).run P w.drew = .ok vs.toArray w.drew->(vs.length = l * i.size)->St w L ->
   aU P (Builtin.append_ (Array.mk [t,tx]) ty (Array.mk [.slice a l c,x])) w λv w'=>∃ a' c',v = .slice a' (l + n) c'/\St w' (own i.size a' (l + n) c' (vs ++ news) :: L):=by
  intro hg hold hvl hL
  have hr:=run_append_grow_src (P:=P) w t tx ty e i z ht hi hz a l c vs hold x n news hs hg (by omega) (growslice_fits hg hb)
  refine ⟨_,_,hr,(Ev.drew w _).trans (Ev.push _ _),_,_,rfl,?_⟩
  have hge:=grownCap_ge w (l + n) c e
  have h1:St w.drew L:=hL.same rfl
  have h2:=h1.push (.cells ((vs ++ news).toArray ++ Builtin.zeroCells z.cells (grownCap w (l + n) c e - (l + n))) e)
  have h3:St (w.drew.alloc (.cells ((vs ++ news).toArray ++ Builtin.zeroCells z.cells (grownCap w (l + n) c e - (l + n))) e)) (aS w.heap.size ((vs ++ news) ++ (Builtin.zeroCells z.cells (grownCap w (l + n) c e - (l + n))).toList) :: L):=by
   have:((vs ++ news).toArray ++ Builtin.zeroCells z.cells (grownCap w (l + n) c e - (l + n))) = ⟨(vs ++ news) ++ (Builtin.zeroCells z.cells (grownCap w (l + n) c e - (l + n))).toList⟩:=by apply VV; simp
   rw [this] at h2 ⊢; exact gH.2 ⟨_,h2⟩
  refine dR h3 ?_ ?_ hge
  ·rw [UG,hvl,hnl,Nat.add_mul]
  ·rw [UG,UG,hvl,hnl,<- Nat.add_mul,Wq,size_zeroCells,hzs,<- Nat.add_mul]
   congr 1; omega
 rcases cq h with ⟨rfl,rfl,rfl,rfl⟩ | ⟨b,pre,cs,post,rfl,hc,h1,h2,h3⟩
 ·rcases Nat.eq_zero_or_pos n with rfl | hn
  ·have:news = []:=UL (by simpa using hnl)
   subst this
   refine ⟨.slice none 0 0,w,?_,Ev.refl w,none,0,rfl,h⟩
   rcases hs.kind with ⟨e',hk⟩ | hk <;> simp [Builtin.append_,run_underlying ht,run_underlying hk,sizeOf,typeInfo,hi,hs.len,hs.cells]
  ·exact grow (by omega) (run_firstCells_none w.drew _ _ _ _) (by simp) h.tail
 ·by_cases hroom:l + n<=c
  ·have hcl:news.length<=cs.length:=by
    have h4:(l + n) * i.size<=c * i.size:=VW _ hroom
    rw [UG,h1] at h2
    rw [Nat.add_mul] at h4
    omega
   have hr:=run_append_room_src (P:=P) w t tx ty e i ht hi b pre.length l c x n news hs hroom
    (λj hj=>by
     rw [hc.cell,<- h1]
     have hlt:pre.length + vs.length + j < (pre ++ (vs ++ (cs ++ post))).length:=by simp; omega
     simp only [UB hlt,Option.isSome_some])
    (λj hj=>hc.frozen _ _)
   have e0:pre ++ (vs ++ (cs ++ post)) = (pre ++ vs) ++ (cs ++ post):=by simp
   rw [e0] at hc
   have h5:=hc.setCells news (pre ++ vs) (cs ++ post) (by simp; omega)
   rw [UG,h1] at h5
   refine ⟨_,_,hr,?_,_,_,rfl,?_⟩
   ·have:∀ (news:List Value) (w0 w:Ws) (o:Nat),Ev w0 w->Ev w0 (w.setCells b o news):=by
     intro news
     induction news with
     | nil=>exact λ_ _ _ h=>h
     | cons v r ih=>exact λw0 w o h=>ih w0 _ (o + 1) (h.trans (Ev.setCell w _ v))
    exact this news w w _ (Ev.refl w)
   ·have e1:(pre ++ vs) ++ news ++ (cs ++ post).drop news.length = pre ++ ((vs ++ news) ++ (cs.drop news.length ++ post)):=by
     rw [List.drop_append_of_le_length hcl]; simp
    rw [e1] at h5
    refine dx h5 ?_ ?_ hroom
    ·rw [UG,h1,hnl,Nat.add_mul]
    ·rw [UG] at h2 ⊢
     rw [UG,VU,<- h2]; omega
  ·refine grow (by omega) (run_firstCells_some w.drew _ _ _ _ _ _ h1 λj v hj=>?_) h1 h.tail
   rw [add_lit]
   have:=hc.cell (pre.length + j)
   rw [UP (by omega),Vp,UQ (UA.1 hj).1,hj] at this
   exact this
theorem iu {Ty:TypeId->Option cB} (hT:di P Ty) {t tx ty:TypeId} {i:cB} {z:Value} (hk:ah Ty t = .slice e) (hi:Ty e = some i) (hz:i.zero = some z) (hzs:(cellsOf z).length = i.size)
  {a:Wr} {l c:Nat} (h:St w (own i.size a l c vs :: L)) {x:Value} {n:Nat} {news:List Value} (hs:Src P i.size tx x n news w) (hb:(l + n) * i.bytes<=140737488355328) (h63:l + n<=9223372036854775807) :
  aU P (Builtin.append_ (Array.mk [t,tx]) ty (Array.mk [.slice a l c,x])) w λv w'=>∃ a' c',v = .slice a' (l + n) c'/\St w' (own i.size a' (l + n) c' (vs ++ news) :: L):=by
 obtain ⟨d,hd,hd'⟩:=cD hT hk (by simp)
 rw [du hd'] at hd
 obtain ⟨info,d2,ha⟩:=mP hT hi
 have hzz:z.cells.size = info.size:=by rw [<- ha.size,<- hzs,cM]; simp
 rw [ha.size] at *
 rw [ha.bytes] at hb
 exact O7 hd ha.inf (by rw [<- ha.zero,hz]) hzz h hs hb h63
theorem fx {Ty:TypeId->Option cB} (hT:di P Ty) {tx e' : TypeId} (hk:ah Ty tx = .slice e') {size:Nat} {a:Wr} {n c:Nat} {news:List Value} (hl:news.length = n * size)
  (hn:n = 0\/∃ ad,a = some ad/\∀ j u,news[j]? = some u->w.cell? (ad.add j) = some u) (h1:∀ u∈news,aH u = true):Src P size tx (.slice a n c) n news w:=by
 obtain ⟨d,hd,hd'⟩:=cD hT hk (by simp)
 rw [du hd'] at hd
 cases a with
 | none =>
  rcases hn with rfl | ⟨ad,h,_⟩
  ·have:news = []:=UL (by simpa using hl)
   subst this
   exact Src.ofNil w hd c
  ·cases h
 | some ad =>
  refine Src.ofSlice w hd ad n c news hl ?_ λu hu=>by rw [<- Dj]; exact h1 u hu
  rcases hn with rfl | ⟨ad',h,hc⟩
  ·have:news = []:=UL (by simpa using hl)
   subst this; intro j u hj; simp at hj
  ·cases h; exact hc
end
theorem wrap_u64 (n:Nat) (h:n < 2 ^ 64):IntKind.u64.wrap (n:Int) = n:=by
 have:(n:Int) % (18446744073709551616:Int) = n:=Int.emod_eq_of_lt (by omega) (by omega)
 simp [IntKind.wrap,IntKind.signed,IntKind.bits,this]
theorem uT (n:Nat):BitVec.ofInt 64 (n:Int) = BitVec.ofNat 64 n:=by
 apply BitVec.eq_of_toNat_eq; simp
theorem zM {a b:Nat} (ha:a < 2 ^ 64) (hb:b < 2 ^ 64):kH .and .u64 (a:Int) (b:Int) = ((a &&& b:Nat):Int):=by
 show IntKind.u64.wrap (((BitVec.ofInt 64 (a:Int)) &&& (BitVec.ofInt 64 (b:Int))).toNat:Int) = _
 rw [uT,uT,BitVec.toNat_and,BitVec.toNat_ofNat,BitVec.toNat_ofNat,Nat.mod_eq_of_lt ha,Nat.mod_eq_of_lt hb]
 exact wrap_u64 _ (Nat.and_lt_two_pow _ hb)
theorem O8 {a b:Nat} (ha:a < 2 ^ 64) (hb:b < 2 ^ 64):kH .or .u64 (a:Int) (b:Int) = ((a ||| b:Nat):Int):=by
 show IntKind.u64.wrap (((BitVec.ofInt 64 (a:Int)) ||| (BitVec.ofInt 64 (b:Int))).toNat:Int) = _
 rw [uT,uT,BitVec.toNat_or,BitVec.toNat_ofNat,BitVec.toNat_ofNat,Nat.mod_eq_of_lt ha,Nat.mod_eq_of_lt hb]
 exact wrap_u64 _ (Nat.or_lt_two_pow ha hb)
theorem L8 {s:Nat} (h:s < 64):LC .u64 1 (s:Int) = ((2 ^ s:Nat):Int):=by
 simp only [LC,IntKind.bits,U9,Int.one_mul]
 rw [V2 (by omega)]
 have h1:((2:Int) ^ s) = ((2 ^ s:Nat):Int):=by simp
 rw [h1,wrap_u64 _ (Nat.pow_lt_pow_right (by omega) h)]
theorem zN {n s:Nat} (h:s < 64):bw .u64 (n:Int) (s:Int) = ((n / 2 ^ s:Nat):Int):=by
 simp only [bw,IntKind.bits,U9]
 rw [V2 (by omega)]
 have h1:((2:Int) ^ s) = ((2 ^ s:Nat):Int):=by simp
 rw [h1,Int.fdiv_eq_ediv_of_nonneg _ (Vs _)]
 simp
theorem zO (k:Nat):Int.tdiv (k:Int) 64 = ((k / 64:Nat):Int):=by
 rw [Int.tdiv_eq_ediv_of_nonneg (by omega)]; simp
theorem L9 (k:Nat):Int.tmod (k:Int) 64 = ((k % 64:Nat):Int):=by
 rw [Int.tmod_eq_emod_of_nonneg (by omega)]; simp
theorem L_ {n s:Nat} (hn:n < 2 ^ 64) (h:s < 64):(kH .and .u64 (bw .u64 (n:Int) (s:Int)) 1 == 1) = n.testBit s:=by
 rw [zN h]
 have:(1:Int) = ((1:Nat):Int):=rfl
 rw [this,zM (Nat.lt_of_le_of_lt (Nat.div_le_self _ _) hn) (by omega)]
 rw [Nat.testBit_eq_decide_div_mod_eq,Nat.and_one_is_mod]
 by_cases hh:n / 2 ^ s % 2 = 1
 ·simp [hh]
 ·have h0:n / 2 ^ s % 2 = 0:=by omega
  simp [h0]
end Go.V

namespace Go.Proofs.YtndaepmjkbmjmaaGreatDoor
def Rg:List (TypeId × cB):=[
 (0,⟨.tuple,1,0,(some (.tuple #[])),[],[],false⟩),
 (1,⟨.func,1,8,(some .nilFunc),[],[],false⟩),
 (2,⟨(.int .i64),1,8,(some (.int .i64 0)),[],[],true⟩),
 (3,⟨(.int .i64),1,8,(some (.int .i64 0)),[],[],true⟩),
 (4,⟨.bool,1,1,(some (.bool false)),[],[],true⟩),
 (5,⟨(.int .u8),1,1,(some (.int .u8 0)),[],[],true⟩),
 (6,⟨(.int .u8),1,1,(some (.int .u8 0)),[],[],true⟩),
 (7,⟨.struct,4,24,(some (.agg #[(.int .i64 0),(.int .i64 0),(.bool false),(.int .u8 0)])),[(0,1,false),(1,1,false),(2,1,false),(3,1,false)],[],true⟩),
 (8,⟨.struct,4,24,(some (.agg #[(.int .i64 0),(.int .i64 0),(.bool false),(.int .u8 0)])),[(0,1,false),(1,1,false),(2,1,false),(3,1,false)],[],true⟩),
 (9,⟨.string,1,16,(some (.string ⟨#[]⟩)),[],[],true⟩),
 (10,⟨.string,1,16,(some (.string ⟨#[]⟩)),[],[],true⟩),
 (11,⟨.string,1,16,(some (.string ⟨#[]⟩)),[],[],true⟩),
 (12,⟨(.int .u64),1,8,(some (.int .u64 0)),[],[],true⟩),
 (13,⟨.struct,2,24,(some (.agg #[(.string ⟨#[]⟩),(.int .u64 0)])),[(0,1,false),(1,1,false)],[],true⟩),
 (14,⟨.struct,2,24,(some (.agg #[(.string ⟨#[]⟩),(.int .u64 0)])),[(0,1,false),(1,1,false)],[],true⟩),
 (15,⟨(.ptr 338),1,8,(some (.pointer none)),[],[],true⟩),
 (16,⟨(.ptr 341),1,8,(some (.pointer none)),[],[],true⟩),
 (17,⟨(.ptr 348),1,8,(some (.pointer none)),[],[],true⟩),
 (18,⟨.struct,1,8,(some (.agg #[(.pointer none)])),[(0,1,false)],[],true⟩),
 (19,⟨.struct,1,8,(some (.agg #[(.pointer none)])),[(0,1,false)],[],true⟩),
 (20,⟨.iface,1,16,(some .nilIface),[],[],true⟩),
 (21,⟨(.int .i32),1,4,(some (.int .i32 0)),[],[],true⟩),
 (22,⟨(.slice 83),1,24,(some (.slice none 0 0)),[],[],false⟩),
 (23,⟨(.slice 9),1,24,(some (.slice none 0 0)),[],[],false⟩),
 (24,⟨(.slice 3),1,24,(some (.slice none 0 0)),[],[],false⟩),
 (25,⟨(.slice 81),1,24,(some (.slice none 0 0)),[],[],false⟩),
 (26,⟨.struct,5,104,(some (.agg #[(.slice none 0 0),(.slice none 0 0),(.slice none 0 0),(.int .i64 0),(.slice none 0 0)])),[(0,1,false),(1,1,false),(2,1,false),(3,1,false),(4,1,false)],[],false⟩),
 (27,⟨.struct,5,104,(some (.agg #[(.slice none 0 0),(.slice none 0 0),(.slice none 0 0),(.int .i64 0),(.slice none 0 0)])),[(0,1,false),(1,1,false),(2,1,false),(3,1,false),(4,1,false)],[],false⟩),
 (28,⟨.func,1,8,(some .nilFunc),[],[],false⟩),
 (29,⟨(.slice 60),1,24,(some (.slice none 0 0)),[],[],false⟩),
 (30,⟨(.int .i64),1,8,(some (.int .i64 0)),[],[],true⟩),
 (31,⟨.tuple,1,0,(some (.tuple #[(.slice none 0 0),(.int .i64 0)])),[],[(.one .slice),(.one (.int .i64))],false⟩),
 (32,⟨.func,1,8,(some .nilFunc),[],[],false⟩),
 (33,⟨.func,1,8,(some .nilFunc),[],[],false⟩),
 (34,⟨.func,1,8,(some .nilFunc),[],[],false⟩),
 (35,⟨.func,1,8,(some .nilFunc),[],[],false⟩),
 (36,⟨.func,1,8,(some .nilFunc),[],[],false⟩),
 (37,⟨.func,1,8,(some .nilFunc),[],[],false⟩),
 (38,⟨(.slice 62),1,24,(some (.slice none 0 0)),[],[],false⟩),
 (39,⟨.tuple,1,0,(some (.tuple #[(.slice none 0 0),(.int .i64 0)])),[],[(.one .slice),(.one (.int .i64))],false⟩),
 (40,⟨.func,1,8,(some .nilFunc),[],[],false⟩),
 (41,⟨.func,1,8,(some .nilFunc),[],[],false⟩),
 (42,⟨.func,1,8,(some .nilFunc),[],[],false⟩),
 (43,⟨(.slice 54),1,24,(some (.slice none 0 0)),[],[],false⟩),
 (44,⟨.struct,3,40,(some (.agg #[(.slice none 0 0),(.int .i64 0),(.int .i64 0)])),[(0,1,false),(1,1,false),(2,1,false)],[],false⟩),
 (45,⟨.struct,3,40,(some (.agg #[(.slice none 0 0),(.int .i64 0),(.int .i64 0)])),[(0,1,false),(1,1,false),(2,1,false)],[],false⟩),
 (46,⟨.tuple,1,0,(some (.tuple #[(.agg #[(.slice none 0 0),(.int .i64 0),(.int .i64 0)]),(.int .i64 0)])),[],[(.agg [.slice,(.int .i64),(.int .i64)]),(.one (.int .i64))],false⟩),
 (47,⟨.func,1,8,(some .nilFunc),[],[],false⟩),
 (48,⟨(.slice 58),1,24,(some (.slice none 0 0)),[],[],false⟩),
 (49,⟨.tuple,1,0,(some (.tuple #[(.slice none 0 0),(.int .i64 0)])),[],[(.one .slice),(.one (.int .i64))],false⟩),
 (50,⟨.func,1,8,(some .nilFunc),[],[],false⟩),
 (51,⟨(.slice 104),1,24,(some (.slice none 0 0)),[],[],false⟩),
 (52,⟨(.slice 56),1,24,(some (.slice none 0 0)),[],[],false⟩),
 (53,⟨.struct,2,48,(some (.agg #[(.slice none 0 0),(.slice none 0 0)])),[(0,1,false),(1,1,false)],[],false⟩),
 (54,⟨.struct,2,48,(some (.agg #[(.slice none 0 0),(.slice none 0 0)])),[(0,1,false),(1,1,false)],[],false⟩),
 (55,⟨.struct,2,16,(some (.agg #[(.int .i64 0),(.int .i64 0)])),[(0,1,false),(1,1,false)],[],true⟩),
 (56,⟨.struct,2,16,(some (.agg #[(.int .i64 0),(.int .i64 0)])),[(0,1,false),(1,1,false)],[],true⟩),
 (57,⟨.struct,3,40,(some (.agg #[(.int .i64 0),(.int .i64 0),(.slice none 0 0)])),[(0,1,false),(1,1,false),(2,1,false)],[],false⟩),
 (58,⟨.struct,3,40,(some (.agg #[(.int .i64 0),(.int .i64 0),(.slice none 0 0)])),[(0,1,false),(1,1,false),(2,1,false)],[],false⟩),
 (59,⟨.struct,3,40,(some (.agg #[(.int .i64 0),(.int .i64 0),(.slice none 0 0)])),[(0,1,false),(1,1,false),(2,1,false)],[],false⟩),
 (60,⟨.struct,3,40,(some (.agg #[(.int .i64 0),(.int .i64 0),(.slice none 0 0)])),[(0,1,false),(1,1,false),(2,1,false)],[],false⟩),
 (61,⟨.struct,2,16,(some (.agg #[(.int .i64 0),(.int .i64 0)])),[(0,1,false),(1,1,false)],[],true⟩),
 (62,⟨.struct,2,16,(some (.agg #[(.int .i64 0),(.int .i64 0)])),[(0,1,false),(1,1,false)],[],true⟩),
 (63,⟨.func,1,8,(some .nilFunc),[],[],false⟩),
 (64,⟨.func,1,8,(some .nilFunc),[],[],false⟩),
 (65,⟨.tuple,1,0,(some (.tuple #[(.int .i64 0),(.int .i64 0)])),[],[(.one (.int .i64)),(.one (.int .i64))],false⟩),
 (66,⟨.func,1,8,(some .nilFunc),[],[],false⟩),
 (67,⟨.tuple,1,0,(some (.tuple #[(.agg #[(.int .i64 0),(.int .i64 0)]),(.slice none 0 0),(.int .i64 0)])),[],[(.agg [(.int .i64),(.int .i64)]),(.one .slice),(.one (.int .i64))],false⟩),
 (68,⟨.func,1,8,(some .nilFunc),[],[],false⟩),
 (69,⟨.func,1,8,(some .nilFunc),[],[],false⟩),
 (70,⟨(.slice 38),1,24,(some (.slice none 0 0)),[],[],false⟩),
 (71,⟨(.slice 24),1,24,(some (.slice none 0 0)),[],[],false⟩),
 (72,⟨.struct,2,48,(some (.agg #[(.slice none 0 0),(.slice none 0 0)])),[(0,1,false),(1,1,false)],[],false⟩),
 (73,⟨.struct,2,48,(some (.agg #[(.slice none 0 0),(.slice none 0 0)])),[(0,1,false),(1,1,false)],[],false⟩),
 (74,⟨.struct,3,72,(some (.agg #[(.slice none 0 0),(.slice none 0 0),(.slice none 0 0)])),[(0,2,true),(2,1,false)],[],false⟩),
 (75,⟨.struct,3,72,(some (.agg #[(.slice none 0 0),(.slice none 0 0),(.slice none 0 0)])),[(0,2,true),(2,1,false)],[],false⟩),
 (76,⟨.tuple,1,0,(some (.tuple #[(.agg #[(.slice none 0 0),(.slice none 0 0),(.slice none 0 0)]),(.int .i64 0)])),[],[(.agg [.slice,.slice,.slice]),(.one (.int .i64))],false⟩),
 (77,⟨.func,1,8,(some .nilFunc),[],[],false⟩),
 (78,⟨.func,1,8,(some .nilFunc),[],[],false⟩),
 (79,⟨.func,1,8,(some .nilFunc),[],[],false⟩),
 (80,⟨.struct,3,40,(some (.agg #[(.int .i64 0),(.slice none 0 0),(.int .i64 0)])),[(0,1,false),(1,1,false),(2,1,false)],[],false⟩),
 (81,⟨.struct,3,40,(some (.agg #[(.int .i64 0),(.slice none 0 0),(.int .i64 0)])),[(0,1,false),(1,1,false),(2,1,false)],[],false⟩),
 (82,⟨.struct,2,24,(some (.agg #[(.string ⟨#[]⟩),(.int .i64 0)])),[(0,1,false),(1,1,false)],[],true⟩),
 (83,⟨.struct,2,24,(some (.agg #[(.string ⟨#[]⟩),(.int .i64 0)])),[(0,1,false),(1,1,false)],[],true⟩),
 (84,⟨.func,1,8,(some .nilFunc),[],[],false⟩),
 (85,⟨.func,1,8,(some .nilFunc),[],[],false⟩),
 (86,⟨(.ptr 147),1,8,(some (.pointer none)),[],[],true⟩),
 (87,⟨.func,1,8,(some .nilFunc),[],[],false⟩),
 (88,⟨.func,1,8,(some .nilFunc),[],[],false⟩),
 (89,⟨.func,1,8,(some .nilFunc),[],[],false⟩),
 (90,⟨(.map 95 38),1,8,(some (.map none)),[],[],false⟩),
 (91,⟨(.map 95 38),1,8,(some (.map none)),[],[],false⟩),
 (92,⟨.tuple,1,0,(some (.tuple #[(.map none),(.int .i64 0),(.int .i64 0)])),[],[(.one .map),(.one (.int .i64)),(.one (.int .i64))],false⟩),
 (93,⟨.func,1,8,(some .nilFunc),[],[],false⟩),
 (94,⟨.struct,2,16,(some (.agg #[(.int .i64 0),(.int .i64 0)])),[(0,1,false),(1,1,false)],[],true⟩),
 (95,⟨.struct,2,16,(some (.agg #[(.int .i64 0),(.int .i64 0)])),[(0,1,false),(1,1,false)],[],true⟩),
 (96,⟨(.ptr 162),1,8,(some (.pointer none)),[],[],true⟩),
 (97,⟨.func,1,8,(some .nilFunc),[],[],false⟩),
 (98,⟨(.ptr 101),1,8,(some (.pointer none)),[],[],true⟩),
 (99,⟨(.map 9 3),1,8,(some (.map none)),[],[],false⟩),
 (100,⟨.struct,4,48,(some (.agg #[(.slice none 0 0),(.int .i64 0),(.int .i64 0),(.map none)])),[(0,3,true),(3,1,false)],[],false⟩),
 (101,⟨.struct,4,48,(some (.agg #[(.slice none 0 0),(.int .i64 0),(.int .i64 0),(.map none)])),[(0,3,true),(3,1,false)],[],false⟩),
 (102,⟨.func,1,8,(some .nilFunc),[],[],false⟩),
 (103,⟨.struct,2,16,(some (.agg #[(.int .i64 0),(.int .i64 0)])),[(0,1,false),(1,1,false)],[],true⟩),
 (104,⟨.struct,2,16,(some (.agg #[(.int .i64 0),(.int .i64 0)])),[(0,1,false),(1,1,false)],[],true⟩),
 (105,⟨(.map 3 51),1,8,(some (.map none)),[],[],false⟩),
 (106,⟨.func,1,8,(some .nilFunc),[],[],false⟩),
 (107,⟨.func,1,8,(some .nilFunc),[],[],false⟩),
 (108,⟨.func,1,8,(some .nilFunc),[],[],false⟩),
 (109,⟨.func,1,8,(some .nilFunc),[],[],false⟩),
 (110,⟨.func,1,8,(some .nilFunc),[],[],false⟩),
 (111,⟨.tuple,1,0,(some (.tuple #[(.slice none 0 0),(.int .i64 0)])),[],[(.one .slice),(.one (.int .i64))],false⟩),
 (112,⟨.func,1,8,(some .nilFunc),[],[],false⟩),
 (113,⟨(.slice 117),1,24,(some (.slice none 0 0)),[],[],false⟩),
 (114,⟨.tuple,1,0,(some (.tuple #[(.slice none 0 0),(.int .i64 0)])),[],[(.one .slice),(.one (.int .i64))],false⟩),
 (115,⟨.func,1,8,(some .nilFunc),[],[],false⟩),
 (116,⟨.struct,3,40,(some (.agg #[(.int .i64 0),(.int .i64 0),(.slice none 0 0)])),[(0,1,false),(1,1,false),(2,1,false)],[],false⟩),
 (117,⟨.struct,3,40,(some (.agg #[(.int .i64 0),(.int .i64 0),(.slice none 0 0)])),[(0,1,false),(1,1,false),(2,1,false)],[],false⟩),
 (118,⟨(.ptr 192),1,8,(some (.pointer none)),[],[],true⟩),
 (119,⟨.func,1,8,(some .nilFunc),[],[],false⟩),
 (120,⟨.func,1,8,(some .nilFunc),[],[],false⟩),
 (121,⟨.func,1,8,(some .nilFunc),[],[],false⟩),
 (122,⟨.func,1,8,(some .nilFunc),[],[],false⟩),
 (123,⟨.func,1,8,(some .nilFunc),[],[],false⟩),
 (124,⟨.tuple,1,0,(some (.tuple #[(.string ⟨#[]⟩),(.int .i64 0)])),[],[(.one .str),(.one (.int .i64))],false⟩),
 (125,⟨.func,1,8,(some .nilFunc),[],[],false⟩),
 (126,⟨.func,1,8,(some .nilFunc),[],[],false⟩),
 (127,⟨.func,1,8,(some .nilFunc),[],[],false⟩),
 (128,⟨.tuple,1,0,(some (.tuple #[(.agg #[(.int .i64 0),(.int .i64 0)]),(.slice none 0 0)])),[],[(.agg [(.int .i64),(.int .i64)]),(.one .slice)],false⟩),
 (129,⟨.func,1,8,(some .nilFunc),[],[],false⟩),
 (130,⟨.tuple,1,0,(some (.tuple #[(.slice none 0 0),(.bool false)])),[],[(.one .slice),(.one .bool)],false⟩),
 (131,⟨.func,1,8,(some .nilFunc),[],[],false⟩),
 (132,⟨.func,1,8,(some .nilFunc),[],[],false⟩),
 (133,⟨.func,1,8,(some .nilFunc),[],[],false⟩),
 (134,⟨.func,1,8,(some .nilFunc),[],[],false⟩),
 (135,⟨.func,1,8,(some .nilFunc),[],[],false⟩),
 (136,⟨.func,1,8,(some .nilFunc),[],[],false⟩),
 (137,⟨.func,1,8,(some .nilFunc),[],[],false⟩),
 (138,⟨.func,1,8,(some .nilFunc),[],[],false⟩),
 (139,⟨.func,1,8,(some .nilFunc),[],[],false⟩),
 (140,⟨(.slice 48),1,24,(some (.slice none 0 0)),[],[],false⟩),
 (141,⟨.func,1,8,(some .nilFunc),[],[],false⟩),
 (142,⟨(.ptr 220),1,8,(some (.pointer none)),[],[],true⟩),
 (143,⟨.func,1,8,(some .nilFunc),[],[],false⟩),
 (144,⟨(.slice 51),1,24,(some (.slice none 0 0)),[],[],false⟩),
 (145,⟨(.slice 148),1,24,(some (.slice none 0 0)),[],[],false⟩),
 (146,⟨.struct,11,200,(some (.agg #[(.slice none 0 0),(.slice none 0 0),(.slice none 0 0),(.int .i64 0),(.slice none 0 0),(.slice none 0 0),(.int .i64 0),(.int .i64 0),(.slice none 0 0),(.slice none 0 0),(.pointer none)])),[(0,5,true),(5,3,true),(8,1,false),(9,1,false),(10,1,false)],[],false⟩),
 (147,⟨.struct,11,200,(some (.agg #[(.slice none 0 0),(.slice none 0 0),(.slice none 0 0),(.int .i64 0),(.slice none 0 0),(.slice none 0 0),(.int .i64 0),(.int .i64 0),(.slice none 0 0),(.slice none 0 0),(.pointer none)])),[(0,5,true),(5,3,true),(8,1,false),(9,1,false),(10,1,false)],[],false⟩),
 (148,⟨(.slice 149),1,24,(some (.slice none 0 0)),[],[],false⟩),
 (149,⟨(.slice 4),1,24,(some (.slice none 0 0)),[],[],false⟩),
 (150,⟨.func,1,8,(some .nilFunc),[],[],false⟩),
 (151,⟨.func,1,8,(some .nilFunc),[],[],false⟩),
 (152,⟨.func,1,8,(some .nilFunc),[],[],false⟩),
 (153,⟨.func,1,8,(some .nilFunc),[],[],false⟩),
 (154,⟨.func,1,8,(some .nilFunc),[],[],false⟩),
 (155,⟨.func,1,8,(some .nilFunc),[],[],false⟩),
 (156,⟨.func,1,8,(some .nilFunc),[],[],false⟩),
 (157,⟨.func,1,8,(some .nilFunc),[],[],false⟩),
 (158,⟨.tuple,1,0,(some (.tuple #[(.slice none 0 0),(.bool false)])),[],[(.one .slice),(.one .bool)],false⟩),
 (159,⟨.func,1,8,(some .nilFunc),[],[],false⟩),
 (160,⟨(.map 3 24),1,8,(some (.map none)),[],[],false⟩),
 (161,⟨.struct,6,112,(some (.agg #[(.slice none 0 0),(.slice none 0 0),(.slice none 0 0),(.int .i64 0),(.slice none 0 0),(.map none)])),[(0,5,true),(5,1,false)],[],false⟩),
 (162,⟨.struct,6,112,(some (.agg #[(.slice none 0 0),(.slice none 0 0),(.slice none 0 0),(.int .i64 0),(.slice none 0 0),(.map none)])),[(0,5,true),(5,1,false)],[],false⟩),
 (163,⟨.func,1,8,(some .nilFunc),[],[],false⟩),
 (164,⟨.func,1,8,(some .nilFunc),[],[],false⟩),
 (165,⟨.func,1,8,(some .nilFunc),[],[],false⟩),
 (166,⟨.func,1,8,(some .nilFunc),[],[],false⟩),
 (167,⟨(.int .u64),1,8,(some (.int .u64 0)),[],[],true⟩),
 (168,⟨.func,1,8,(some .nilFunc),[],[],false⟩),
 (169,⟨.func,1,8,(some .nilFunc),[],[],false⟩),
 (170,⟨.func,1,8,(some .nilFunc),[],[],false⟩),
 (171,⟨.struct,2,16,(some (.agg #[.nilFunc,.nilFunc])),[(0,1,false),(1,1,false)],[],false⟩),
 (172,⟨.struct,2,16,(some (.agg #[.nilFunc,.nilFunc])),[(0,1,false),(1,1,false)],[],false⟩),
 (173,⟨(.slice 172),1,24,(some (.slice none 0 0)),[],[],false⟩),
 (174,⟨.func,1,8,(some .nilFunc),[],[],false⟩),
 (175,⟨(.ptr 182),1,8,(some (.pointer none)),[],[],true⟩),
 (176,⟨.tuple,1,0,(some (.tuple #[(.pointer none),(.int .i64 0)])),[],[(.one .ptr),(.one (.int .i64))],false⟩),
 (177,⟨.func,1,8,(some .nilFunc),[],[],false⟩),
 (178,⟨(.map 184 24),1,8,(some (.map none)),[],[],false⟩),
 (179,⟨(.slice 184),1,24,(some (.slice none 0 0)),[],[],false⟩),
 (180,⟨(.map 184 3),1,8,(some (.map none)),[],[],false⟩),
 (181,⟨.struct,13,216,(some (.agg #[(.slice none 0 0),(.slice none 0 0),(.slice none 0 0),(.int .i64 0),(.slice none 0 0),(.slice none 0 0),(.int .i64 0),(.int .i64 0),(.slice none 0 0),(.map none),(.map none),(.slice none 0 0),(.map none)])),[(0,5,true),(5,3,true),(8,1,false),(9,1,false),(10,1,false),(11,1,false),(12,1,false)],[],false⟩),
 (182,⟨.struct,13,216,(some (.agg #[(.slice none 0 0),(.slice none 0 0),(.slice none 0 0),(.int .i64 0),(.slice none 0 0),(.slice none 0 0),(.int .i64 0),(.int .i64 0),(.slice none 0 0),(.map none),(.map none),(.slice none 0 0),(.map none)])),[(0,5,true),(5,3,true),(8,1,false),(9,1,false),(10,1,false),(11,1,false),(12,1,false)],[],false⟩),
 (183,⟨.struct,2,16,(some (.agg #[(.int .i64 0),(.int .i64 0)])),[(0,1,false),(1,1,false)],[],true⟩),
 (184,⟨.struct,2,16,(some (.agg #[(.int .i64 0),(.int .i64 0)])),[(0,1,false),(1,1,false)],[],true⟩),
 (185,⟨.func,1,8,(some .nilFunc),[],[],false⟩),
 (186,⟨.func,1,8,(some .nilFunc),[],[],false⟩),
 (187,⟨.func,1,8,(some .nilFunc),[],[],false⟩),
 (188,⟨.func,1,8,(some .nilFunc),[],[],false⟩),
 (189,⟨(.slice 241),1,24,(some (.slice none 0 0)),[],[],false⟩),
 (190,⟨(.slice 241),1,24,(some (.slice none 0 0)),[],[],false⟩),
 (191,⟨.struct,2,32,(some (.agg #[(.slice none 0 0),(.int .i64 0)])),[(0,1,false),(1,1,false)],[],false⟩),
 (192,⟨.struct,2,32,(some (.agg #[(.slice none 0 0),(.int .i64 0)])),[(0,1,false),(1,1,false)],[],false⟩),
 (193,⟨.func,1,8,(some .nilFunc),[],[],false⟩),
 (194,⟨.func,1,8,(some .nilFunc),[],[],false⟩),
 (195,⟨.func,1,8,(some .nilFunc),[],[],false⟩),
 (196,⟨.func,1,8,(some .nilFunc),[],[],false⟩),
 (197,⟨.func,1,8,(some .nilFunc),[],[],false⟩),
 (198,⟨.func,1,8,(some .nilFunc),[],[],false⟩),
 (199,⟨.func,1,8,(some .nilFunc),[],[],false⟩),
 (200,⟨(.ptr 203),1,8,(some (.pointer none)),[],[],true⟩),
 (201,⟨(.slice 5),1,24,(some (.slice none 0 0)),[],[],false⟩),
 (202,⟨.struct,2,32,(some (.agg #[(.pointer none),(.slice none 0 0)])),[(0,1,false),(1,1,false)],[],false⟩),
 (203,⟨.struct,2,32,(some (.agg #[(.pointer none),(.slice none 0 0)])),[(0,1,false),(1,1,false)],[],false⟩),
 (204,⟨.func,1,8,(some .nilFunc),[],[],false⟩),
 (205,⟨.iface,1,16,(some .nilIface),[],[],true⟩),
 (206,⟨.iface,1,16,(some .nilIface),[],[],true⟩),
 (207,⟨.tuple,1,0,(some (.tuple #[(.int .i64 0),.nilIface])),[],[(.one (.int .i64)),(.one .val)],false⟩),
 (208,⟨.func,1,8,(some .nilFunc),[],[],false⟩),
 (209,⟨.func,1,8,(some .nilFunc),[],[],false⟩),
 (210,⟨.func,1,8,(some .nilFunc),[],[],false⟩),
 (211,⟨.func,1,8,(some .nilFunc),[],[],false⟩),
 (212,⟨.func,1,8,(some .nilFunc),[],[],false⟩),
 (213,⟨.func,1,8,(some .nilFunc),[],[],false⟩),
 (214,⟨(.array 4 3),4,32,(some (.agg #[(.int .i64 0),(.int .i64 0),(.int .i64 0),(.int .i64 0)])),[],[],true⟩),
 (215,⟨.func,1,8,(some .nilFunc),[],[],false⟩),
 (216,⟨.func,1,8,(some .nilFunc),[],[],false⟩),
 (217,⟨.func,1,8,(some .nilFunc),[],[],false⟩),
 (218,⟨.func,1,8,(some .nilFunc),[],[],false⟩),
 (219,⟨.struct,7,152,(some (.agg #[(.slice none 0 0),(.slice none 0 0),(.slice none 0 0),(.int .i64 0),(.slice none 0 0),(.slice none 0 0),(.slice none 0 0)])),[(0,5,true),(5,1,false),(6,1,false)],[],false⟩),
 (220,⟨.struct,7,152,(some (.agg #[(.slice none 0 0),(.slice none 0 0),(.slice none 0 0),(.int .i64 0),(.slice none 0 0),(.slice none 0 0),(.slice none 0 0)])),[(0,5,true),(5,1,false),(6,1,false)],[],false⟩),
 (221,⟨.func,1,8,(some .nilFunc),[],[],false⟩),
 (222,⟨.tuple,1,0,(some (.tuple #[(.slice none 0 0),(.bool false)])),[],[(.one .slice),(.one .bool)],false⟩),
 (223,⟨.func,1,8,(some .nilFunc),[],[],false⟩),
 (224,⟨.func,1,8,(some .nilFunc),[],[],false⟩),
 (225,⟨.func,1,8,(some .nilFunc),[],[],false⟩),
 (226,⟨(.map 3 3),1,8,(some (.map none)),[],[],false⟩),
 (227,⟨.func,1,8,(some .nilFunc),[],[],false⟩),
 (228,⟨.func,1,8,(some .nilFunc),[],[],false⟩),
 (229,⟨.func,1,8,(some .nilFunc),[],[],false⟩),
 (230,⟨.func,1,8,(some .nilFunc),[],[],false⟩),
 (231,⟨(.int .i64),1,8,(some (.int .i64 0)),[],[],true⟩),
 (232,⟨.tuple,1,0,(some (.tuple #[(.int .i64 0),(.int .i64 0)])),[],[(.one (.int .i64)),(.one (.int .i64))],false⟩),
 (233,⟨.func,1,8,(some .nilFunc),[],[],false⟩),
 (234,⟨.func,1,8,(some .nilFunc),[],[],false⟩),
 (235,⟨.func,1,8,(some .nilFunc),[],[],false⟩),
 (236,⟨.tuple,1,0,(some (.tuple #[(.int .i64 0),(.bool false)])),[],[(.one (.int .i64)),(.one .bool)],false⟩),
 (237,⟨.func,1,8,(some .nilFunc),[],[],false⟩),
 (238,⟨.func,1,8,(some .nilFunc),[],[],false⟩),
 (239,⟨(.int .u32),1,4,(some (.int .u32 0)),[],[],true⟩),
 (240,⟨.func,1,8,(some .nilFunc),[],[],false⟩),
 (241,⟨(.int .u64),1,8,(some (.int .u64 0)),[],[],true⟩),
 (242,⟨.func,1,8,(some .nilFunc),[],[],false⟩),
 (243,⟨.func,1,8,(some .nilFunc),[],[],false⟩),
 (244,⟨.tuple,1,0,(some (.tuple #[(.slice none 0 0),(.int .i64 0)])),[],[(.one .slice),(.one (.int .i64))],false⟩),
 (245,⟨.func,1,8,(some .nilFunc),[],[],false⟩),
 (246,⟨.tuple,1,0,(some (.tuple #[(.slice none 0 0),(.int .i64 0)])),[],[(.one .slice),(.one (.int .i64))],false⟩),
 (247,⟨.func,1,8,(some .nilFunc),[],[],false⟩),
 (248,⟨.func,1,8,(some .nilFunc),[],[],false⟩),
 (249,⟨.func,1,8,(some .nilFunc),[],[],false⟩),
 (250,⟨.func,1,8,(some .nilFunc),[],[],false⟩),
 (251,⟨.func,1,8,(some .nilFunc),[],[],false⟩),
 (252,⟨.tuple,1,0,(some (.tuple #[(.slice none 0 0),(.int .i64 0)])),[],[(.one .slice),(.one (.int .i64))],false⟩),
 (253,⟨.func,1,8,(some .nilFunc),[],[],false⟩),
 (254,⟨(.ptr 5),1,8,(some (.pointer none)),[],[],true⟩),
 (255,⟨.func,1,8,(some .nilFunc),[],[],false⟩),
 (256,⟨.func,1,8,(some .nilFunc),[],[],false⟩),
 (257,⟨.func,1,8,(some .nilFunc),[],[],false⟩),
 (258,⟨.func,1,8,(some .nilFunc),[],[],false⟩),
 (259,⟨.func,1,8,(some .nilFunc),[],[],false⟩),
 (260,⟨.func,1,8,(some .nilFunc),[],[],false⟩),
 (261,⟨.func,1,8,(some .nilFunc),[],[],false⟩),
 (262,⟨.func,1,8,(some .nilFunc),[],[],false⟩),
 (263,⟨(.int .u64),1,8,(some (.int .u64 0)),[],[],true⟩),
 (264,⟨.func,1,8,(some .nilFunc),[],[],false⟩),
 (265,⟨.func,1,8,(some .nilFunc),[],[],false⟩),
 (266,⟨.func,1,8,(some .nilFunc),[],[],false⟩),
 (267,⟨(.ptr 3),1,8,(some (.pointer none)),[],[],true⟩),
 (268,⟨.func,1,8,(some .nilFunc),[],[],false⟩),
 (269,⟨.func,1,8,(some .nilFunc),[],[],false⟩),
 (270,⟨.func,1,8,(some .nilFunc),[],[],false⟩),
 (271,⟨.func,1,8,(some .nilFunc),[],[],false⟩),
 (272,⟨.func,1,8,(some .nilFunc),[],[],false⟩),
 (273,⟨.func,1,8,(some .nilFunc),[],[],false⟩),
 (274,⟨(.ptr 279),1,8,(some (.pointer none)),[],[],true⟩),
 (275,⟨.tuple,1,0,(some (.tuple #[(.pointer none),(.int .i64 0)])),[],[(.one .ptr),(.one (.int .i64))],false⟩),
 (276,⟨.func,1,8,(some .nilFunc),[],[],false⟩),
 (277,⟨.func,1,8,(some .nilFunc),[],[],false⟩),
 (278,⟨.struct,9,152,(some (.agg #[(.slice none 0 0),(.slice none 0 0),(.slice none 0 0),(.int .i64 0),(.slice none 0 0),(.slice none 0 0),(.int .i64 0),(.int .i64 0),(.map none)])),[(0,5,true),(5,3,true),(8,1,false)],[],false⟩),
 (279,⟨.struct,9,152,(some (.agg #[(.slice none 0 0),(.slice none 0 0),(.slice none 0 0),(.int .i64 0),(.slice none 0 0),(.slice none 0 0),(.int .i64 0),(.int .i64 0),(.map none)])),[(0,5,true),(5,3,true),(8,1,false)],[],false⟩),
 (280,⟨.func,1,8,(some .nilFunc),[],[],false⟩),
 (281,⟨.func,1,8,(some .nilFunc),[],[],false⟩),
 (282,⟨.func,1,8,(some .nilFunc),[],[],false⟩),
 (283,⟨.func,1,8,(some .nilFunc),[],[],false⟩),
 (284,⟨.func,1,8,(some .nilFunc),[],[],false⟩),
 (285,⟨.func,1,8,(some .nilFunc),[],[],false⟩),
 (286,⟨(.slice 118),1,24,(some (.slice none 0 0)),[],[],false⟩),
 (287,⟨.func,1,8,(some .nilFunc),[],[],false⟩),
 (288,⟨.func,1,8,(some .nilFunc),[],[],false⟩),
 (289,⟨.func,1,8,(some .nilFunc),[],[],false⟩),
 (290,⟨.struct,7,152,(some (.agg #[(.slice none 0 0),(.slice none 0 0),(.slice none 0 0),(.int .i64 0),(.slice none 0 0),(.slice none 0 0),(.slice none 0 0)])),[(0,5,true),(5,1,false),(6,1,false)],[],false⟩),
 (291,⟨.struct,7,152,(some (.agg #[(.slice none 0 0),(.slice none 0 0),(.slice none 0 0),(.int .i64 0),(.slice none 0 0),(.slice none 0 0),(.slice none 0 0)])),[(0,5,true),(5,1,false),(6,1,false)],[],false⟩),
 (292,⟨(.ptr 291),1,8,(some (.pointer none)),[],[],true⟩),
 (293,⟨.func,1,8,(some .nilFunc),[],[],false⟩),
 (294,⟨(.array 64 5),64,64,(some (.agg #[(.int .u8 0),(.int .u8 0),(.int .u8 0),(.int .u8 0),(.int .u8 0),(.int .u8 0),(.int .u8 0),(.int .u8 0),(.int .u8 0),(.int .u8 0),(.int .u8 0),(.int .u8 0),(.int .u8 0),(.int .u8 0),(.int .u8 0),(.int .u8 0),(.int .u8 0),(.int .u8 0),(.int .u8 0),(.int .u8 0),(.int .u8 0),(.int .u8 0),(.int .u8 0),(.int .u8 0),(.int .u8 0),(.int .u8 0),(.int .u8 0),(.int .u8 0),(.int .u8 0),(.int .u8 0),(.int .u8 0),(.int .u8 0),(.int .u8 0),(.int .u8 0),(.int .u8 0),(.int .u8 0),(.int .u8 0),(.int .u8 0),(.int .u8 0),(.int .u8 0),(.int .u8 0),(.int .u8 0),(.int .u8 0),(.int .u8 0),(.int .u8 0),(.int .u8 0),(.int .u8 0),(.int .u8 0),(.int .u8 0),(.int .u8 0),(.int .u8 0),(.int .u8 0),(.int .u8 0),(.int .u8 0),(.int .u8 0),(.int .u8 0),(.int .u8 0),(.int .u8 0),(.int .u8 0),(.int .u8 0),(.int .u8 0),(.int .u8 0),(.int .u8 0),(.int .u8 0)])),[],[],true⟩),
 (295,⟨(.ptr 300),1,8,(some (.pointer none)),[],[],true⟩),
 (296,⟨.tuple,1,0,(some (.tuple #[(.pointer none),(.bool false)])),[],[(.one .ptr),(.one .bool)],false⟩),
 (297,⟨.func,1,8,(some .nilFunc),[],[],false⟩),
 (298,⟨.func,1,8,(some .nilFunc),[],[],false⟩),
 (299,⟨.struct,7,136,(some (.agg #[(.pointer none),(.slice none 0 0),(.slice none 0 0),(.slice none 0 0),(.slice none 0 0),(.int .i64 0),(.slice none 0 0)])),[(0,2,true),(2,5,true)],[],false⟩),
 (300,⟨.struct,7,136,(some (.agg #[(.pointer none),(.slice none 0 0),(.slice none 0 0),(.slice none 0 0),(.slice none 0 0),(.int .i64 0),(.slice none 0 0)])),[(0,2,true),(2,5,true)],[],false⟩),
 (301,⟨.func,1,8,(some .nilFunc),[],[],false⟩),
 (302,⟨.func,1,8,(some .nilFunc),[],[],false⟩),
 (303,⟨.other,1,8,(some (.pointer none)),[],[],true⟩),
 (304,⟨.func,1,8,(some .nilFunc),[],[],false⟩),
 (305,⟨.func,1,8,(some .nilFunc),[],[],false⟩),
 (306,⟨.func,1,8,(some .nilFunc),[],[],false⟩),
 (307,⟨.func,1,8,(some .nilFunc),[],[],false⟩),
 (308,⟨.func,1,8,(some .nilFunc),[],[],false⟩),
 (309,⟨.func,1,8,(some .nilFunc),[],[],false⟩),
 (310,⟨(.ptr 263),1,8,(some (.pointer none)),[],[],true⟩),
 (311,⟨.tuple,1,0,(some (.tuple #[(.int .i64 0),(.int .i64 0)])),[],[(.one (.int .i64)),(.one (.int .i64))],false⟩),
 (312,⟨.func,1,8,(some .nilFunc),[],[],false⟩),
 (313,⟨.func,1,8,(some .nilFunc),[],[],false⟩),
 (314,⟨.func,1,8,(some .nilFunc),[],[],false⟩),
 (315,⟨.func,1,8,(some .nilFunc),[],[],false⟩),
 (316,⟨.func,1,8,(some .nilFunc),[],[],false⟩),
 (317,⟨.func,1,8,(some .nilFunc),[],[],false⟩),
 (318,⟨(.slice 320),1,24,(some (.slice none 0 0)),[],[],false⟩),
 (319,⟨.struct,2,16,(some (.agg #[(.int .i64 0),(.int .i64 0)])),[(0,1,false),(1,1,false)],[],true⟩),
 (320,⟨.struct,2,16,(some (.agg #[(.int .i64 0),(.int .i64 0)])),[(0,1,false),(1,1,false)],[],true⟩),
 (321,⟨(.ptr 320),1,8,(some (.pointer none)),[],[],true⟩),
 (322,⟨.func,1,8,(some .nilFunc),[],[],false⟩),
 (323,⟨(.array 24 5),24,24,(some (.agg #[(.int .u8 0),(.int .u8 0),(.int .u8 0),(.int .u8 0),(.int .u8 0),(.int .u8 0),(.int .u8 0),(.int .u8 0),(.int .u8 0),(.int .u8 0),(.int .u8 0),(.int .u8 0),(.int .u8 0),(.int .u8 0),(.int .u8 0),(.int .u8 0),(.int .u8 0),(.int .u8 0),(.int .u8 0),(.int .u8 0),(.int .u8 0),(.int .u8 0),(.int .u8 0),(.int .u8 0)])),[],[],true⟩),
 (324,⟨.func,1,8,(some .nilFunc),[],[],false⟩),
 (325,⟨.tuple,1,0,(some (.tuple #[(.slice none 0 0),(.string ⟨#[]⟩)])),[],[(.one .slice),(.one .str)],false⟩),
 (326,⟨.func,1,8,(some .nilFunc),[],[],false⟩),
 (327,⟨.func,1,8,(some .nilFunc),[],[],false⟩),
 (328,⟨.func,1,8,(some .nilFunc),[],[],false⟩),
 (329,⟨.func,1,8,(some .nilFunc),[],[],false⟩),
 (330,⟨.func,1,8,(some .nilFunc),[],[],false⟩),
 (331,⟨.func,1,8,(some .nilFunc),[],[],false⟩),
 (332,⟨.func,1,8,(some .nilFunc),[],[],false⟩),
 (333,⟨(.array 20 241),20,160,(some (.agg #[(.int .u64 0),(.int .u64 0),(.int .u64 0),(.int .u64 0),(.int .u64 0),(.int .u64 0),(.int .u64 0),(.int .u64 0),(.int .u64 0),(.int .u64 0),(.int .u64 0),(.int .u64 0),(.int .u64 0),(.int .u64 0),(.int .u64 0),(.int .u64 0),(.int .u64 0),(.int .u64 0),(.int .u64 0),(.int .u64 0)])),[],[],true⟩),
 (334,⟨(.array 65 5),65,65,(some (.agg #[(.int .u8 0),(.int .u8 0),(.int .u8 0),(.int .u8 0),(.int .u8 0),(.int .u8 0),(.int .u8 0),(.int .u8 0),(.int .u8 0),(.int .u8 0),(.int .u8 0),(.int .u8 0),(.int .u8 0),(.int .u8 0),(.int .u8 0),(.int .u8 0),(.int .u8 0),(.int .u8 0),(.int .u8 0),(.int .u8 0),(.int .u8 0),(.int .u8 0),(.int .u8 0),(.int .u8 0),(.int .u8 0),(.int .u8 0),(.int .u8 0),(.int .u8 0),(.int .u8 0),(.int .u8 0),(.int .u8 0),(.int .u8 0),(.int .u8 0),(.int .u8 0),(.int .u8 0),(.int .u8 0),(.int .u8 0),(.int .u8 0),(.int .u8 0),(.int .u8 0),(.int .u8 0),(.int .u8 0),(.int .u8 0),(.int .u8 0),(.int .u8 0),(.int .u8 0),(.int .u8 0),(.int .u8 0),(.int .u8 0),(.int .u8 0),(.int .u8 0),(.int .u8 0),(.int .u8 0),(.int .u8 0),(.int .u8 0),(.int .u8 0),(.int .u8 0),(.int .u8 0),(.int .u8 0),(.int .u8 0),(.int .u8 0),(.int .u8 0),(.int .u8 0),(.int .u8 0),(.int .u8 0)])),[],[],true⟩),
 (335,⟨.func,1,8,(some .nilFunc),[],[],false⟩),
 (336,⟨(.array 32 5),32,32,(some (.agg #[(.int .u8 0),(.int .u8 0),(.int .u8 0),(.int .u8 0),(.int .u8 0),(.int .u8 0),(.int .u8 0),(.int .u8 0),(.int .u8 0),(.int .u8 0),(.int .u8 0),(.int .u8 0),(.int .u8 0),(.int .u8 0),(.int .u8 0),(.int .u8 0),(.int .u8 0),(.int .u8 0),(.int .u8 0),(.int .u8 0),(.int .u8 0),(.int .u8 0),(.int .u8 0),(.int .u8 0),(.int .u8 0),(.int .u8 0),(.int .u8 0),(.int .u8 0),(.int .u8 0),(.int .u8 0),(.int .u8 0),(.int .u8 0)])),[],[],true⟩),
 (337,⟨.struct,4,40,(some (.agg #[(.pointer none),(.pointer none),(.pointer none),(.string ⟨#[]⟩)])),[(0,1,false),(1,1,false),(2,1,false),(3,1,false)],[],true⟩),
 (338,⟨.struct,4,40,(some (.agg #[(.pointer none),(.pointer none),(.pointer none),(.string ⟨#[]⟩)])),[(0,1,false),(1,1,false),(2,1,false),(3,1,false)],[],true⟩),
 (339,⟨(.array 0 16),0,0,(some (.agg #[])),[],[],true⟩),
 (340,⟨.struct,0,0,(some (.agg #[])),[(0,0,true)],[],true⟩),
 (341,⟨.struct,0,0,(some (.agg #[])),[(0,0,true)],[],true⟩),
 (342,⟨(.int .u8),1,1,(some (.int .u8 0)),[],[],true⟩),
 (343,⟨(.int .u8),1,1,(some (.int .u8 0)),[],[],true⟩),
 (344,⟨.func,1,8,(some .nilFunc),[],[],false⟩),
 (345,⟨(.int .i32),1,4,(some (.int .i32 0)),[],[],true⟩),
 (346,⟨(.int .i32),1,4,(some (.int .i32 0)),[],[],true⟩),
 (347,⟨.struct,11,48,(some (.agg #[(.int .u64 0),(.int .u64 0),(.int .u32 0),(.int .u8 0),(.int .u8 0),(.int .u8 0),(.int .u8 0),.nilFunc,(.pointer none),(.int .i32 0),(.int .i32 0)])),[(0,1,false),(1,1,false),(2,1,false),(3,1,false),(4,1,false),(5,1,false),(6,1,false),(7,1,false),(8,1,false),(9,1,false),(10,1,false)],[],false⟩),
 (348,⟨.struct,11,48,(some (.agg #[(.int .u64 0),(.int .u64 0),(.int .u32 0),(.int .u8 0),(.int .u8 0),(.int .u8 0),(.int .u8 0),.nilFunc,(.pointer none),(.int .i32 0),(.int .i32 0)])),[(0,1,false),(1,1,false),(2,1,false),(3,1,false),(4,1,false),(5,1,false),(6,1,false),(7,1,false),(8,1,false),(9,1,false),(10,1,false)],[],false⟩)]
def Ty:TypeId->Option cB:=Lu Rg
def Uh:TypeId->Option cB:=Lv Ty
theorem aL:di Tryz.prog Ty:=OQ (by kernel_rfl)
theorem y6 {P:Program} {F F' : FuncId->Bool} (h:pV P F) (h' : pV P F'):pV P λg=>F g || F' g:=λg hg=>by
 rcases VH _ _ ▸ hg with hg | hg
 ·exact h g hg
 ·exact h' g hg
def Fn (g:FuncId):Bool:=(Nat.ble 3 g && Nat.ble g 224) || (Nat.ble 226 g && Nat.ble g 229) || (Nat.ble 231 g && Nat.ble g 253) || (Nat.ble 255 g && Nat.ble g 266) || (Nat.ble 291 g && Nat.ble g 291)
theorem Rh:pV Tryz.prog Fn:=(y6 (y6 (y6 (y6 (uN (by kernel_rfl)) (uN (by kernel_rfl))) (uN (by kernel_rfl))) (uN (by kernel_rfl))) (uN (by kernel_rfl)))
theorem mixed:Tryz.prog.follows .mixedOrders = true:=by kernel_rfl
abbrev vU (l:List Value):Value:=.tuple (Array.mk l)
abbrev cL (w:Ws) (a:Addr) (v:Value):Prop:=w.cell? a = some v
abbrev rA (w:Ws) (a:Addr) (n:Nat) (l:List Value):Prop:=V.rowAt w a 0 n = some l
abbrev rE:=r_ Tryz.prog Ev
abbrev rS:=@aU Value Tryz.prog
theorem rv {i:FuncId} {fn:Func} (hf:Tryz.prog.funcs[i]? = some fn) (A:bh) {args:List Value} {w:Ws} {R:Value->Ws->Prop} {V:Prop} (e:Q8 Tryz.prog Ty Fn Ev A fn args w R = V) (h:V):ay Tryz.prog i args w R:=L7 aL Rh mixed hf A (e ▸ h)
theorem Ui {i:FuncId} {fn:Func} (hf:Tryz.prog.funcs[i]? = some fn) (A:bh) {args:List Value} {w:Ws} {R:Value->Ws->Prop} {V:Prop} (e:Q8 Tryz.prog Uh Fn Ev A fn args w R = V) (h:V):ay Tryz.prog i args w R:=L7 (OR aL) Rh mixed hf A (e ▸ h)
end Go.Proofs.YtndaepmjkbmjmaaGreatDoor
