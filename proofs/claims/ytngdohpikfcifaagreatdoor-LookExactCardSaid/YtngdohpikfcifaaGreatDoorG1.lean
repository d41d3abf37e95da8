/- Texts of this claim, one behind the other. -/
import Derived.RangeFuncIn
import Derived.RangeFuncLeaves
import Derived.TacticsIn
import Derived.Deep.Quiet
import Derived.Laws.Sem
import Derived.Laws.Cells
import Derived.KernelRfl
import Derived.IntWalk
import Derived.Laws.Slices
import Derived.OrdersIn
import Derived.RangeFuncRecord
import Derived.Deep.AppendSrc
import Derived.Test.YtngdohpikfcifaaGreatDoorProg
set_option linter.unusedVariables false
set_option linter.unusedSectionVars false
set_option maxRecDepth 100000
set_option maxHeartbeats 16000000
namespace Go
abbrev Si := @of_decide_eq_true
abbrev Sj := @of_decide_eq_false
abbrev Sk := @List.getElem?_eq_some_iff
abbrev Sl := @List.mem_of_getElem?
abbrev Sm := @List.getElem?_eq_getElem
abbrev Sn := @List.getElem?_map
abbrev Sp := @List.mem_append
abbrev Sq := @List.getD_eq_getElem?_getD
abbrev Sr := @if_neg
abbrev Ss := @List.length_map
abbrev Su := @List.take_add_one
abbrev Sv := @Nat.zero_le
abbrev Sw := @List.getElem?_append_left
abbrev Sx := @List.length_append
abbrev Sy := @decide_eq_true_eq
abbrev Sz := @if_pos
abbrev SA := @List.mem_cons
abbrev SB := @Bool.and_eq_true
abbrev SC := @List.getElem?_append_right
abbrev SD := @List.take_of_length_le
abbrev SE := @List.mem_singleton
abbrev SF := @Nat.le_refl
abbrev SG := @List.mem_map
abbrev SH := @List.getElem?_eq_none
abbrev SI := @List.append_assoc
abbrev SJ := @Int.toNat_natCast
abbrev SK := @Nat.le_trans
abbrev SL := @List.length_set
abbrev SM := @List.take_length
abbrev SN := @List.length_take
abbrev SO := @List.mem_range
abbrev SP := @List.getElem?_of_mem
abbrev SR := @List.getElem?_set_ne
abbrev SS := @Array.getElem?_toList
abbrev SU := @List.map_append
abbrev SV := @List.eq_nil_of_length_eq_zero
abbrev SX := @List.nodup_append
abbrev SY := @List.getElem?_set_self
abbrev SZ := @decide_eq_false_iff_not
abbrev S0 := @List.map_cons
abbrev S2 := @decide_eq_true
abbrev S3 := @Array.getElem?_eq_some_iff
abbrev S4 := @List.length_cons
abbrev S5 := @List.take_append_drop
abbrev S6 := @List.append_nil
abbrev S7 := @List.mem_filter
abbrev S8 := @List.getElem?_drop
abbrev S9 := @Bool.eq_iff_iff
abbrev S_ := @Int.natCast_nonneg
abbrev Ta := @List.map_set
abbrev Tb := @List.ext_getElem?
abbrev Tc := @List.getElem?_replicate
abbrev Td := @Array.getElem?_modify
abbrev Te := @List.nodup_cons
abbrev Tf := @Option.map_some
abbrev Tg := @List.flatMap_cons
abbrev Th := @List.filter_append
abbrev Ti := @Option.toList_some
abbrev Tj := @List.length_filter_le
abbrev Tk := @Bool.or_eq_true
abbrev Tl := @Classical.byContradiction
abbrev Tm := @Array.getElem?_setIfInBounds_ne
abbrev Tn := @Nat.zero_add
abbrev To := @List.nil_append
abbrev Tp := @Nat.mul_one
abbrev Tq := @List.perm_middle
abbrev Tr := @Nat.add_sub_cancel_left
abbrev Ts := @List.length_range
abbrev Tt := @Bool.not_eq_true'
abbrev Tu := @List.pairwise_cons
abbrev Tv := @List.flatMap_append
abbrev Tw := @List.mem_of_mem_drop
abbrev Tx := @Nat.sub_self
abbrev Tz := @List.drop_eq_getElem_cons
abbrev TA := @List.getElem?_range
abbrev TB := @List.getElem?_set
abbrev TC := @List.contains_iff_mem
abbrev TD := @decide_eq_false
abbrev TE := @List.getElem?_take
abbrev TF := @Array.ext'
abbrev TG := @List.all_eq_true
abbrev TH := @Nat.le_of_not_lt
abbrev TI := @List.nodup_iff_pairwise_ne
abbrev TJ := @List.map_congr_left
abbrev TK := @beq_eq_false_iff_ne
abbrev TL := @Nat.eq_of_beq_eq_true
abbrev TM := @Ne.symm
abbrev TN := @Nat.succ_mul
abbrev TO := @List.length_drop
abbrev TP := @List.any_eq_true
abbrev TQ := @List.append_of_mem
abbrev TR := @Nat.lt_of_lt_of_le
abbrev TS := @Bool.true_and
abbrev TT := @Nat.mul_le_mul_right
abbrev TU := @List.mem_append_left
abbrev TV := @List.getElem?_cons_succ
abbrev TW := @Nat.min_eq_left
abbrev TX := @List.range_succ
abbrev TY := @List.idxOf_lt_length_of_mem
abbrev TZ := @List.flatten_append
abbrev T0 := @List.replicate_succ
abbrev T1 := @Option.map_eq_some_iff
abbrev T2 := @List.mem_flatMap
abbrev T3 := @List.set_append_right
abbrev T4 := @Bool.false_eq_true
abbrev T5 := @List.length_singleton
abbrev T6 := @List.length_nil
abbrev T7 := @List.mem_cons_of_mem
abbrev T8 := @List.flatten_cons
abbrev T9 := @List.pairwise_map
end Go
namespace Go.V
inductive Cs where
 | int (k:IntKind) | bool | str | slice | ptr | map | fn | val
 deriving Inhabited
inductive S1 where
 | one (c:Cs) | agg (l:List Cs)
 deriving Inhabited
inductive Sh where
 | s (x:S1) | tup (l:List S1)
 deriving Inhabited

def Cs.ex:Cs→(Value→Prop)→Prop
 | .int k,p=>∃ n:Int,p (.int k n)
 | .bool,p=>∃ b:Bool,p (.bool b)
 | .str,p=>∃ s:ByteArray,p (.string s)
 | .slice,p=>∃ (a:Option Addr) (l c:Nat),p (.slice a l c)
 | .ptr,p=>∃ a:Option Addr,p (.pointer a)
 | .map,p=>∃ r:Option Nat,p (.map r)
 | .fn,p=>∃ (g:FuncId) (c:List Value),p (.func (.func g) #[] ⟨c⟩)
 | .val,p=>∃ v:Value,p v
def Cs.all:Cs→(Value→Prop)→Prop
 | .int k,p=>∀ n:Int,p (.int k n)
 | .bool,p=>∀ b:Bool,p (.bool b)
 | .str,p=>∀ s:ByteArray,p (.string s)
 | .slice,p=>∀ (a:Option Addr) (l c:Nat),p (.slice a l c)
 | .ptr,p=>∀ a:Option Addr,p (.pointer a)
 | .map,p=>∀ r:Option Nat,p (.map r)
 | .fn,p=>∀ (g:FuncId) (c:List Value),p (.func (.func g) #[] ⟨c⟩)
 | .val,p=>∀ v:Value,p v
def Qz:List Cs→(List Value→Prop)→Prop
 | [],p=>p []
 | c :: l,p=>c.ex fun v=>Qz l fun vs=>p (v :: vs)
def M6:List Cs→(List Value→Prop)→Prop
 | [],p=>p []
 | c :: l,p=>c.all fun v=>M6 l fun vs=>p (v :: vs)
def S1.ex:S1→(Value→Prop)→Prop
 | .one c,p=>c.ex p
 | .agg l,p=>Qz l fun vs=>p (.agg ⟨vs⟩)
def S1.all:S1→(Value→Prop)→Prop
 | .one c,p=>c.all p
 | .agg l,p=>M6 l fun vs=>p (.agg ⟨vs⟩)
def Pa:List S1→(List Value→Prop)→Prop
 | [],p=>p []
 | c :: l,p=>c.ex fun v=>Pa l fun vs=>p (v :: vs)
def Sh.ex:Sh→(Value→Prop)→Prop
 | .s x,p=>x.ex p
 | .tup l,p=>Pa l fun vs=>p (.tuple ⟨vs⟩)
def Sh.is (sh:Sh) (v:Value) (k:Value→Prop):Prop:=sh.ex fun u=>v = u∧k u

theorem Cs.iV {c:Cs} {p:Value→Prop} (h:c.ex p):∃ v,p v:=by
 cases c <;> simp only [Cs.ex] at h
 case slice=>obtain ⟨a,l,c,h⟩:=h; exact ⟨_,h⟩
 case fn=>obtain ⟨a,l,h⟩:=h; exact ⟨_,h⟩
 all_goals (obtain ⟨a,h⟩:=h; exact ⟨_,h⟩)
theorem zW {l:List Cs}:∀ {p:List Value→Prop},Qz l p→∃ v,v.length = l.length∧p v:=by
 induction l with
 | nil=>exact fun h=>⟨[],rfl,h⟩
 | cons c l ih=>intro p h; obtain ⟨v,h⟩:=Cs.iV h; obtain ⟨vs,hl,h⟩:=ih h; exact ⟨v :: vs,by simp [hl],h⟩
theorem S1.iV {c:S1} {p:Value→Prop} (h:c.ex p):∃ v,p v:=by
 cases c with
 | one c=>exact Cs.iV h
 | agg l=>obtain ⟨vs,_,h⟩:=zW h; exact ⟨_,h⟩
theorem zX {l:List S1}:∀ {p:List Value→Prop},Pa l p→∃ v,p v:=by
 induction l with
 | nil=>exact fun h=>⟨[],h⟩
 | cons c l ih=>intro p h; obtain ⟨v,h⟩:=S1.iV h; obtain ⟨vs,h⟩:=ih h; exact ⟨v :: vs,h⟩
theorem Sh.iV {c:Sh} {p:Value→Prop} (h:c.ex p):∃ v,p v:=by
 cases c with
 | s c=>exact S1.iV h
 | tup l=>obtain ⟨vs,h⟩:=zX h; exact ⟨_,h⟩
theorem Sh.fu {sh:Sh} {v:Value} {k:Value→Prop} (h:sh.is v k):k v:=by
 obtain ⟨u,rfl,h⟩:=Sh.iV h; exact h

inductive Kd where
 | bool | int (k:IntKind) | string | slice (e:TypeId) | ptr (e:TypeId) | map (k e:TypeId) | struct | array (n:Nat) (e:TypeId) | func | iface | tuple | other
 deriving Inhabited
def dx:TypeDesc→Kd
 | .bool=>.bool | .int k=>.int k | .string=>.string | .slice e=>.slice e | .pointer e=>.ptr e | .map k e=>.map k e
 | .struct _=>.struct | .array n e=>.array n e | .func ..=>.func | .interface _=>.iface | .tuple _=>.tuple | _=>.other
def Cs.of:Value→Cs
 | .int k _=>.int k | .bool _=>.bool | .string _=>.str | .slice ..=>.slice | .pointer _=>.ptr | .map _=>.map | .nilFunc=>.fn | _=>.val
def S1.of:Value→S1
 | .agg cs=>.agg (cs.toList.map Cs.of)
 | v=>.one (Cs.of v)
structure di where
 kd:Kd
 size:Nat
 bytes:Nat
 zero:Option Value
 flds:List (Nat × Nat × Bool)      -- offset,size,is the field's type a struct or an array
 tup:List S1
 cmp:Bool:=false
 deriving Inhabited
def Kd.isAgg:Kd→Bool
 | .struct | .array ..=>true
 | _=>false
def xh (P:Program):TypeDesc→Bool
 | .struct fs=>fs.toList.all fun f=>(P.info? f.type).isSome && (P.underlying f.type).isSome
 | _=>true
def RF (P:Program) (t:TypeId):Option di :=
  match P.info? t,P.underlying t with
  | some i,some d=>bif xh P d then some
    { kd:=dx d,size:=i.size,bytes:=i.bytes,zero:=i.zero,cmp:=i.comparable
      flds:=match d with
        | .struct fs=>fs.toList.map fun f=>(f.offset,P.cellsOf f.type,match P.underlying f.type with | some (.struct _) | some (.array ..)=>true | _=>false)
        | _=>[]
      tup:=match d with
        | .tuple ts=>ts.toList.map fun e=>S1.of (((P.info? e).bind (·.zero)).getD undef)
        | _=>[] } else none
  | _,_=>none
def dy (P:Program) (Ty:TypeId→Option di):Prop:=∀ t i,Ty t = some i→RF P t = some i
def Ks:List (TypeId × di)→TypeId→Option di
 | [],_=>none
 | (t,i) :: l,u=>bif Nat.beq t u then some i else Ks l u
theorem M7 {P:Program} {l:List (TypeId × di)} (h:l.map (fun x=>RF P x.1) = l.map (fun x=>some x.2)):dy P (Ks l):=by
 intro t i hi
 induction l with
 | nil=>simp [Ks] at hi
 | cons x l ih =>
  obtain ⟨u,j⟩:=x
  simp only [S0,List.cons.injEq] at h
  simp only [Ks,Bool.cond_eq_ite] at hi
  by_cases hb:Nat.beq u t = true
  ·rw [Sz hb] at hi; cases hi; rw [← TL hb]; exact h.1
  ·rw [Sr hb] at hi; exact ih h.2 hi
def Ko (Ty:TypeId→Option di) (t:TypeId):Sh :=
 match Ty t with
 | some i=>match i.kd with | .tuple=>.tup i.tup | _=>(match i.zero with | some z=>.s (S1.of z) | none=>.s (.one .val))
 | none=>.s (.one .val)

structure Ev (w w' : World):Prop where
 os:w'.os = w.os
 tape:w'.tape = w.tape
 output:w'.output = w.output
 size:w.heap.size≤w'.heap.size
 dfr:∀ (b:Nat) (d:Option (List Deferred)),w.heap[b]? = some (Obj.deferred d)→w'.heap[b]? = some (Obj.deferred d)
 lop:∀ (b:Nat) (d:Loop),w.heap[b]? = some (Obj.loop d)→w'.heap[b]? = some (Obj.loop d)
theorem Ev.refl (w:World):Ev w w:=⟨rfl,rfl,rfl,SF _,fun _ _ h=>h,fun _ _ h=>h⟩
theorem Ev.trans {a b c:World} (h:Ev a b) (k:Ev b c):Ev a c :=
 ⟨k.os.trans h.os,k.tape.trans h.tape,k.output.trans h.output,SK h.size k.size,fun x d hx=>k.dfr x d (h.dfr x d hx),fun x d hx=>k.lop x d (h.lop x d hx)⟩
theorem Ev.drew (w:World) (n:Nat):Ev w { w with drawn:=n }:=⟨rfl,rfl,rfl,SF _,fun _ _ h=>h,fun _ _ h=>h⟩
theorem Ev.push (w:World) (o:Obj):Ev w { w with heap:=w.heap.push o }:=by
 refine ⟨rfl,rfl,rfl,by simp,?_,?_⟩ <;>
 ·intro b d h
  have hb:b < w.heap.size:=(S3.1 h).1
  simp only [Array.getElem?_push]; rw [Sr (by omega)]; exact h
theorem Ev.setCell (w:World) (a:Addr) (v:Value):Ev w (w.setCell a v):=by
 refine ⟨rfl,rfl,rfl,by simp [World.setCell],?_,?_⟩ <;>
 ·intro b d h
  simp only [World.setCell,Td]
  split
  ·rename_i e; subst e; simp [h]
  ·exact h

structure C3 (E:World→World→Prop):Prop where
 trans:∀ {a b c:World},E a b→E b c→E a c
 ofEv:∀ a b:World,Ev a b→E a b
 dfr:∀ {a b:World},E a b→∀ (k:Nat) (d:Option (List Deferred)),a.heap[k]? = some (Obj.deferred d)→b.heap[k]? = some (Obj.deferred d)
 size:∀ {a b:World},E a b→a.heap.size≤b.heap.size
theorem RG:C3 Ev:=⟨fun h k=>h.trans k,fun _ _ h=>h,fun h k d hd=>h.dfr k d hd,fun h=>h.size⟩
def au (P:Program) (E:World→World→Prop) (f:FuncId) (args:List Value) (w:World) (R:Value→World→Prop):Prop :=
 Calls P f ⟨args⟩ w fun e w'=>∃ v,e = .returned v∧E w w'∧R v w'
abbrev aC (P:Program) (f:FuncId) (args:List Value) (w:World) (R:Value→World→Prop):Prop:=au P Ev f args w R
theorem aC.mono {P:Program} {f:FuncId} {args:List Value} {w:World} {R R' : Value→World→Prop} (h:aC P f args w R) (hr:∀ v w',R v w'→R' v w'):aC P f args w R' :=
 Calls.mono h fun _ _ ⟨v,he,hE,hR⟩=>⟨v,he,hE,hr _ _ hR⟩
theorem au.mono {P:Program} {E:World→World→Prop} {f:FuncId} {args:List Value} {w:World} {R R' : Value→World→Prop} (h:au P E f args w R) (hr:∀ v w',R v w'→R' v w'):au P E f args w R' :=
 Calls.mono h fun _ _ ⟨v,he,hE,hR⟩=>⟨v,he,hE,hr _ _ hR⟩
theorem aC.Sa {P:Program} {E:World→World→Prop} (hE:C3 E) {f:FuncId} {args:List Value} {w:World} {R:Value→World→Prop} (h:aC P f args w R):au P E f args w R :=
 Calls.mono h fun _ _ ⟨v,he,h1,hR⟩=>⟨v,he,hE.ofEv _ _ h1,hR⟩
def az {α : Type} (P:Program) (s:Sem α) (w:World) (R:α→World→Prop):Prop :=
 ∃ v w',s.run P w = .ok v w'∧Ev w w'∧R v w'
theorem az.mono {α : Type} {P:Program} {s:Sem α} {w:World} {R R' : α→World→Prop} (h:az P s w R) (hr:∀ v w',R v w'→R' v w'):az P s w R' :=
 let ⟨v,w',h1,h2,h3⟩:=h; ⟨v,w',h1,h2,hr _ _ h3⟩

abbrev Fr:=List (Nat × Value)
def dj:Fr→Nat→Value
 | [],_=>undef
 | (d,v) :: l,t=>bif Nat.beq d t then v else dj l t
def put (n:Nat) (fr:Fr):Option Tmp→Value→Fr
 | some d,v=>bif Nat.ble (d + 1) n then (d,v) :: fr else fr
 | none,_=>fr
def ev (fr:Fr):Operand→Value
 | .tmp t=>dj fr t
 | .const v=>v
 | .global g=>.pointer (some ⟨g,0,none⟩)
 | .func f=>.func (.func f) #[] #[]
def BF (fr:Fr):List Operand→List Value
 | []=>[]
 | x :: l=>ev fr x :: BF fr l
theorem zY (fr:Fr):∀ l,BF fr l = l.map (ev fr)
 | []=>rfl
 | x :: l=>by simp [BF,zY fr l]
def aP (n:Nat) (fr:Fr) (ds:List Deferred):Act:={ tmps:=⟨(List.range n).map (dj fr)⟩,defers:=ds }
def Fits (n:Nat) (fr:Fr):Prop:=∀ t,n≤t→dj fr t = undef
theorem sj (n:Nat) (fr:Fr) (ds:List Deferred) (hf:Fits n fr) (t:Nat):(aP n fr ds).tmps.getD t undef = dj fr t:=by
 by_cases h:t < n
 ·simp [aP,h]
 ·simp [aP,h,hf t (by omega)]
theorem Ga (n:Nat) (fr:Fr) (ds:List Deferred) (hf:Fits n fr) (x:Operand):(aP n fr ds).eval x = ev fr x:=by
 cases x with
 | tmp t=>exact sj n fr ds hf t
 | _=>rfl
theorem HD (n:Nat) (fr:Fr) (ds:List Deferred) (hf:Fits n fr):(aP n fr ds).eval = ev fr:=funext (Ga n fr ds hf)
theorem xi (d:Nat) (v:Value) (l:Fr) (t:Nat):dj ((d,v) :: l) t = if d = t then v else dj l t:=by
 simp only [dj,Bool.cond_eq_ite]
 by_cases h:d = t
 ·subst h; simp
 ·rw [Sr h,Sr]; simpa using h
theorem Ef (n:Nat) (fr:Fr) (d:Nat) (v:Value):put n fr (some d) v = if d < n then (d,v) :: fr else fr:=by
 simp only [put,Bool.cond_eq_ite,Nat.ble_eq]; rfl
theorem vg {n:Nat} {fr:Fr} (hf:Fits n fr) (d:Option Tmp) (v:Value):Fits n (put n fr d v):=by
 cases d with
 | none=>exact hf
 | some d =>
  rw [Ef]
  split
  ·intro t ht; rw [xi,Sr (by omega)]; exact hf t ht
  ·exact hf
theorem iW (n:Nat) (fr:Fr) (d:Nat) (v:Value) (t:Nat):dj (put n fr (some d) v) t = if d = t∧d < n then v else dj fr t:=by
 rw [Ef]
 by_cases h:d < n
 ·rw [Sz h,xi]; simp [h]
 ·rw [Sr h]; simp [h]
theorem C4 (n:Nat) (fr:Fr) (ds:List Deferred) (d:Option Tmp) (v:Value):(aP n fr ds).put d v = aP n (put n fr d v) ds:=by
 cases d with
 | none=>rfl
 | some d =>
  simp only [Act.put,aP,Act.mk.injEq,and_true]
  apply TF
  apply Tb
  intro i
  simp only [Array.toList_setIfInBounds,TB,Sn,Ss,Ts]
  by_cases hi:i < n
  ·simp only [TA hi,Tf,iW]
   by_cases hd:d = i
   ·subst hd; simp [hi]
   ·simp [hd]
  ·rw [SH (by simpa using hi)]
   by_cases hd:d = i
   ·subst hd; simp [hi]
   ·simp [hd]
theorem yA {n:Nat} {fr fr' : Fr} (ds:List Deferred) (h:∀ t,t < n→dj fr t = dj fr' t):aP n fr ds = aP n fr' ds:=by
 simp only [aP,Act.mk.injEq,and_true]
 congr 1
 exact TJ fun t ht=>h t (by simpa using ht)

def br:Bool→Prop→Prop→Prop
 | true,a,_=>a
 | false,_,b=>b
theorem ae {c:Bool} {a b:Prop} (h1:c = true→a) (h2:c = false→b):br c a b:=by
 cases c
 ·exact h2 rfl
 ·exact h1 rfl
def RH (v:Value) (a b:Prop):Prop:=match v with | .bool c=>br c a b | _=>False
def QO (c:Bool) (k:Bool→Prop):Prop:=br c (k true) (k false)
theorem Je {c:Bool} {k:Bool→Prop} (h:QO c k):k c:=by cases c <;> exact h
def nn (a:Option Addr) (k:Addr→Prop):Prop:=match a with | some x=>k x | none=>False
def aG (z:Int):Prop:=-9223372036854775808≤z∧z≤9223372036854775807
theorem HE {z:Int} (h:aG z):IntKind.i64.wrap z = z:=IntWalk.i64_in z ⟨h.1,h.2⟩

def Gb:List Value→Nat→Value→List Value
 | [],_,_=>[]
 | _ :: l,0,v=>v :: l
 | x :: l,n + 1,v=>x :: Gb l n v
theorem HF:∀ (l:List Value) (n:Nat) (v:Value),Gb l n v = l.set n v
 | [],_,_=>rfl
 | _ :: _,0,_=>rfl
 | x :: l,n + 1,v=>by simp [Gb,HF l n v]
def rowAt (w:World) (a:Addr) (i:Nat):Nat→Option (List Value)
 | 0=>some []
 | n + 1=>match w.cell? (a.add i),rowAt w a (i + 1) n with
  | some v,some vs=>some (v :: vs)
  | _,_=>none
def QA (w:World) (a:Addr) (i:di) (k:Value→Prop):Prop :=
 match i.zero with
 | none=>False
 | some z=>match i.kd.isAgg,S1.of z with
  | true,.agg l=>Qz l fun vs=>rowAt w a 0 i.size = some vs∧k (.agg ⟨vs⟩)
  | false,.one c=>c.ex fun v=>w.cell? a = some v∧k v
  | _,_=>False
def aS:Value→Bool
 | .agg _ | .tuple _=>false
 | _=>true
def bZ (w:World) (a:Addr) (i:Nat):List Value→World
 | []=>w
 | v :: l=>bZ (w.setCell (a.add i) v) a (i + 1) l
def gZ (w:World) (a:Addr) (i:Nat):List Value→Prop
 | []=>True
 | v :: l=>aS v = true∧(∃ u,w.cell? (a.add i) = some u)∧w.frozen? (a.add i) = false∧gZ w a (i + 1) l
def st1 (w:World) (a:Addr) (v:Value) (k:World→Prop):Prop :=
 (∃ u,w.cell? a = some u)∧w.frozen? a = false∧aS v = true∧∀ w',w' = w.setCell a v→k w'
def iA (w:World) (a:Addr) (vs:List Value) (k:World→Prop):Prop :=
 gZ w a 0 vs∧∀ w',w' = bZ w a 0 vs→k w'
def cellsOf:Value→List Value
 | .agg cs=>cs.toList
 | v=>[v]
def yB:List Value→Nat→Bool
 | [],n=>Nat.beq n 0
 | _ :: l,n=>match n with
  | n + 1=>yB l n
  | 0=>false
theorem p9:∀ (l:List Value) (n:Nat),yB l n = true→l.length = n
 | [],n,h=>by simp [yB] at h; simp [h]
 | _ :: l,0,h=>by simp [yB] at h
 | _ :: l,n + 1,h=>by simp [p9 l n h]
def RI:List Value→Nat→Bool
 | [],_=>true
 | _ :: l,n + 1=>RI l n
 | _,_=>false
theorem Kt:∀ (l:List Value) (n:Nat),RI l n = true→l.length≤n
 | [],_,_=>Sv _
 | _ :: l,n + 1,h=>by have:=Kt l n h; simp; omega
def RJ:Nat→List Value→Bool
 | 0,_=>true
 | n + 1,_ :: l=>RJ n l
 | _,_=>false
theorem Ku:∀ (n:Nat) (l:List Value),RJ n l = true→n≤l.length
 | 0,_,_=>Sv _
 | n + 1,_ :: l,h=>by have:=Ku n l h; simp; omega
def RK (w:World) (a:Addr) (i:di) (v:Value) (k:World→Prop):Prop :=
 match i.kd.isAgg,v with
 | true,.agg cs=>bif yB cs.toList i.size then iA w a cs.toList k else False
 | false,v=>bif Nat.beq i.size 1 then st1 w a v k else False
 | _,_=>False
def new (w:World) (o:Obj) (k:Nat→World→Prop):Prop:=∀ b w',b = w.heap.size→w' = { w with heap:=w.heap.push o }→k b w'

end Go.V
namespace Go.V
abbrev Hp:=Nat→Option Obj
abbrev aw:=Hp→Prop
def Gc:Option Obj→Option Obj
 | some (.deferred _)=>none
 | o=>o
theorem l7 {x:Option Obj} {o:Obj} (h:Gc x = some o):x = some o:=by
 unfold Gc at h; split at h
 ·cases h
 ·exact h
def Eg:Obj→Bool
 | .deferred _=>false
 | _=>true
theorem zZ {o:Obj} (h:Eg o = true):Gc (some o) = some o:=by cases o <;> first | rfl | cases h
def hp (w:World):Hp:=fun b=>Gc w.heap[b]?
theorem QP {w:World} {b:Nat} (h:w.heap.size≤b):hp w b = none:=by simp [hp,Gc,h]
def sub (a b:Hp):Prop:=∀ k o,a k = some o→b k = some o
def Cg (a b:Hp):Prop:=∀ k,a k = none∨b k = none
theorem sub.refl (a:Hp):sub a a:=fun _ _ h=>h
theorem sub.trans {a b c:Hp} (h:sub a b) (k:sub b c):sub a c:=fun x o hx=>k x o (h x o hx)
theorem Cg.symm {a b:Hp} (h:Cg a b):Cg b a:=fun k=>(h k).symm
theorem Cg.sub {a b c d:Hp} (h:Cg a b) (h1:sub c a) (h2:sub d b):Cg c d:=by
 intro k
 rcases h k with h | h
 ·left; cases hc:c k with
  | none=>rfl
  | some o=>rw [h1 k o hc] at h; cases h
 ·right; cases hc:d k with
  | none=>rfl
  | some o=>rw [h2 k o hc] at h; cases h
def Jf (a b:Hp):Hp:=fun k=>match a k with | some o=>some o | none=>b k
theorem l8 (a b:Hp):sub a (Jf a b):=fun k o h=>by simp [Jf,h]
theorem l9 {a b:Hp} (h:Cg a b):sub b (Jf a b):=fun k o hb=>by
 rcases h k with h | h
 ·simp [Jf,h,hb]
 ·rw [h] at hb; cases hb
theorem vh {a b c:Hp} (h1:sub a c) (h2:sub b c):sub (Jf a b) c:=fun k o h=>by
 unfold Jf at h; split at h
 ·rename_i o' ho; cases h; exact h1 k _ ho
 ·exact h2 k o h
theorem vi {a b c:Hp} (h1:Cg a c) (h2:Cg b c):Cg (Jf a b) c:=by
 intro k
 rcases h1 k with h | h
 ·rcases h2 k with h' | h'
  ·left; simp [Jf,h,h']
  ·exact .inr h'
 ·exact .inr h
def aE:List aw→aw
 | [],_=>True
 | A :: L,h=>∃ h1 h2,Cg h1 h2∧sub h1 h∧sub h2 h∧A h1∧aE L h2
theorem dY:∀ {L:List aw} {h h' : Hp},aE L h→sub h h'→aE L h'
 | [],_,_,_,_=>trivial
 | A :: L,h,h',⟨h1,h2,d,s1,s2,ha,hl⟩,s=>⟨h1,h2,d,s1.trans s,s2.trans s,ha,hl⟩
theorem nu {A B:aw} {L:List aw} {h:Hp}:aE (A :: B :: L) h→aE (B :: A :: L) h
 | ⟨h1,h2,d,s1,s2,ha,h3,h4,d',s3,s4,hb,hl⟩ =>
  have d14:Cg h1 h4:=d.sub (sub.refl _) s4
  ⟨h3,Jf h1 h4,(vi (d.sub (sub.refl _) s3) d'.symm).symm,s3.trans s2,vh s1 (s4.trans s2),hb,h1,h4,d14,l8 _ _,l9 d14,ha,hl⟩
theorem p_ {A:aw} {L L' : List aw} {h:Hp} (hm:∀ h,aE L h→aE L' h):aE (A :: L) h→aE (A :: L') h
 | ⟨h1,h2,d,s1,s2,ha,hl⟩=>⟨h1,h2,d,s1,s2,ha,hm _ hl⟩
theorem Gd {A B:aw} {L:List aw} {h:Hp} (hm:∀ h,A h→B h):aE (A :: L) h→aE (B :: L) h
 | ⟨h1,h2,d,s1,s2,ha,hl⟩=>⟨h1,h2,d,s1,s2,hm _ ha,hl⟩
theorem bq {A:aw} {L:List aw} {h:Hp}:aE (A :: L) h→aE L h
 | ⟨h1,h2,d,s1,s2,ha,hl⟩=>dY hl s2
theorem Ge {L L' : List aw} (p:L.Perm L'):∀ {h:Hp},aE L h→aE L' h:=by
 induction p with
 | nil=>exact fun h=>h
 | cons A p ih=>exact fun h=>p_ (fun _=>ih) h
 | swap A B l=>exact fun h=>nu h
 | trans p q ih1 ih2=>exact fun h=>ih2 (ih1 h)
def aT (M:List aw):aw:=aE M
theorem jv:∀ {M L:List aw} {h:Hp},aE (aT M :: L) h↔aE (M ++ L) h
 | [],L,h=>⟨fun ⟨h1,h2,d,s1,s2,ha,hl⟩=>dY hl s2,fun hl=>⟨fun _=>none,h,fun _=>.inl rfl,fun _ _ h=>(nomatch h),sub.refl _,trivial,hl⟩⟩
 | A :: M,L,h=>by
  constructor
  ·rintro ⟨h1,h2,d,s1,s2,⟨h3,h4,d',s3,s4,ha,hm⟩,hl⟩
   have d42:Cg h4 h2:=d.sub s4 (sub.refl _)
   exact ⟨h3,Jf h4 h2,(vi d'.symm (d.symm.sub (sub.refl _) s3)).symm,s3.trans s1,vh (s4.trans s1) s2,ha,jv.1 ⟨h4,h2,d42,l8 _ _,l9 d42,hm,hl⟩⟩
  ·rintro ⟨h1,h2,d,s1,s2,ha,hr⟩
   obtain ⟨h3,h4,d',s3,s4,hm,hl⟩:=jv.2 hr
   have d13:Cg h1 h3:=d.sub (sub.refl _) s3
   exact ⟨Jf h1 h3,h4,vi (d.sub (sub.refl _) s4) d',vh s1 (s3.trans s2),s4.trans s2,⟨h1,h3,d13,l8 _ _,l9 d13,ha,hm⟩,hl⟩
def ex {α : Type} (A:α→aw):aw:=fun h=>∃ x,A x h
theorem Kv {α : Type} {A:α→aw} {L:List aw} {h:Hp}:aE (ex A :: L) h↔∃ x,aE (A x :: L) h :=
 ⟨fun ⟨h1,h2,d,s1,s2,⟨x,ha⟩,hl⟩=>⟨x,h1,h2,d,s1,s2,ha,hl⟩,fun ⟨x,h1,h2,d,s1,s2,ha,hl⟩=>⟨h1,h2,d,s1,s2,⟨x,ha⟩,hl⟩⟩
def pu (p:Prop):aw:=fun _=>p
theorem Kw {p:Prop} {L:List aw} {h:Hp}:aE (pu p :: L) h↔p∧aE L h :=
 ⟨fun ⟨h1,h2,d,s1,s2,ha,hl⟩=>⟨ha,dY hl s2⟩,fun ⟨hp,hl⟩=>⟨fun _=>none,h,fun _=>.inl rfl,fun _ _ h=>(nomatch h),sub.refl _,hp,hl⟩⟩
def blk (b:Nat) (o:Obj):aw:=fun h=>h b = some o
def one (b:Nat) (o:Obj):Hp:=fun k=>if k = b then some o else none
theorem Eh (b:Nat) (o:Obj):one b o b = some o:=by simp [one]
theorem BI {b:Nat} {o:Obj} {L:List aw} {h:Hp}:aE (blk b o :: L) h→h b = some o
 | ⟨h1,h2,d,s1,s2,ha,hl⟩=>s1 _ _ ha
theorem kW {b:Nat} {o o' : Obj} {L:List aw} {h h' : Hp} (hs:aE (blk b o :: L) h) (h0:∀ k,k≠b→h' k = h k) (h1:h' b = some o'):aE (blk b o' :: L) h':=by
  obtain ⟨g1,g2,d,s1,s2,ha,hl⟩:=hs
  have hb : g2 b = none := by rcases d b with h | h; · rw [show g1 b = some o from ha] at h; cases h
                              · exact h
  refine ⟨one b o',g2,fun k=>?_,fun k x hk=>?_,fun k x hk=>?_,Eh b o',hl⟩
  · by_cases hk:k = b
    · subst hk; exact .inr hb
    · exact .inl (by simp [one,hk])
  · unfold one at hk; split at hk
    · rename_i e; cases hk; rw [e,h1]
    · cases hk
  · have hk' : k≠b:=fun e=>by rw [e,hb] at hk; cases hk
    rw [h0 k hk']; exact s2 k x hk
theorem BJ {b:Nat} {o:Obj} {L:List aw} {h h' : Hp} (hs:aE L h) (hb:h b = none) (h0:∀ k,k≠b→h' k = h k) (h1:h' b = some o):aE (blk b o :: L) h':=by
 refine ⟨one b o,h,fun k=>?_,fun k x hk=>?_,fun k x hk=>?_,Eh b o,hs⟩
 ·by_cases hk:k = b
  ·subst hk; exact .inr hb
  ·exact .inl (by simp [one,hk])
 ·unfold one at hk; split at hk
  ·rename_i e; cases hk; rw [e,h1]
  ·cases hk
 ·have hk' : k≠b:=fun e=>by rw [e,hb] at hk; cases hk
  rw [h0 k hk']; exact hk
def has (h0:Hp):aw:=fun h=>sub h0 h
theorem jo {h0:Hp} {L:List aw} {h:Hp}:aE (has h0 :: L) h→sub h0 h
 | ⟨h1,h2,d,s1,s2,ha,hl⟩=>sub.trans ha s1

def St (w:World) (L:List aw):Prop:=aE L (hp w)
def sR:List aw→Nat→aw
 | [],_=>pu True
 | A :: _,0=>A
 | _ :: L,n + 1=>sR L n
section
variable {w w' : World} {L:List aw} {A B:aw}
theorem St.perm {L' : List aw} (h:St w L) (p:L.Perm L'):St w L':=Ge p h
theorem St.swap {L:List aw} {A B:aw} (h:St w (A :: B :: L)):St w (B :: A :: L):=nu h
theorem St.Ei {L:List aw} {A B C:aw} (h:St w (A :: B :: C :: L)):St w (C :: A :: B :: L):=nu (p_ (fun _=>nu) h)
theorem St.tail (h:St w (A :: L)):St w L:=bq h
theorem St.head (h:St w (A :: L)) (hm:∀ h,A h→B h):St w (B :: L):=Gd hm h
theorem St.flat {M:List aw}:St w (aT M :: L)↔St w (M ++ L):=jv
theorem St.ex {α : Type} {A:α→aw}:St w (V.ex A :: L)↔∃ x,St w (A x :: L):=Kv
theorem St.pu {p:Prop}:St w (V.pu p :: L)↔p∧St w L:=Kw
theorem St.get {b:Nat} {o:Obj} (h:St w (blk b o :: L)):w.heap[b]? = some o:=l7 (BI h)
theorem St.has {h0:Hp} (h:St w (V.has h0 :: L)):sub h0 (hp w):=jo h
theorem St.push (h:St w L) (o:Obj) (ho:Eg o = true:=by rfl):St { w with heap:=w.heap.push o } (blk w.heap.size o :: L) :=
 BJ h (QP (SF _)) (fun k hk=>by simp [hp,Array.getElem?_push,hk]) (by simp [hp,zZ ho])
theorem St.setObj {b:Nat} {o:Obj} (h:St w (blk b o :: L)) (o' : Obj) (ho:Eg o' = true:=by rfl):St { w with heap:=w.heap.setIfInBounds b o' } (blk b o' :: L):=by
 have hb:=(S3.1 h.get).1
 exact kW h (fun k hk=>by simp [hp,Tm (TM hk)]) (by simp [hp,hb,zZ ho])
theorem St.eq (h:St w L) (he:hp w' = hp w):St w' L:=by unfold St; rw [he]; exact h
theorem St.same (h:St w L) (he:w'.heap = w.heap):St w' L:=h.eq (by unfold hp; rw [he])
theorem St.setCell {b:Nat} {c:Array Value} {e:TypeId} {fz:Nat × Nat} (h:St w (blk b (.cells c e fz) :: L)) (i:Nat) (v:Value) :
  St (w.setCell ⟨b,i,none⟩ v) (blk b (.cells (c.setIfInBounds i v) e fz) :: L):=by
 have hg:=h.get
 refine kW h (fun k hk=>?_) ?_
 ·simp only [hp,World.setCell,Td]; rw [Sr (fun e=>hk e.symm)]
 ·simp only [hp,World.setCell,Td]; simp [hg,Gc]
theorem Kx (w:World) (d:Option (List Deferred)):hp { w with heap:=w.heap.push (.deferred d) } = hp w:=by
 funext b
 simp only [hp,Array.getElem?_push]
 split
 ·rename_i e; subst e; simp [Gc]
 ·rfl
theorem M8 {w:World} {D:Nat} {d d' : Option (List Deferred)} (h:w.heap[D]? = some (.deferred d)):hp { w with heap:=w.heap.setIfInBounds D (.deferred d') } = hp w:=by
 funext b
 simp only [hp]
 by_cases hb:b = D
 ·subst hb
  rw [Array.getElem?_setIfInBounds_self_of_lt (S3.1 h).1,h]; rfl
 ·rw [Tm (TM hb)]
theorem fv (h:hp w' = hp w) (a:Addr):w'.cell? a = w.cell? a:=by
 have hb:=congrFun h a.block
 simp only [hp] at hb
 unfold World.cell?
 cases h1:w'.heap[a.block]? with
 | none =>
  rw [h1] at hb
  cases h2:w.heap[a.block]? with
  | none=>rfl
  | some o=>rw [h2] at hb; cases o <;> first | rfl | cases hb
 | some o =>
  rw [h1] at hb
  cases h2:w.heap[a.block]? with
  | none=>rw [h2] at hb; cases o <;> first | rfl | cases hb
  | some o'=>rw [h2] at hb; cases o <;> cases o' <;> first | rfl | (cases hb; rfl) | cases hb
theorem Ej (h:hp w' = hp w) (a:Addr):∀ (n i:Nat),rowAt w' a i n = rowAt w a i n
 | 0,i=>rfl
 | n + 1,i=>by simp only [rowAt,fv h,Ej h a n]
end
end Go.V
namespace Go.V
def kx:IntKind→Nat
 | .i8=>0 | .i16=>1 | .i32=>2 | .i64=>3 | .u8=>4 | .u16=>5 | .u32=>6 | .u64=>7
theorem Ky {a b:IntKind} (h:Nat.beq (kx a) (kx b) = true):a = b:=by
 have:=TL h
 cases a <;> cases b <;> simp_all [kx]
def Ek (k:IntKind) (z:Int) (K:Value→Prop):Prop :=
 match k with
 | .i64=>aG z∧K (.int .i64 z)
 | k=>K (.int k (k.wrap z))
def jy (op:BinOp) (k:IntKind) (x y:Int):Int :=
 match op with
 | .and=>k.wrap ((BitVec.ofInt k.bits x) &&& (BitVec.ofInt k.bits y)).toNat
 | .or=>k.wrap ((BitVec.ofInt k.bits x) ||| (BitVec.ofInt k.bits y)).toNat
 | .xor=>k.wrap ((BitVec.ofInt k.bits x) ^^^ (BitVec.ofInt k.bits y)).toNat
 | _=>k.wrap ((BitVec.ofInt k.bits x) &&& ~~~(BitVec.ofInt k.bits y)).toNat
def Kz (k:IntKind) (a b:Int):Int:=k.wrap (a * 2 ^ (min b.toNat k.bits))
def y6 (k:IntKind) (a b:Int):Int:=a.fdiv (2 ^ (min b.toNat k.bits))
def nz (b:Int):Prop:=b≠0
def ns (b:Int):Prop:=0≤b
def C5 (i:Int) (n:Nat):Prop:=0≤i∧i < n
def y7 (l c:Int) (b:Nat):Prop:=0≤l∧l = c∧b * l≤140737488355328
def KA (op:BinOp) (k:IntKind) (a b:Int) (K:Value→Prop):Prop :=
 match op with
 | .add=>Ek k (a + b) K
 | .sub=>Ek k (a - b) K
 | .mul=>Ek k (a * b) K
 | .quo=>nz b∧Ek k (a.tdiv b) K
 | .rem=>nz b∧K (.int k (a.tmod b))
 | .and=>K (.int k (jy .and k a b))
 | .or=>K (.int k (jy .or k a b))
 | .xor=>K (.int k (jy .xor k a b))
 | .andNot=>K (.int k (jy .andNot k a b))
 | .eql=>K (.bool (a == b))
 | .neq=>K (.bool (a != b))
 | .lss=>K (.bool (decide (a < b)))
 | .leq=>K (.bool (decide (a≤b)))
 | .gtr=>K (.bool (decide (b < a)))
 | .geq=>K (.bool (decide (b≤a)))
 | .shl=>ns b∧K (.int k (Kz k a b))
 | .shr=>ns b∧K (.int k (y6 k a b))
def C6:BinOp→Bool
 | .shl | .shr=>true
 | _=>false
def KB (op:BinOp) (x y:ByteArray) (K:Value→Prop):Prop :=
 match op with
 | .add=>(x.size:Int) + y.size≤9223372036854775807∧K (.string (x ++ y))
 | .eql=>K (.bool (x.toList == y.toList))
 | .neq=>K (.bool (!(x.toList == y.toList)))
 | .lss=>K (.bool (Op.bytesLess x.toList y.toList))
 | .leq=>K (.bool (Op.bytesLess x.toList y.toList || x.toList == y.toList))
 | .gtr=>K (.bool (!(Op.bytesLess x.toList y.toList || x.toList == y.toList)))
 | .geq=>K (.bool (!Op.bytesLess x.toList y.toList))
 | _=>False
def OP (op:BinOp) (t:Bool) (K:Value→Prop):Prop :=
 match op with
 | .eql=>K (.bool t)
 | .neq=>K (.bool (!t))
 | _=>False
def ag (Ty:TypeId→Option di) (t:TypeId):Kd:=match Ty t with | some i=>i.kd | none=>.other
def Ch (Ty:TypeId→Option di) (t:TypeId):Option Nat:=match Ty t with | some i=>some i.size | none=>none
def OQ:Kd→Bool
 | .ptr _=>true
 | _=>false
def HG:Kd→Bool
 | .slice _=>true
 | _=>false
def OR:Kd→Bool
 | .map ..=>true
 | _=>false
def iX (op:BinOp) (t:TypeId) (xo yo:Operand) (x y:Value):Sem Value:=do eqGuard op t xo yo x y; Go.binOp op t x y
def RL (op:BinOp) (t:Bool) (K:Bool→Prop):Prop :=
 match op with
 | .eql=>K t
 | .neq=>K (!t)
 | _=>False
def Pb (Ty:TypeId→Option di) (rs:Sem Value→(Value→Prop)→Prop) (op:BinOp) (t:TypeId) (xo yo:Operand) (a b:Option Addr) (K:Bool→Prop):Prop :=
 match b with
 | none=>bif OQ (ag Ty t) then RL op a.isNone K else False
 | some b=>rs (iX op t xo yo (.pointer a) (.pointer (some b))) fun v=>∃ q,v = .bool q∧K q
def Pc (Ty:TypeId→Option di) (rs:Sem Value→(Value→Prop)→Prop) (op:BinOp) (t:TypeId) (xo yo:Operand) (x y:Value) (K:Value→Prop):Prop :=
 match x,y with
 | .int k a,.int k' b=>bif C6 op || Nat.beq (kx k) (kx k') then KA op k a b K else False
 | .string a,.string b=>KB op a b K
 | .bool a,.bool b=>(match ag Ty t with | .bool=>OP op (a == b) K | _=>False)
 | .pointer a,.pointer b=>Pb Ty rs op t xo yo a b fun q=>K (.bool q)
 | .slice a _ _,.slice none _ _=>bif HG (ag Ty t) then OP op a.isNone K else False
 | .func (.func _) _ _,.nilFunc=>(match ag Ty t with | .func=>OP op false K | _=>False)
 | .map a,.map none=>bif OR (ag Ty t) then OP op a.isNone K else False
 | x,y=>rs (iX op t xo yo x y) fun v=>∃ b,v = .bool b∧K (.bool b)

def El:List Value→List Value→List Value
 | [],m=>m
 | x :: l,m=>x :: El l m
theorem zJ:∀ l m,El l m = l ++ m
 | [],_=>rfl
 | x :: l,m=>by simp [El,zJ l m]
def Ci:Nat→List Value→List Value
 | 0,_=>[]
 | n + 1,z=>El z (Ci n z)
def gG:Nat→List Value→List Value
 | 0,_=>[]
 | n + 1,z=>z ++ gG n z
def setMany (cells:List Value) (off:Nat):List Value→List Value
 | []=>cells
 | v :: l=>setMany (Gb cells off v) (off + 1) l
def vj (place:Nat→Option (Nat × Nat)) (cells:List Value):List (Nat × Value)→Option (List Value)
 | []=>some cells
 | (i,v) :: rest =>
  match place i with
  | none=>none
  | some (off,size)=>bif yB (cellsOf v) size && RJ (off + size) cells then vj place (setMany cells off (cellsOf v)) rest else none
def KC (o:Option (List Value)) (k:List Value→Prop):Prop:=match o with | some l=>k l | none=>False
def yC (fr:Fr):List (Nat × Operand)→List (Nat × Value)
 | []=>[]
 | (i,x) :: l=>(i,ev fr x) :: yC fr l
def z6 (fs:List (Nat × Nat × Bool)) (i:Nat):Option (Nat × Nat):=match fs[i]? with | some (o,s,_)=>some (o,s) | none=>none

def Ry (ad:Addr) (n:Nat):Addr:=bif Nat.beq n 0 then ad else ad.add n
theorem Pd (ad:Addr) (n:Nat):Ry ad n = ad.add n:=by
 cases n
 ·simp [Ry,Addr.add]
 ·rfl
def dP (i:Nat):Nat→Nat
 | 1=>i
 | sz=>i * sz
theorem aH (i sz:Nat):dP i sz = i * sz:=by unfold dP; split <;> simp
def idx (a:Option Addr) (len:Nat) (i:Int) (sz:Nat) (k:Addr→Prop):Prop :=
 ∃ ad,a = some ad∧0≤i∧i < len∧k (ad.add (dP i.toNat sz))
def sb (s:ByteArray) (n:Nat):UInt8:=(s.data[n]?).getD 0
def fw (a:Option Addr) (l m sz:Nat):Option Addr:=if m = l then a else a.map (·.add (dP l sz))
def p8 (a:Option Addr) (len cap:Nat) (lo hi mx:Option Int) (sz:Nat) (k:Option Addr→Nat→Nat→Prop):Prop :=
 let m:Int:=mx.getD cap
 let h:Int:=hi.getD len
 let l:Int:=lo.getD 0
 (mx = none∨(hi≠none∧0≤m∧m≤cap))∧(hi = none∨(0≤h∧h≤m))∧(0≤l∧l≤h) ∧
  k (fw a l.toNat m.toNat sz) (h.toNat - l.toNat) (m.toNat - l.toNat)
def QQ (s:ByteArray) (lo hi:Option Int) (k:ByteArray→Prop):Prop :=
 let h:Int:=hi.getD s.size
 let l:Int:=lo.getD 0
 (hi = none∨(0≤h∧h≤s.size))∧(0≤l∧l≤h)∧k (s.extract l.toNat h.toNat)
def HH (fr:Fr) (x:Option Operand) (k:Option Int→Prop):Prop :=
 match x with
 | none=>k none
 | some x=>match ev fr x with
  | .int _ n=>k (some n)
  | _=>False
def OS (l c:Int) (i:di) (e:TypeId) (w:World) (k:Value→World→Prop):Prop :=
 match i.zero with
 | some z=>y7 l c i.bytes∧new w (.cells ⟨gG l.toNat (cellsOf z)⟩ e) fun b w'=>k (.slice (some ⟨b,0,none⟩) l.toNat l.toNat) w'
 | none=>False
def RM (P:Program) (E:World→World→Prop) (l:Nat) (args:List Value) (w:World) (R:Value→World→Prop):Prop :=
 ∃ f tmps assign body,(Instr.yield l ⟨args⟩).run P w = .ok (.round l f tmps assign body) w ∧
  RoundIn Fence.wide 0 P l f tmps assign body w fun e w'=>∃ v,e = .returned v∧E w w'∧R v w'
def OT (v:Value) (i:Nat) (k:Value→Prop):Prop :=
 match v with
 | .tuple vs=>(match vs.toList[i]? with | some u=>k u | none=>False)
 | _=>False
def QR (v:Value) (f:Option (Nat × Nat × Bool)) (k:Value→Prop):Prop :=
 match v,f with
 | .agg cs,some (o,s,true)=>k (.agg ⟨(cs.toList.drop o).take s⟩)
 | .agg cs,some (o,_,false)=>(match cs.toList[o]? with | some u=>k u | none=>False)
 | _,_=>False
def OU (v:Value) (sh:Sh) (k:Value→Prop):Prop :=
 (v = .tuple #[.bool false]∧k (.tuple #[.bool false]))∨(match sh with
  | .tup (_ :: l)=>Pa l fun us=>v = .tuple ⟨.bool true :: us⟩∧k (.tuple ⟨.bool true :: us⟩)
  | .tup []=>∃ (n:Int) (u:Value),v = .tuple ⟨[.bool true,.int .i64 n,u]⟩∧k (.tuple ⟨[.bool true,.int .i64 n,u]⟩)
  | _=>False)
def Pe (v:Value) (sh:Sh) (k:Value→Prop):Prop :=
 match sh with
 | .tup []=>∃ (n:Int) (u:Value),v = .tuple ⟨[.int .i64 n,u]⟩∧k (.tuple ⟨[.int .i64 n,u]⟩)
 | .tup l=>Pa l fun us=>v = .tuple ⟨us⟩∧k (.tuple ⟨us⟩)
 | _=>False
def C7 (first args cap:List Value):List Value:=El first (El args cap)
theorem HI (f a c:List Value):C7 f a c = f ++ a ++ c:=by simp [C7,zJ]
def y8:Bool→Prop→Prop
 | true,p=>p
 | false,_=>False
theorem bR {c:Bool} {p:Prop}:y8 c p↔c = true∧p:=by cases c <;> simp [y8]
def KD (P:Program) (Fn:FuncId→Bool) (E:World→World→Prop) (f:Value) (args:List Value) (sh:Sh) (w:World) (K:Value→World→Prop):Prop :=
 match f with
 | .func (.func g) first cap=>y8 (Fn g) (au P E g (C7 first.toList args cap.toList) w fun v w'=>sh.is v fun u=>K u w')
 | .func (.yield l) first _=>RM P E l (El first.toList args) w fun v w'=>sh.is v fun u=>K u w'
 | _=>False
def RN (P:Program) (w:World) (s:Sem Value) (k:Value→Prop):Prop:=∃ v,s.run P w = .ok v w∧k v
def Sb (P:Program) (C:World→Prop) (s:Sem Value) (k:Value→Prop):Prop:=∃ v,(∀ w,C w→s.run P w = .ok v w)∧k v
def RO (C:World→Prop) (a:Addr) (i:di) (k:Value→Prop):Prop :=
 match i.zero with
 | none=>False
 | some z=>match i.kd.isAgg,S1.of z with
  | true,.agg l=>Qz l fun vs=>(∀ w,C w→rowAt w a 0 i.size = some vs)∧k (.agg ⟨vs⟩)
  | false,.one c=>c.ex fun v=>(∀ w,C w→w.cell? a = some v)∧k v
  | _,_=>False

def z7 (P:Program) (Ty:TypeId→Option di) (ld:Addr→di→(Value→Prop)→Prop) (rs:Sem Value→(Value→Prop)→Prop) (o:Oper) (fr:Fr) (K:Value→Prop):Prop :=
 match o.op with
 | .move x=>K (ev fr x)
 | .assign x=>K (ev fr x)
 | .pick c a b=>(match ev fr c with | .bool t=>K (match t with | true=>ev fr a | false=>ev fr b) | _=>False)
 | .build t ps=>(match Ty t with
  | some i=>(match i.zero,i.kd with
   | some z,.struct=>KC (vj (z6 i.flds) (cellsOf z) (yC fr ps.toList)) fun cs=>K (.agg ⟨cs⟩)
   | some z,.array _ e=>(match Ch Ty e with | some s=>KC (vj (fun k=>some (k * s,s)) (cellsOf z) (yC fr ps.toList)) fun cs=>K (.agg ⟨cs⟩) | none=>False)
   | _,_=>False)
  | none=>False)
 | .load t x=>(match ev fr x,Ty t with
  | .pointer a,some i=>nn a fun ad=>ld ad i K
  | _,_=>False)
 | .nilCheck x=>(match ev fr x with
  | .pointer a=>nn a fun ad=>K (.pointer (some ad))
  | .func (.func f) first cap=>K (.func (.func f) first cap)
  | .func (.yield f) first cap=>K (.func (.yield f) first cap)
  | _=>False)
 | .binOp op t x y _=>Pc Ty rs op t x y (ev fr x) (ev fr y) K
 | .unOp op _ x=>(match op,ev fr x with
  | .not,.bool b=>K (.bool (!b))
  | .neg,.int k n=>Ek k (0 - n) K
  | .xor,.int k n=>K (.int k (jy .xor k (if k.signed then -1 else k.max) n))
  | _,_=>False)
 | .convert s d x=>(match ag Ty s,ag Ty d,ev fr x with
  | .int _,.int k,.int _ n=>Ek k n K
  | .string,.string,.string s=>K (.string s)
  | _,_,_=>False)
 | .makeInterface t x=>(match Ty t with | some i=>(match i.kd with | .iface=>False | _=>K (.iface t (ev fr x))) | none=>False)
 | .makeFunc fn first cap=>K (.func fn ⟨BF fr first.toList⟩ ⟨BF fr cap.toList⟩)
 | .slice t x lo hi mx=>(match ag Ty t,ev fr x with
  | .slice e,.slice a len cap=>(match Ch Ty e with
   | some sz=>HH fr lo fun lo=>HH fr hi fun hi=>HH fr mx fun mx=>p8 a len cap lo hi mx sz fun a l c=>K (.slice a l c)
   | none=>False)
  | .string,.string s=>(match mx with | none=>HH fr lo fun lo=>HH fr hi fun hi=>QQ s lo hi fun s=>K (.string s) | some _=>False)
  | _,_=>False)
 | .fieldAddr s x f=>(match Ty s,ev fr x with
  | some i,.pointer a=>(match i.kd,i.flds[f]? with
   | .struct,some (off,sz,_)=>bif Nat.ble 1 sz then nn a fun ad=>K (.pointer (some (Ry ad off))) else False
   | _,_=>False)
  | _,_=>False)
 | .field t x f=>(match Ty t with
  | some i=>(match i.kd with | .struct=>QR (ev fr x) (i.flds[f]?) K | _=>False)
  | none=>False)
 | .indexAddr t x ix=>(match ag Ty t,ev fr x,ev fr ix with
  | .slice e,.slice a len cap,.int _ i=>(match Ch Ty e with | some sz=>idx a len i sz fun ad=>K (.pointer (some ad)) | none=>False)
  | .array n e,.pointer a,.int _ i=>(match Ch Ty e with | some sz=>idx a n i sz fun ad=>K (.pointer (some ad)) | none=>False)
  | _,_,_=>False)
 | .index t x ix=>(match ag Ty t,ev fr x,ev fr ix with
  | .string,.string s,.int _ i=>C5 i s.size∧K (.int .u8 (sb s i.toNat).toNat)
  | _,x,y=>rs (Instr.index t x y) fun v=>(Ko Ty o.type).is v K)
 | .extract t i=>OT (ev fr t) i K
 | .call c=>(match c.callee,BF fr c.args.toList with
  | .builtin .len,[.slice a l cap]=>(match c.argTypes.toList with | t :: _=>bif HG (ag Ty t) then K (.int .i64 l) else False | _=>False)
  | .builtin .len,[.string s]=>(match c.argTypes.toList with | t :: _=>(match ag Ty t with | .string=>K (.int .i64 s.size) | _=>False) | _=>False)
  | .builtin .len,args=>rs (Builtin.len_ c.argTypes o.type ⟨args⟩) fun v=>(Ko Ty o.type).is v K
  | .builtin .min,[.int k a,.int _ b]=>K (.int k (if b < a then b else a))
  | .builtin .max,[.int k a,.int _ b]=>K (.int k (if a < b then b else a))
  | _,_=>False)
 | _=>False
def gV (Ty:TypeId→Option di) (o:Oper):Bool :=
 match o.op with
 | .move _ | .assign _ | .pick .. | .build .. | .load .. | .nilCheck _ | .binOp .. | .unOp .. | .makeInterface .. | .makeFunc .. | .slice .. | .fieldAddr .. | .field .. | .indexAddr .. | .index .. | .extract ..=>true
 | .convert s d _=>(match ag Ty s,ag Ty d with
  | .int _,.int _=>true
  | .string,.string=>true
  | _,_=>false)
 | .call c=>(match c.callee with
  | .builtin .len | .builtin .min | .builtin .max=>true
  | _=>false)
 | _=>false
def R6 (P:Program) (Ty:TypeId→Option di) (b:Builtin) (tys:Array TypeId) (ty:TypeId) (args:List Value) (w:World) (K:Value→World→Prop):Prop :=
 match b with
 | .append=>az P (Builtin.append_ tys ty ⟨args⟩) w fun v w'=>(Ko Ty ty).is v fun u=>K u w'
 | .copy=>az P (Builtin.copy_ tys ty ⟨args⟩) w fun v w'=>(Ko Ty ty).is v fun u=>K u w'
 | .delete=>az P (Builtin.delete_ tys ty ⟨args⟩) w fun v w'=>K v w'
 | .clear=>az P (Builtin.clear_ tys ty ⟨args⟩) w fun v w'=>K v w'
 | .cap=>az P (Builtin.cap_ tys ty ⟨args⟩) w fun v w'=>(Ko Ty ty).is v fun u=>K u w'
 | _=>False

def Pf (Ty:TypeId→Option di) (t:TypeId):Sh:=match ag Ty t with
 | .map _ e=>(match Ko Ty e with | .s s=>.tup [s,.one (.int .i64)] | h=>h)
 | _=>.s (.one .val)
def KE (P:Program) (Ty:TypeId→Option di) (Fn:FuncId→Bool) (E:World→World→Prop) (o:Oper) (fr:Fr) (w:World) (K:Value→World→Prop):Prop :=
 match o.op with
 | .alloc t=>(match Ty t with
  | some i=>(match i.zero with | some z=>new w (.cells ⟨cellsOf z⟩ t) fun b w'=>K (.pointer (some ⟨b,0,none⟩)) w' | none=>False)
  | none=>False)
 | .box t x=>new w (.cells ⟨cellsOf (ev fr x)⟩ t) fun b w'=>K (.pointer (some ⟨b,0,none⟩)) w'
 | .buildSlice t n ps=>(match ag Ty t with
  | .slice e=>(match Ty e with
   | some i=>(match i.zero with
    | some z=>bif yB (cellsOf z) i.size && (Nat.ble n 4096 && Nat.ble i.size 4096) && Nat.ble 1 i.size then KC (vj (fun k=>some (k * i.size,i.size)) (Ci n (cellsOf z)) (yC fr ps.toList)) fun cs=>new w (.cells ⟨cs⟩ e) fun b w'=>K (.slice (some ⟨b,0,none⟩) n n) w' else False
    | none=>False)
   | none=>False)
  | _=>False)
 | .store t a x=>(match ev fr a,Ty t with
  | .pointer a,some i=>nn a fun ad=>RK w ad i (ev fr x) fun w'=>K undef w'
  | _,_=>False)
 | .convert s d x=>az P (Go.convert s d (ev fr x)) w fun v w'=>(Ko Ty d).is v fun u=>K u w'
 | .makeMap t none=>new w (.map #[] 0) fun b w'=>K (.map (some b)) w'
 | .makeSlice t l c=>(match ag Ty t with
  | .slice e=>(match Ty e,ev fr l,ev fr c with
   | some i,.int _ l,.int _ c=>bif (match i.zero with | some z=>yB (cellsOf z) i.size | none=>false) && Nat.ble 1 i.bytes && Nat.ble 1 i.size then OS l c i e w K else False
   | _,_,_=>False)
  | _=>False)
 | .lookup t m k ok=>az P (Instr.lookup t (ev fr m) (ev fr k) ok) w fun v w'=>(Ko Ty o.type).is v fun u=>K u w'
 | .mapUpdate t m k x=>az P (Instr.mapUpdate t (ev fr m) (ev fr k) (ev fr x)) w fun _ w'=>K undef w'
 | .insert t m k x=>az P (Instr.mapUpdate t (ev fr m) (ev fr k) (ev fr x)) w fun _ w'=>K undef w'
 | .mapEntry t m k=>az P (Instr.mapEntry t (ev fr m) (ev fr k)) w fun v w'=>(Pf Ty t).is v fun u=>K u w'
 | .entryStore t m s x=>az P (Instr.entryStore t (ev fr m) (ev fr s) (ev fr x)) w fun _ w'=>K undef w'
 | .range t x=>az P (Instr.range t (ev fr x)) w fun v w'=>(Sh.s (.one .ptr)).is v fun u=>K u w'
 | .next it isS=>az P (Instr.next (ev fr it) isS o.type) w fun v w'=>OU v (match isS with | true=>.tup [.one .bool,.one (.int .i64),.one (.int .i32)] | false=>Ko Ty o.type) fun u=>K u w'
 | .entry it=>az P (Instr.entry (ev fr it)) w fun v w'=>Pe v (Ko Ty o.type) fun u=>K u w'
 | .typeAssert x t u ok=>az P (Instr.typeAssert (ev fr x) t u ok) w fun v w'=>(Ko Ty o.type).is v fun u=>K u w'
 | .call c=>(match c.callee with
  | .builtin b=>R6 P Ty b c.argTypes o.type (BF fr c.args.toList) w K
  | .value f=>KD P Fn E (ev fr f) (BF fr c.args.toList) (Ko Ty o.type) w K
  | _=>False)
 | _=>False

def HJ (P:Program) (Ty:TypeId→Option di) (Fn:FuncId→Bool) (E:World→World→Prop) (o:Oper) (fr:Fr) (w:World) (K:Value→World→Prop):Prop :=
 bif gV Ty o then z7 P Ty (QA w) (RN P w) o fr fun v=>K v w else KE P Ty Fn E o fr w K

end Go.V
namespace Go.V
def Cs.arr:Cs→Type→Type
 | .int _,β=>Int→β
 | .bool,β=>Bool→β
 | .str,β=>ByteArray→β
 | .slice,β=>Option Addr→Nat→Nat→β
 | .ptr,β=>Option Addr→β
 | .map,β=>Option Nat→β
 | .fn,β=>FuncId→List Value→β
 | .val,β=>Value→β
def Jg:List Cs→Type→Type
 | [],β=>β
 | c :: l,β=>c.arr (Jg l β)
def S1.arr:S1→Type→Type
 | .one c,β=>c.arr β
 | .agg l,β=>Jg l β
def z8:List S1→Type→Type
 | [],β=>β
 | c :: l,β=>c.arr (z8 l β)
def Cs.M9:(c:Cs)→{β : Type}→β→c.arr β
 | .int _,_,b=>fun _=>b
 | .bool,_,b=>fun _=>b
 | .str,_,b=>fun _=>b
 | .slice,_,b=>fun _ _ _=>b
 | .ptr,_,b=>fun _=>b
 | .map,_,b=>fun _=>b
 | .fn,_,b=>fun _ _=>b
 | .val,_,b=>fun _=>b
def Gf:(l:List Cs)→{β : Type}→β→Jg l β
 | [],_,b=>b
 | c :: l,_,b=>c.M9 (Gf l b)
def S1.M9:(c:S1)→{β : Type}→β→c.arr β
 | .one c,_,b=>c.M9 b
 | .agg l,_,b=>Gf l b
def Jh:(l:List S1)→{β : Type}→β→z8 l β
 | [],_,b=>b
 | c :: l,_,b=>c.M9 (Jh l b)
def Cs.ap:(c:Cs)→{β : Type}→c.arr β→Value→β→β
 | .int k,_,f,.int k' n,d=>bif Nat.beq (kx k) (kx k') then f n else d
 | .bool,_,f,.bool b,_=>f b
 | .str,_,f,.string s,_=>f s
 | .slice,_,f,.slice a l c,_=>f a l c
 | .ptr,_,f,.pointer a,_=>f a
 | .map,_,f,.map r,_=>f r
 | .fn,_,f,.func (.func g) ⟨[]⟩ ⟨c⟩,_=>f g c
 | .val,_,f,v,_=>f v
 | _,_,_,_,d=>d
def QB:(l:List Cs)→{β : Type}→Jg l β→List Value→β→β
 | [],_,f,[],_=>f
 | c :: l,_,f,v :: vs,d=>QB l (c.ap f v (Gf l d)) vs d
 | _,_,_,_,d=>d
def S1.ap:(c:S1)→{β : Type}→c.arr β→Value→β→β
 | .one c,_,f,v,d=>c.ap f v d
 | .agg l,_,f,.agg cs,d=>QB l f cs.toList d
 | _,_,_,_,d=>d
def Cj:(l:List S1)→{β : Type}→z8 l β→List Value→β→β
 | [],_,f,[],_=>f
 | c :: l,_,f,v :: vs,d=>Cj l (c.ap f v (Jh l d)) vs d
 | _,_,_,_,d=>d
def Em:List S1→(List Value→Prop)→Prop
 | [],p=>p []
 | c :: l,p=>c.all fun v=>Em l fun vs=>p (v :: vs)

def dstsOf:List Oper→List Nat
 | []=>[]
 | o :: l=>match o.dst with | some d=>d :: dstsOf l | none=>dstsOf l
def Gg:List Nat→List Nat→List Nat
 | [],m=>m
 | x :: l,m=>x :: Gg l m
def nt:Code→List Nat
 | .region _ ops _=>dstsOf ops.toList
 | .seq a b=>Gg (nt a) (nt b)
 | .cond _ a b=>Gg (nt a) (nt b)
 | .block _ a=>nt a
 | .loop a=>nt a
 | .scope a=>nt a
 | _=>[]
def l_ (n:Nat) (d:Nat→Value):List Nat→Fr→Fr
 | [],fr=>fr
 | s :: l,fr=>l_ n d l (put n fr (some s) (d s))
def oN (fr:Fr):List (Nat × S1)→List Value
 | []=>[]
 | (s,_) :: l=>dj fr s :: oN fr l
def iY (n:Nat) (fr:Fr):List (Nat × S1)→List Value→Fr
 | (s,_) :: l,v :: vs=>iY n (put n fr (some s) v) l vs
 | _,_=>fr
def ve:List (Nat × S1)→List S1
 | []=>[]
 | (_,s) :: l=>s :: ve l

structure bj where
 loops:List (Nat × List (Nat × S1)):=[]
 joins:List (Nat × List (Nat × S1)):=[]
 blocks:List (Nat × List (Nat × S1)):=[]
 rngs:List (Nat × List (Nat × S1)):=[]
def look (k:Nat):List (Nat × List (Nat × S1))→Option (List (Nat × S1))
 | []=>none
 | (j,x) :: l=>bif Nat.beq j k then some x else look k l
def kX:Code→Option Nat
 | .region i _ _=>some i
 | .seq a b=>(match kX a with | some i=>some i | none=>kX b)
 | .cond _ a b=>(match kX a with | some i=>some i | none=>kX b)
 | .block _ a=>kX a
 | .loop a=>kX a
 | .scope a=>kX a
 | _=>none
def KF (k:Option Nat) (l:List (Nat × List (Nat × S1))):Option (List (Nat × S1)):=match k with | some k=>look k l | none=>none

def Gh:List Oper→Nat→Option Oper
 | [],_=>none
 | o :: _,0=>some o
 | _ :: l,n + 1=>Gh l n
def yD (all:List Oper) (j:Nat):Option Tmp:=match Gh all j with | some o=>o.dst | none=>none
def HK:Bool→Bool→Bool
 | true,true=>true
 | false,false=>true
 | _,_=>false
def Eo (all:List Oper) (fr:Fr) (o:Oper) (yes no:Prop):Prop :=
 match o.guard with
 | none=>yes
 | some (j,t)=>match yD all j with
  | some d=>(match dj fr d with | .bool b=>bif HK b t then yes else no | _=>no)
  | none=>no
def KG:List Oper→Nat→Bool
 | [],_=>false
 | o :: l,i=>match o.guard with | some (j,_)=>Nat.beq j i || KG l i | none=>KG l i
def z_ (g:Bool) (v:Value) (k:Value→Prop):Prop :=
 match g,v with
 | true,.bool b=>QO b fun b=>k (.bool b)
 | _,v=>k v
section
variable (P:Program) (Ty:TypeId→Option di) (Fn:FuncId→Bool) (E:World→World→Prop) (N:Nat)
def xj (all:List Oper):Nat→List Oper→Fr→World→(Fr→World→Prop)→Prop
 | _,[],fr,w,K=>K fr w
 | i,o :: l,fr,w,K =>
  Eo all fr o (HJ P Ty Fn E o fr w fun v w'=>z_ (KG all i) v fun v=>xj all (i + 1) l (put N fr o.dst v) w' K)
   (xj all (i + 1) l (put N fr o.dst undef) w K)

def Gi:List Bool→Nat→Bool
 | [],_=>true
 | b :: _,0=>b
 | _ :: l,n + 1=>Gi l n
def Ck:List Bool→Nat→Bool
 | [],_=>false
 | b :: _,0=>b
 | _ :: l,n + 1=>Ck l n
def eS:List Bool→Nat→List Bool
 | [],_=>[]
 | _ :: l,0=>true :: l
 | b :: l,n + 1=>b :: eS l n
def Aa (ls:List Bool):List Edge→Bool
 | []=>true
 | e :: l=>(match e.ground with | .textOnly _ | .gcOnly _=>true | _=>Ck ls e.on) && Aa ls l
def Gj (ls:List Bool) (i:Nat) (o:Oper):Bool:=!Gi ls i && Aa ls o.after.toList
def jz (Ty:TypeId→Option di) (ls:List Bool):Nat→List Oper→Option (Nat × Oper)
 | _,[]=>none
 | i,o :: l=>bif gV Ty o && Gj ls i o then some (i,o) else jz Ty ls (i + 1) l
def dI (ls:List Bool):Nat→List Oper→List (Nat × Oper)
 | _,[]=>[]
 | i,o :: l=>bif Gj ls i o then (i,o) :: dI ls (i + 1) l else dI ls (i + 1) l
def HL (n:Nat):List Bool:=match n with | 0=>[] | n + 1=>false :: HL n
def oO (x:Nat):List Nat→Bool
 | []=>false
 | y :: l=>Nat.beq x y || oO x l
def M_:Option Operand→List Operand→List Operand
 | none,l=>l
 | some x,l=>x :: l
def Na:List Operand→List Operand→List Operand
 | [],m=>m
 | x :: l,m=>x :: Na l m
def Nb:List (Nat × Operand)→List Operand
 | []=>[]
 | (_,x) :: l=>x :: Nb l
def KH:Op→List Operand
 | .move x | .assign x | .box _ x | .load _ x | .nilCheck x | .unOp _ _ x | .convert _ _ x | .makeInterface _ x | .fieldAddr _ x _ | .field _ x _ | .range _ x | .next x _ | .typeAssert x _ _ _ | .extract x _=>[x]
 | .pick c a b=>[c,a,b]
 | .build _ ps | .buildSlice _ _ ps=>Nb ps.toList
 | .store _ a v | .binOp _ _ a v _ | .makeSlice _ a v | .indexAddr _ a v | .index _ a v | .lookup _ a v _ | .mapEntry _ a v=>[a,v]
 | .makeFunc _ first cap=>Na first.toList cap.toList
 | .slice _ x l h m=>x :: M_ l (M_ h (M_ m []))
 | .mapUpdate _ m k v | .entryStore _ m k v | .insert _ m k v=>[m,k,v]
 | .call c=>(match c.callee with | .value f=>f :: c.args.toList | .invoke r _=>r :: c.args.toList | .builtin _=>c.args.toList)
 | o=>o.operands.toList
def Cm:List Operand→List Nat→List Nat
 | [],m=>m
 | .tmp t :: l,m=>t :: Cm l m
 | _ :: l,m=>Cm l m
def looks (all:List Oper) (o:Oper):List Nat :=
 Cm (KH o.op) (match o.guard with | some (g,_)=>(match yD all g with | some d=>[d] | none=>[]) | none=>[])
def C8 (d:Option Tmp) (l:List Nat):Bool:=match d with | some d=>!oO d l | none=>true
def OV (a b:Option Tmp):Bool:=match a,b with | some a,some b=>!Nat.beq a b | _,_=>true
def xk (all:List Oper) (x y:Oper):Bool:=C8 x.dst (looks all y) && OV x.dst y.dst && C8 y.dst (looks all x)
def waits (i:Nat):List Edge→Bool
 | []=>false
 | e :: l=>(match e.ground with | .textOnly _ | .gcOnly _=>false | _=>Nat.beq e.on i) || waits i l
def HM (all:List Oper) (ls:List Bool) (i:Nat) (o:Oper):Nat→List Oper→Bool
 | _,[]=>true
 | j,p :: l=>(Nat.beq j i || Gi ls j || waits i p.after.toList || xk all o p) && HM all ls i o (j + 1) l
def Pg:List (Nat × Oper)→(Nat × Oper→Prop)→Prop
 | [],_=>True
 | [x],f=>f x
 | x :: l,f=>f x∧Pg l f
def yE:List Edge→List Nat→List Nat
 | [],m=>m
 | e :: l,m=>match e.ground with | .textOnly _ | .gcOnly _=>yE l m | _=>e.on :: yE l m
def QC (all:List Oper):Nat→List Nat→List Nat→List Nat
 | 0,_,done=>done
 | _ + 1,[],done=>done
 | n + 1,j :: todo,done=>match oO j done with
  | true=>QC all n todo done
  | false=>QC all n (match Gh all j with | some o=>yE o.after.toList todo | none=>todo) (j :: done)
def HN (Ty:TypeId→Option di) (cl:List Nat):Nat→List Oper→Bool
 | _,[]=>false
 | i,o :: l=>(gV Ty o && !oO i cl) || HN Ty cl (i + 1) l
def tV (Ty:TypeId→Option di) (all:List Oper) (es:List Edge):Bool:=HN Ty (QC all 1000 (yE es []) []) 0 all
def cC (b:Bool) (p q:Prop):Prop:=match b with | true=>p∧q | false=>q
def Ph (o:Oper):Bool:=match o.op with | .load ..=>true | _=>false
def OW (all:List Oper) (i:Nat):List Oper→Bool
 | []=>false
 | o :: l=>(Ph o && oO i (QC all 1000 (yE o.after.toList []) [])) || OW all i l
def R7 (b s:Bool) (C:World→Prop) (w' : World) (f:(World→Prop)→Prop):Prop :=
 match b with
 | true=>(match s with | true=>∃ C' : World→Prop,C' w'∧(∀ w,C' w→C w)∧f C' | false=>C w'∧f C)
 | false=>f C
def yF (C:World→Prop) (all:List Oper) (K:Fr→World→Prop):Nat→List Bool→Fr→World→Prop
 | 0,ls,fr,w=>(match dI ls 0 all with | []=>K fr w | _=>False)
 | n + 1,ls,fr,w =>
  match jz Ty ls 0 all with
  | some (i,o)=>y8 (HM all ls i o 0 all) (
    Eo all fr o (z7 P Ty (RO C) (Sb P C) o fr fun v=>z_ (KG all i) v fun v=>yF C all K n (eS ls i) (put N fr o.dst v) w)
     (yF C all K n (eS ls i) (put N fr o.dst undef) w))
  | none=>match dI ls 0 all with
   | []=>K fr w
   | es=>Pg es fun x =>
     Eo all fr x.2 (KE P Ty Fn E x.2 fr w fun v w'=>z_ (KG all x.1) v fun v=>R7 (tV Ty all x.2.after.toList) (OW all x.1 all) C w' fun C=>yF C all K n (eS ls x.1) (put N fr x.2.dst v) w')
      (yF C all K n (eS ls x.1) (put N fr x.2.dst undef) w)
def HO:List Oper→Bool
 | []=>true
 | o :: l=>(match o.op with | .select ..=>false | _=>true) && HO l
def drawn (w w' : World):Prop:=w' = { w with drawn:=w.drawn + 1 }
def Nc (ops:List Oper) (draw:Bool) (fr:Fr) (w:World) (K:Fr→World→Prop):Prop :=
 match draw with
 | false=>xj P Ty Fn E N ops 0 ops fr w K
 | true=>y8 (HO ops) (∀ w',drawn w w'→∃ C:World→Prop,C w'∧yF P Ty Fn E N C ops K (lenO ops) (HL (lenO ops)) fr w')
where
 lenO:List Oper→Nat
  | []=>0
  | _ :: l=>Nat.succ (lenO l)

def QS (n:Nat) (lv:List (Nat × S1)) (ws:List Nat) (fr:Fr) (w:World) (body:Fr→World→(Fr→World→Prop)→Prop):Prop :=
 ∃ (I:z8 (ve lv) (World→Prop)) (m:z8 (ve lv) (World→Nat)),
  Cj (ve lv) I (oN fr lv) (fun _=>False) w ∧
  ∀ (d:Nat→Value),Em (ve lv) fun vs=>∀ w,Cj (ve lv) I vs (fun _=>False) w →
   body (iY n (l_ n d ws fr) lv vs) w fun fr' w' =>
    Cj (ve lv) I (oN fr' lv) (fun _=>False) w'∧Cj (ve lv) m (oN fr' lv) (fun _=>0) w' < Cj (ve lv) m vs (fun _=>0) w
def OX (n:Nat) (lv:List (Nat × S1)) (ws:List Nat) (fr:Fr) (a:(Fr→World→Prop)→Prop) (b:Fr→World→Prop):Prop :=
 ∃ J:z8 (ve lv) (World→Prop),a (fun fr' w'=>Cj (ve lv) J (oN fr' lv) (fun _=>False) w') ∧
  ∀ (d:Nat→Value),Em (ve lv) fun vs=>∀ w,Cj (ve lv) J vs (fun _=>False) w→b (iY n (l_ n d ws fr) lv vs) w

def cW:Code→Bool
 | .rangeFunc ..=>true
 | .seq a b=>cW a || cW b
 | .cond _ a b=>cW a || cW b
 | .block _ a=>cW a
 | .loop a=>cW a
 | .scope a=>cW a
 | _=>false
def Nd (M L:List aw):Prop:=∀ h,aE M h→aE L h
def QD (P:Program) (g:FuncId) (first cap:List Value) (D Q:aw) (xs:List (List Value)):Prop :=
 ∀ (l:Nat) (E:World→World→Prop),C3 E→∀ (J:Nat→aw) (Jx:aw) (L:List aw) (w0:World),St w0 (J 0 :: D :: L)→(∀ h,aE L h→Q h) →
  (∀ i us,xs[i]? = some us→∀ M w,Nd M L→St w (J i :: M)→RM P E l us w fun v w'=>(v = .bool true∧St w' (J (i + 1) :: M))∨(v = .bool false∧St w' (Jx :: M))) →
  au P E g (C7 first [.func (.yield l) #[] #[]] cap) w0 fun _ w'=>St w' (J xs.length :: D :: L)∨St w' (Jx :: D :: L)
def qb:List Nat→List (Nat × S1)→Bool
 | [],[]=>true
 | a :: l,(b,_) :: m=>Nat.beq a b && qb l m
 | _,_=>false
def dZ:Code→List Nat
 | .exit i=>[i]
 | .seq a b=>Gg (dZ a) (dZ b)
 | .cond _ a b=>Gg (dZ a) (dZ b)
 | .block i a=>delN i (dZ a)
 | .loop a=>dZ a
 | .scope a=>dZ a
 | _=>[]
where delN (i:Nat):List Nat→List Nat
 | []=>[]
 | j :: l=>bif Nat.beq j i || oO j l then delN i l else j :: delN i l
def Pj:List Nat→(Nat→Prop)→Prop
 | [],_=>True
 | [j],p=>p j
 | j :: l,p=>p j∧Pj l p
def QT (P:Program) (g:FuncId) (first cap:List Value) (sh:List S1) (exs:List Nat) (w:World)
  (asg:List Value→World→(Fr→World→Prop)→Prop)
  (bd:Fr→World→(World→Prop)→(World→Prop)→(Nat→World→Prop)→Prop) (n r:World→Prop) (x:Nat→World→Prop):Prop :=
 ∃ (xs:List (List Value)) (D Q:aw) (J:Nat→aw) (Jr:aw) (Jx:Nat→aw) (L:List aw),St w (J 0 :: D :: L)∧(∀ h,aE L h→Q h)∧QD P g first cap D Q xs ∧
  (∀ us,us∈xs→Pa sh fun vs=>us = vs) ∧
  (∀ i,Em sh fun vs=>xs[i]? = some vs→∀ L' w,Nd L' L→St w (J i :: L') →
   asg vs w fun fr1 w1=>∃ M:aw,St w1 (M :: L')∧∀ L' w,Nd L' L→St w (M :: L') →
    bd fr1 w (fun w'=>St w' (J (i + 1) :: L')) (fun w'=>St w' (Jr :: L')) (fun j w'=>y8 (oO j exs) (St w' (Jx j :: L')))) ∧
  (∀ w',St w' (J xs.length :: D :: L)→n w')∧(∀ w',St w' (Jr :: D :: L)→r w')∧Pj exs fun j=>∀ w',St w' (Jx j :: D :: L)→x j w'
def den (A:bj):Code→Fr→World→(Fr→World→Prop)→(Fr→World→Prop)→(Nat→Fr→World→Prop)→Prop
 | .skip,fr,w,n,r,x=>n fr w
 | .region _ ops draw,fr,w,n,r,x=>Nc P Ty Fn E N ops.toList draw fr w n
 | .seq a b,fr,w,n,r,x =>
  (match KF (kX b) A.joins with
  | some lv=>OX N lv (nt a) fr (fun n'=>den A a fr w n' r x) (fun fr w=>den A b fr w n r x)
  | none=>den A a fr w (fun fr w=>den A b fr w n r x) r x)
 | .cond c a b,fr,w,n,r,x=>RH (ev fr c) (den A a fr w n r x) (den A b fr w n r x)
 | .block i a,fr,w,n,r,x =>
  (match look i A.blocks with
  | some lv=>OX N lv (nt a) fr (fun n'=>den A a fr w n' r fun j fr w=>bif Nat.beq j i then n' fr w else x j fr w) n
  | none=>den A a fr w n r fun j fr w=>bif Nat.beq j i then n fr w else x j fr w)
 | .loop a,fr,w,n,r,x =>
  (match KF (kX a) A.loops with
  | some lv=>QS N lv (nt a) fr w fun fr w n'=>den A a fr w n' r x
  | none=>False)
 | .exit i,fr,w,n,r,x=>x i fr w
 | .ret,fr,w,n,r,x=>r fr w
 | .label _,fr,w,n,r,x=>n fr w
 | .scope a,fr,w,n,r,x=>den A a fr w n r x
 | .rangeFunc f ps a b,fr,w,n,r,x =>
  y8 (!cW a && !cW b) (match ev fr f,KF (kX (.seq a b)) A.rngs with
   | .func (.func g) first cap,some lv=>y8 (qb ps.toList lv) (y8 (Fn g)
    (QT P g first.toList cap.toList (ve lv) (dZ b) w
     (fun vs w K=>den A a (iY N fr lv vs) w K (fun _ _=>False) (fun _ _ _=>False))
     (fun fr1 w n' r' x'=>den A b fr1 w (fun _ w=>n' w) (fun _ w=>r' w) (fun j _ w=>x' j w)) (n fr) (r fr) (fun j=>x j fr)))
   | _,_=>False)
 | _,fr,w,n,r,x=>False
end
def Ji (P:Program) (Ty:TypeId→Option di) (rs:List ResultVar) (fr:Fr) (w:World) (R:Value→Prop):Prop :=
 let rec go:List ResultVar→(List Value→Prop)→Prop
  | [],k=>k []
  | .tmp t :: l,k=>go l fun vs=>k (dj fr t :: vs)
  | .cell a t :: l,k=>(match dj fr a,Ty t with
   | .pointer a,some i=>nn a fun ad=>QA w ad i fun v=>go l fun vs=>k (v :: vs)
   | _,_=>False)
 go rs fun vs=>match vs with | [v]=>R v | vs=>R (.tuple ⟨vs⟩)
def Ep:Nat→List Value→Fr
 | _,[]=>[]
 | i,v :: l=>(i,v) :: Ep (i + 1) l
def KI (c:Code) (R:Value→World→Prop) (v:Value) (w:World):Prop:=bif cW c then ∀ w2,hp w2 = hp w→R v w2 else R v w
def QE (P:Program) (Ty:TypeId→Option di) (Fn:FuncId→Bool) (E:World→World→Prop) (A:bj) (fn:Func) (args:List Value) (w:World) (R:Value→World→Prop):Prop :=
 match fn.body with
 | some c=>bif RI args fn.ntmps then
   den P Ty Fn E fn.ntmps A c (Ep 0 args) w (fun fr w=>Ji P Ty fn.results.toList fr w fun v=>KI c R v w) (fun fr w=>Ji P Ty fn.results.toList fr w fun v=>KI c R v w) (fun _ _ _=>False)
  else False
 | none=>False
end Go.V
namespace Go.V
def zK (P:Program) (E:World→World→Prop) (o:Oper) (ρ : Operand→Value) (w:World) (K:Value→World→Prop):Prop :=
 match (execOp ρ o).run P w with
 | .ok (.value v) w'=>E w w'∧K v w'
 | .ok .skip w'=>E w w'∧K undef w'
 | .ok (.enter f args) w'=>E w w'∧Calls P f args w' fun e w''=>∃ v,e = .returned v∧E w' w''∧K v w''
 | .ok (.round l f tmps assign body) w'=>E w w'∧RoundIn Fence.wide 0 P l f tmps assign body w' fun e w''=>∃ v,e = .returned v∧E w' w''∧K v w''
 | _=>False
theorem zK.mono {P:Program} {E:World→World→Prop} {o:Oper} {ρ : Operand→Value} {w:World} {K K' : Value→World→Prop} (h:zK P E o ρ w K) (hk:∀ v w',E w w'→K v w'→K' v w')
  (ht:∀ {a b c:World},E a b→E b c→E a c):zK P E o ρ w K':=by
 unfold zK at *
 split at h
 ·exact ⟨h.1,hk _ _ h.1 h.2⟩
 ·exact ⟨h.1,hk _ _ h.1 h.2⟩
 ·exact ⟨h.1,Calls.mono h.2 fun e w'' ⟨v,he,h1,h2⟩=>⟨v,he,h1,hk _ _ (ht h.1 h1) h2⟩⟩
 ·exact ⟨h.1,RoundIn.mono h.2 fun e w'' ⟨v,he,h1,h2⟩=>⟨v,he,h1,hk _ _ (ht h.1 h1) h2⟩⟩
 ·exact h.elim

def ub (P:Program):TypeDesc→List (Nat × Nat × Bool)
 | .struct fs=>fs.toList.map fun f=>(f.offset,P.cellsOf f.type,match P.underlying f.type with | some (.struct _) | some (.array ..)=>true | _=>false)
 | _=>[]
structure RP (P:Program) (t:TypeId) (i:di) (info:TypeInfo) (d:TypeDesc):Prop where
 inf:P.info? t = some info
 und:P.underlying t = some d
 kd:i.kd = dx d
 size:i.size = info.size
 bytes:i.bytes = info.bytes
 zero:i.zero = info.zero
 flds:i.flds = ub P d
 ok:xh P d = true
theorem qd {P:Program} {Ty:TypeId→Option di} (h:dy P Ty) {t:TypeId} {i:di} (hi:Ty t = some i):∃ info d,RP P t i info d:=by
 have:=h t i hi
 unfold RF at this
 split at this
 ·rename_i a b ha hb
  simp only [Bool.cond_eq_ite] at this
  split at this
  ·rename_i hok
   cases this
   exact ⟨a,b,ha,hb,rfl,rfl,rfl,rfl,by unfold ub; rfl,hok⟩
  ·cases this
 ·cases this
theorem Gk {Ty:TypeId→Option di} {t:TypeId} {k:Kd} (h:ag Ty t = k) (hk:k≠.other):∃ i,Ty t = some i∧i.kd = k:=by
 unfold ag at h
 split at h
 ·rename_i i hi; exact ⟨i,hi,h⟩
 ·exact absurd h.symm hk
theorem ga {d:TypeDesc} {e:TypeId} (h:Kd.slice e = dx d):d = .slice e:=by cases d <;> simp [dx] at h; subst h; rfl
theorem Er {d:TypeDesc} {n:Nat} {e:TypeId} (h:Kd.array n e = dx d):d = .array n e:=by cases d <;> simp [dx] at h; obtain ⟨rfl,rfl⟩:=h; rfl
theorem KJ {d:TypeDesc} {e:IntKind} (h:Kd.int e = dx d):d = .int e:=by cases d <;> simp [dx] at h; subst h; rfl
theorem mc {d:TypeDesc} (h:Kd.string = dx d):d = .string:=by cases d <;> simp [dx] at h; rfl
theorem Nf {d:TypeDesc} (h:Kd.bool = dx d):d = .bool:=by cases d <;> simp [dx] at h; rfl
theorem Gl {d:TypeDesc} {e:TypeId} (h:Kd.ptr e = dx d):d = .pointer e:=by cases d <;> simp [dx] at h; subst h; rfl
theorem Pk {d:TypeDesc} {k e:TypeId} (h:Kd.map k e = dx d):d = .map k e:=by cases d <;> simp [dx] at h; obtain ⟨rfl,rfl⟩:=h; rfl
theorem xl {d:TypeDesc} (h:Kd.struct = dx d):∃ fs,d = .struct fs:=by cases d <;> simp [dx] at h; exact ⟨_,rfl⟩
theorem Ng {d:TypeDesc} (h:Kd.func = dx d):∃ a b c,d = .func a b c:=by cases d <;> simp [dx] at h; exact ⟨_,_,_,rfl⟩
theorem cX {P:Program} {Ty:TypeId→Option di} (h:dy P Ty) {t:TypeId} {k:Kd} (hk:ag Ty t = k) (hne:k≠.other):∃ d,P.underlying t = some d∧k = dx d:=by
 obtain ⟨i,hi,hik⟩:=Gk hk hne
 obtain ⟨info,d,ha⟩:=qd h hi
 exact ⟨d,ha.und,by rw [← hik,ha.kd]⟩
section
variable {P:Program} {w:World}
theorem aN {t:TypeId} {d:TypeDesc} (h:P.underlying t = some d):(underlying t).run P w = .ok d w:=by simp [underlying,h]
theorem Es {t:TypeId} {i:TypeInfo} (h:P.info? t = some i):(typeInfo t).run P w = .ok i w:=by simp [typeInfo,h]
theorem bU {t:TypeId} {i:TypeInfo} (h:P.info? t = some i):(sizeOf t).run P w = .ok i.size w:=by simp [sizeOf,typeInfo,h]
theorem g_ {t:TypeId} {i:TypeInfo} {z:Value} (h:P.info? t = some i) (hz:i.zero = some z):(zeroValue t).run P w = .ok z w:=by simp [zeroValue,typeInfo,h,hz]
theorem c_ {t:TypeId} {d:TypeDesc} (h:P.underlying t = some d):(isAgg t).run P w = .ok (dx d).isAgg w:=by
 simp only [isAgg,Sem.run_bind,aN h,Result.andThen_ok]
 cases d <;> simp [dx,Kd.isAgg]
theorem sk {Ty:TypeId→Option di} (h:dy P Ty) {t:TypeId} {s:Nat} (hs:Ch Ty t = some s):∃ info,P.info? t = some info∧info.size = s:=by
 unfold Ch at hs
 split at hs
 ·rename_i i hi
  obtain ⟨info,d,ha⟩:=qd h hi
  cases hs
  exact ⟨info,ha.inf,ha.size.symm⟩
 ·cases hs
theorem yG:∀ (n i:Nat) (a:Addr) (vs:List Value),rowAt w a i n = some vs→vs.length = n∧∀ j v,vs[j]? = some v→w.cell? (a.add (i + j)) = some v
 | 0,i,a,vs,h=>by simp [rowAt] at h; subst h; simp
 | n + 1,i,a,vs,h=>by
  unfold rowAt at h
  split at h
  ·rename_i v us hv hus
   cases h
   obtain ⟨h1,h2⟩:=yG n (i + 1) a us hus
   refine ⟨by simp [h1],fun j u hj=>?_⟩
   cases j with
   | zero=>simpa using hj ▸ hv
   | succ j=>have:=h2 j u (by simpa using hj); rwa [show i + 1 + j = i + (j + 1) by omega] at this
  ·cases h
def me (w:World) (a:Addr) (i:di) (v:Value):Prop :=
 match i.kd.isAgg with
 | true=>∃ vs,rowAt w a 0 i.size = some vs∧v = .agg ⟨vs⟩
 | false=>w.cell? a = some v
theorem Cn {Ty:TypeId→Option di} (h:dy P Ty) {t:TypeId} {i:di} (hi:Ty t = some i) {a:Addr} {v:Value} (hl:me w a i v):(loadVar t a).run P w = .ok v w:=by
 obtain ⟨info,d,ha⟩:=qd h hi
 unfold me at hl
 simp only [loadVar,Sem.run_bind,c_ ha.und,Result.andThen_ok,← ha.kd]
 cases hk:i.kd.isAgg with
 | true =>
  rw [hk] at hl
  obtain ⟨vs,hr,rfl⟩:=hl
  obtain ⟨h1,h2⟩:=yG _ _ _ _ hr
  have h3:info.size = vs.length:=by rw [h1,ha.size]
  have:=run_loadCells_list (P:=P) w a vs (fun j v hj=>by have:=h2 j v hj; rwa [Tn] at this)
  simp [bU ha.inf,h3,this]
 | false =>
  rw [hk] at hl
  simp [hl]
theorem Et {a:Addr} {i:di} {k:Value→Prop} (h:QA w a i k):∃ v,me w a i v∧k v:=by
 unfold QA at h
 split at h
 ·exact h.elim
 ·split at h
  ·rename_i hk _
   obtain ⟨vs,_,hr,hkv⟩:=zW h
   exact ⟨_,by unfold me; rw [hk]; exact ⟨vs,hr,rfl⟩,hkv⟩
  ·rename_i hk _
   obtain ⟨v,hv,hkv⟩:=Cs.iV h
   exact ⟨v,by unfold me; rw [hk]; exact hv,hkv⟩
  ·exact h.elim
theorem KK {C:World→Prop} {a:Addr} {i:di} {k:Value→Prop} (h:RO C a i k):∃ v,(∀ w,C w→me w a i v)∧k v:=by
 unfold RO at h
 split at h
 ·exact h.elim
 ·split at h
  ·rename_i hk _
   obtain ⟨vs,_,hr,hkv⟩:=zW h
   exact ⟨_,fun w hw=>by unfold me; rw [hk]; exact ⟨vs,hr w hw,rfl⟩,hkv⟩
  ·rename_i hk _
   obtain ⟨v,hv,hkv⟩:=Cs.iV h
   exact ⟨v,fun w hw=>by unfold me; rw [hk]; exact hv w hw,hkv⟩
  ·exact h.elim
end
end Go.V
namespace Go.V
section
variable {P:Program} {Ty:TypeId→Option di}
theorem jq {k:IntKind} {z:Int} {K:Value→Prop} (h:Ek k z K):K (.int k (k.wrap z)):=by
 unfold Ek at h
 split at h
 ·rw [HE h.1]; exact h.2
 ·exact h
theorem Jj {op:BinOp} {k k' : IntKind} {a b:Int} {t:TypeId} {K:Value→Prop} (hk:(C6 op || Nat.beq (kx k) (kx k')) = true) (h:KA op k a b K) :
  ∃ v,(∀ w,(Go.binOp op t (.int k a) (.int k' b)).run P w = .ok v w)∧K v:=by
 have hkk:C6 op = false→k = k':=fun hs=>Ky (by simpa [hs] using hk)
 unfold KA at h
 cases op <;> dsimp only at h
 case add=>refine ⟨_,fun w=>?_,jq h⟩; simp [Go.binOp,← hkk rfl,Op.intArith]
 case sub=>refine ⟨_,fun w=>?_,jq h⟩; simp [Go.binOp,← hkk rfl,Op.intArith]
 case mul=>refine ⟨_,fun w=>?_,jq h⟩; simp [Go.binOp,← hkk rfl,Op.intArith]
 case quo=>refine ⟨_,fun w=>?_,jq h.2⟩; simp [Go.binOp,← hkk rfl,Op.intDiv,show ¬ b = 0 from h.1]
 case rem=>refine ⟨_,fun w=>?_,h.2⟩; simp [Go.binOp,← hkk rfl,Op.intDiv,show ¬ b = 0 from h.1]
 case and=>refine ⟨_,fun w=>?_,h⟩; simp [Go.binOp,← hkk rfl,Op.intBits,jy]
 case or=>refine ⟨_,fun w=>?_,h⟩; simp [Go.binOp,← hkk rfl,Op.intBits,jy]
 case xor=>refine ⟨_,fun w=>?_,h⟩; simp [Go.binOp,← hkk rfl,Op.intBits,jy]
 case andNot=>refine ⟨_,fun w=>?_,h⟩; simp [Go.binOp,← hkk rfl,Op.intBits,jy]
 case eql=>refine ⟨_,fun w=>?_,h⟩; simp [Go.binOp,← hkk rfl,Op.intCmp]
 case neq=>refine ⟨_,fun w=>?_,h⟩; simp [Go.binOp,← hkk rfl,Op.intCmp]
 case lss=>refine ⟨_,fun w=>?_,h⟩; simp [Go.binOp,← hkk rfl,Op.intCmp]
 case leq=>refine ⟨_,fun w=>?_,h⟩; simp [Go.binOp,← hkk rfl,Op.intCmp]
 case gtr=>refine ⟨_,fun w=>?_,h⟩; simp [Go.binOp,← hkk rfl,Op.intCmp]
 case geq=>refine ⟨_,fun w=>?_,h⟩; simp [Go.binOp,← hkk rfl,Op.intCmp]
 case shl=>refine ⟨_,fun w=>?_,h.2⟩; simp [Go.binOp,Op.shift,Kz,Int.not_lt.2 h.1]
 case shr=>refine ⟨_,fun w=>?_,h.2⟩; simp [Go.binOp,Op.shift,y6,Int.not_lt.2 h.1]
theorem Jk {op:BinOp} {a b:ByteArray} {t:TypeId} {K:Value→Prop} (h:KB op a b K) :
  ∃ v,(∀ w,(Go.binOp op t (.string a) (.string b)).run P w = .ok v w)∧K v:=by
 unfold KB at h
 cases op <;> dsimp only at h <;> first | exact h.elim | skip
 case add =>
  refine ⟨_,fun w=>?_,h.2⟩
  simp [Go.binOp,Op.stringOp]
  exact h.1
 all_goals (refine ⟨_,fun w=>?_,h⟩; simp [Go.binOp,Op.stringOp])
theorem Ab {op:BinOp} {t:TypeId} {xo yo:Operand} {x y:Value} {w:World} (h:∀ a b,¬ (x = .agg a∧y = .agg b)) (h2:¬ (x = .nilIface∧y = .nilIface)) :
  (eqGuard op t xo yo x y).run P w = .ok () w:=by
 unfold eqGuard
 by_cases FN:(!(match op with | .eql | .neq=>true | _=>false)) = true
 ·cases op <;> simp_all
 ·cases op <;> simp at FN <;> (cases x <;> cases y <;> simp_all)
theorem vk {op:BinOp} {t:TypeId} {x y:Value} {r:Bool} {K:Value→Prop} (he:∀ w,(Op.equal t x y).run P w = .ok r w)
  (hb:∀ op,(op = .eql∨op = .neq)→Go.binOp op t x y = (match op with | .eql=>(do pure (.bool (← Op.equal t x y))) | _=>(do pure (.bool (!(← Op.equal t x y)))))) (h:OP op r K) :
  ∃ v,(∀ w,(Go.binOp op t x y).run P w = .ok v w)∧K v:=by
 unfold OP at h
 cases op <;> dsimp only at h <;> first | exact h.elim | skip
 case eql=>refine ⟨_,fun w=>?_,h⟩; rw [hb .eql (.inl rfl)]; simp [he w]
 case neq=>refine ⟨_,fun w=>?_,h⟩; rw [hb .neq (.inr rfl)]; simp [he w]
theorem dQ {c:Bool} {p:Prop} (h:bif c then p else False):c = true∧p:=by cases c <;> simp_all
theorem Jl (d:Nat) {t:TypeId} (h:P.underlying t = some .bool) (a b:Bool) (w:World):(Op.equalIn (d + 1) t (.bool a) (.bool b)).run P w = .ok (a == b) w:=by
 simp [Op.equalIn,aN h]
theorem Gm {t:TypeId} (h:P.underlying t = some .bool) (a b:Bool) (w:World):(Op.equal t (.bool a) (.bool b)).run P w = .ok (a == b) w:=Jl 9999 h a b w
theorem C9 (d:Nat) {t e:TypeId} (h:P.underlying t = some (.pointer e)) (a:Option Addr) (w:World):(Op.equalIn (d + 1) t (.pointer a) (.pointer none)).run P w = .ok a.isNone w:=by
 cases a <;> simp [Op.equalIn,aN h]
theorem BK {t e:TypeId} (h:P.underlying t = some (.pointer e)) (a:Option Addr) (w:World):(Op.equal t (.pointer a) (.pointer none)).run P w = .ok a.isNone w:=C9 9999 h a w
theorem Ac (d:Nat) {t e:TypeId} (h:P.underlying t = some (.slice e)) (a:Option Addr) (l c l' c' : Nat) (w:World):(Op.equalIn (d + 1) t (.slice a l c) (.slice none l' c')).run P w = .ok a.isNone w:=by
 cases a <;> simp [Op.equalIn,aN h]
theorem y9 {t e:TypeId} (h:P.underlying t = some (.slice e)) (a:Option Addr) (l c l' c' : Nat) (w:World):(Op.equal t (.slice a l c) (.slice none l' c')).run P w = .ok a.isNone w:=Ac 9999 h a l c l' c' w
theorem C_ (d:Nat) {t k e:TypeId} (h:P.underlying t = some (.map k e)) (a:Option Nat) (w:World):(Op.equalIn (d + 1) t (.map a) (.map none)).run P w = .ok a.isNone w:=by
 cases a <;> simp [Op.equalIn,aN h]
theorem BL {t k e:TypeId} (h:P.underlying t = some (.map k e)) (a:Option Nat) (w:World):(Op.equal t (.map a) (.map none)).run P w = .ok a.isNone w:=C_ 9999 h a w
theorem BM (d:Nat) {t:TypeId} {a b:Array TypeId} {c:Bool} (h:P.underlying t = some (.func a b c)) (f:Fn) (x y:Array Value) (w:World):(Op.equalIn (d + 1) t (.func f x y) .nilFunc).run P w = .ok false w:=by
 simp [Op.equalIn,aN h]
theorem Ad {t:TypeId} {a b:Array TypeId} {c:Bool} (h:P.underlying t = some (.func a b c)) (f:Fn) (x y:Array Value) (w:World):(Op.equal t (.func f x y) .nilFunc).run P w = .ok false w:=BM 9999 h f x y w
theorem gH {op:BinOp} {t:TypeId} {xo yo:Operand} {x y:Value} {K:Value→Prop} (h1:∀ a b,¬ (x = .agg a∧y = .agg b)) (h2:¬ (x = .nilIface∧y = .nilIface))
  (h:∃ v,(∀ w,(Go.binOp op t x y).run P w = .ok v w)∧K v):∃ v,(∀ w,(do eqGuard op t xo yo x y; Go.binOp op t x y:Sem Value).run P w = .ok v w)∧K v:=by
 obtain ⟨v,hv,hK⟩:=h
 exact ⟨v,fun w=>by simp [Ab h1 h2,hv],hK⟩
theorem Nh {op:BinOp} {t:Bool} {K:Value→Prop} (h:RL op t fun q=>K (.bool q)):OP op t K:=by cases op <;> simp [RL,OP] at h ⊢ <;> exact h
theorem KL (hT:dy P Ty) {C:World→Prop} {rs:Sem Value→(Value→Prop)→Prop} (hrs:∀ s k,rs s k→∃ v,(∀ w,C w→s.run P w = .ok v w)∧k v)
  {op:BinOp} {t:TypeId} {xo yo:Operand} {x y:Value} {K:Value→Prop} (h:Pc Ty rs op t xo yo x y K) :
  ∃ v,(∀ w,C w→(do eqGuard op t xo yo x y; Go.binOp op t x y:Sem Value).run P w = .ok v w)∧K v:=by
 have all:(∃ v,(∀ w,(do eqGuard op t xo yo x y; Go.binOp op t x y:Sem Value).run P w = .ok v w)∧K v)→∃ v,(∀ w,C w→(do eqGuard op t xo yo x y; Go.binOp op t x y:Sem Value).run P w = .ok v w)∧K v :=
  fun ⟨v,a,b⟩=>⟨v,fun w _=>a w,b⟩
 unfold Pc at h
 split at h
 ·obtain ⟨hc,h⟩:=dQ h
  exact all (gH (by simp) (by simp) (Jj hc h))
 ·exact all (gH (by simp) (by simp) (Jk h))
 ·split at h
  ·rename_i hk
   obtain ⟨d,hd,hd'⟩:=cX hT hk (by simp)
   rw [Nf hd'] at hd
   exact all (gH (by simp) (by simp) (vk (Gm hd _ _) (fun op ho=>by rcases ho with rfl | rfl <;> simp [Go.binOp]) h))
  ·exact h.elim
 ·unfold Pb at h
  split at h
  ·obtain ⟨hc,h⟩:=dQ h
   cases hk:ag Ty t <;> rw [hk] at hc <;> simp [OQ] at hc
   obtain ⟨d,hd,hd'⟩:=cX hT hk (by simp)
   rw [Gl hd'] at hd
   exact all (gH (by simp) (by simp) (vk (BK hd _) (fun op ho=>by rcases ho with rfl | rfl <;> simp [Go.binOp]) (Nh h)))
  ·obtain ⟨v,h1,b,rfl,h2⟩:=hrs _ _ h
   exact ⟨_,h1,h2⟩
 ·obtain ⟨hc,h⟩:=dQ h
  cases hk:ag Ty t <;> rw [hk] at hc <;> simp [HG] at hc
  obtain ⟨d,hd,hd'⟩:=cX hT hk (by simp)
  rw [ga hd'] at hd
  exact all (gH (by simp) (by simp) (vk (y9 hd _ _ _ _ _) (fun op ho=>by rcases ho with rfl | rfl <;> simp [Go.binOp]) h))
 ·split at h
  ·rename_i hk
   obtain ⟨d,hd,hd'⟩:=cX hT hk (by simp)
   obtain ⟨_,_,_,he⟩:=Ng hd'
   rw [he] at hd
   exact all (gH (by simp) (by simp) (vk (Ad hd _ _ _) (fun op ho=>by rcases ho with rfl | rfl <;> simp [Go.binOp]) h))
  ·exact h.elim
 ·obtain ⟨hc,h⟩:=dQ h
  cases hk:ag Ty t <;> rw [hk] at hc <;> simp [OR] at hc
  obtain ⟨d,hd,hd'⟩:=cX hT hk (by simp)
  rw [Pk hd'] at hd
  exact all (gH (by simp) (by simp) (vk (BL hd _) (fun op ho=>by rcases ho with rfl | rfl <;> simp [Go.binOp]) h))
 ·obtain ⟨v,h1,b,rfl,h2⟩:=hrs _ _ h
  exact ⟨_,h1,h2⟩
end
end Go.V
namespace Go.V
section
variable {P:Program} {Ty:TypeId→Option di}
theorem cT (v:Value):cellsOf v = v.cells.toList:=by cases v <;> rfl
theorem Eu:∀ (vs:List Value) (off k:Nat) (cs:List Value),
  (vs.zipIdx k).foldl (fun (a:Array Value) (x:Value × Nat)=>a.setIfInBounds (off + x.2) x.1) ⟨cs⟩ = ⟨setMany cs (off + k) vs⟩
 | [],_,_,_=>rfl
 | v :: vs,off,k,cs=>by
  simp only [List.zipIdx_cons,List.foldl_cons]
  have:=Eu vs off (k + 1) (Gb cs (off + k) v)
  rw [← Nat.add_assoc] at this
  rw [setMany,← this]
  congr 1
  rw [HF]; simp
theorem fill_eq {pl:Nat→Option (Nat × Nat)}:∀ (ps:List (Nat × Value)) (cs out:List Value),vj pl cs ps = some out→Instr.fill pl ⟨cs⟩ ps = some ⟨out⟩
 | [],cs,out,h=>by simp [vj] at h; subst h; rfl
 | (i,v) :: ps,cs,out,h=>by
  unfold vj at h
  unfold Instr.fill
  cases hp:pl i with
  | none=>rw [hp] at h; simp at h
  | some os =>
   obtain ⟨off,size⟩:=os
   rw [hp] at h
   simp only [Bool.cond_eq_ite] at h
   split at h
   ·rename_i hc
    simp only [SB] at hc
    have h1:=p9 _ _ hc.1
    have h2:=Ku _ _ hc.2
    rw [cT] at h1
    have h1' : v.cells.size = size:=by simpa using h1
    have h2' : off + v.cells.size≤cs.length:=by omega
    have ih:=fill_eq ps _ out h
    simp only [h1',ne_eq,not_true_eq_false,List.size_toArray,decide_false,Bool.false_or]
    rw [Sr (by simp; omega)]
    rw [← ih]
    congr 1
    have:=Eu v.cells.toList off 0 cs
    rw [cT,show off = off + 0 from rfl,← this]
    rw [← Array.foldl_toList]
    simp [Array.toList_zipIdx]
   ·cases h
theorem Ew (fr:Fr):∀ l,yC fr l = l.map fun (i,x)=>(i,ev fr x)
 | []=>rfl
 | (i,x) :: l=>by simp [yC,Ew fr l]
theorem xm {o:Option (List Value)} {k:List Value→Prop} (h:KC o k):∃ l,o = some l∧k l:=by
 unfold KC at h; split at h
 ·exact ⟨_,rfl,h⟩
 ·exact h.elim
theorem vl {a:Option Addr} {k:Addr→Prop} (h:nn a k):∃ x,a = some x∧k x:=by
 unfold nn at h; split at h
 ·exact ⟨_,rfl,h⟩
 ·exact h.elim
theorem parts_eq (fr:Fr) (ps:Array (Nat × Operand)):(ps.map fun (i,x)=>(i,ev fr x)).toList = yC fr ps.toList:=by
 rw [Ew]; simp
theorem Co {α β : Type} (f:α→Sem β) (g:α→β) (w:World):∀ (l:List α),(∀ x∈l,(f x).run P w = .ok (g x) w)→(l.mapM f).run P w = .ok (l.map g) w
 | [],_=>by simp
 | x :: l,h=>by
  simp only [List.mapM_cons,Sem.run_bind,h x (by simp),Result.andThen_ok,Co f g w l (fun y hy=>h y (by simp [hy])),Sem.run_pure,S0]
theorem KM {α β : Type} (f:α→Sem β) (g:α→β) (w:World) (a:Array α) (h:∀ x∈a.toList,(f x).run P w = .ok (g x) w):(a.mapM f).run P w = .ok (a.map g) w:=by
 rw [Array.mapM_eq_mapM_toList]
 simp only [Sem.run_map,Co f g w a.toList h,Result.andThen_ok]
 congr 1
 apply TF
 simp
theorem run_places (fs:Array Go.Field) (w:World) (hsz:∀ f∈fs.toList,∃ i,P.info? f.type = some i) :
  (fs.mapM fun f=>do pure (f.offset,← sizeOf f.type):Sem (Array (Nat × Nat))).run P w = .ok (fs.map fun f=>(f.offset,P.cellsOf f.type)) w:=by
 refine KM _ _ w fs fun f hf=>?_
 obtain ⟨i,hi⟩:=hsz f hf
 simp [bU hi,Program.cellsOf,hi]
theorem qe {fs:Array Go.Field} (h:xh P (.struct fs) = true):∀ f∈fs.toList,∃ i,P.info? f.type = some i:=by
 intro f hf
 simp only [xh,TG] at h
 have:=h f hf
 simp only [SB] at this
 exact Option.isSome_iff_exists.1 this.1
theorem Ae {fs:Array Go.Field} (h:xh P (.struct fs) = true):∀ f∈fs.toList,∃ i,P.underlying f.type = some i:=by
 intro f hf
 simp only [xh,TG] at h
 have:=h f hf
 simp only [SB] at this
 exact Option.isSome_iff_exists.1 this.2
theorem Gn {p q:Nat→Option (Nat × Nat)} (h:∀ i,p i = q i):∀ (ps:List (Nat × Value)) (cs:List Value),vj p cs ps = vj q cs ps:=by
 have:p = q:=funext h
 subst this; intros; rfl
theorem Ex (fs:Array Go.Field) (i:Nat):z6 (ub P (.struct fs)) i = (fs.map fun f=>(f.offset,P.cellsOf f.type))[i]?:=by
 simp only [z6,ub,Sn,Array.getElem?_map,SS]
 cases fs[i]? <;> rfl
theorem KN {fr:Fr} {x:Option Operand} {k:Option Int→Prop} (h:HH fr x k):(x = none∧k none)∨∃ y kk n,x = some y∧ev fr y = .int kk n∧k (some n):=by
 unfold HH at h
 split at h
 ·exact .inl ⟨rfl,h⟩
 ·split at h
  ·rename_i y _ kk n hv; exact .inr ⟨y,kk,n,rfl,hv,h⟩
  ·exact h.elim
theorem cF {k:IntKind} {n:Int} {y:Nat} {c:BoundsCode} {w:World} (h:0≤n∧n≤y):(Instr.sliceBound (.int k n) y c).run P w = .ok n.toNat w:=by
 simp [Instr.sliceBound,asIntOf,h]
end
end Go.V
namespace Go.V
section
variable {P:Program} {Ty:TypeId→Option di}
theorem eT {fr:Fr} {x:Operand} {k:Option Int→Prop} (h:HH fr (some x) k):∃ kk n,ev fr x = .int kk n∧k (some n):=by
 rcases KN h with ⟨h,_⟩ | ⟨y,kk,n,h,h1,h2⟩
 ·cases h
 ·cases h; exact ⟨kk,n,h1,h2⟩
theorem eV {fr:Fr} {k:Option Int→Prop} (h:HH fr none k):k none:=h
theorem BN {t e:TypeId} {info:TypeInfo} (hu:P.underlying t = some (.slice e)) (hin:P.info? e = some info) {a:Option Addr} {len cap:Nat} {fr:Fr} {lo hi mx:Option Operand} {K:Value→Prop}
  (h:HH fr lo fun lo=>HH fr hi fun hi=>HH fr mx fun mx=>p8 a len cap lo hi mx info.size fun a l c=>K (.slice a l c)) :
  ∃ v,(∀ w,(Instr.sliceAt t (.slice a len cap) (lo.map (ev fr)) (hi.map (ev fr)) (mx.map (ev fr))).run P w = .ok v w)∧K v:=by
 cases lo with
 | none =>
  have h:=eV h
  cases hi with
  | none =>
   have h:=eV h
   cases mx with
   | none =>
    have h:=eV h
    obtain ⟨_,_,_,h⟩:=h
    refine ⟨_,fun w=>?_,h⟩
    simp [Instr.sliceAt,Instr.slice,Instr.sliceBounds,aN hu,bU hin,fw,aH]
   | some mx =>
    obtain ⟨k3,m,hmx,h⟩:=eT h
    obtain ⟨h1,_⟩:=h
    simp at h1
  | some hi =>
   obtain ⟨k2,hh,hhi,h⟩:=eT h
   cases mx with
   | none =>
    have h:=eV h
    obtain ⟨_,h1,_,h⟩:=h
    have h1:0≤hh∧hh≤(cap:Int):=by simpa using h1
    refine ⟨_,fun w=>?_,h⟩
    simp [Instr.sliceAt,Instr.slice,Instr.sliceBounds,aN hu,bU hin,fw,aH,hhi,cF h1]
   | some mx =>
    obtain ⟨k3,m,hmx,h⟩:=eT h
    obtain ⟨h1,h2,_,h⟩:=h
    have h1:0≤m∧m≤(cap:Int):=by simpa using h1
    have h2:0≤hh∧hh≤m:=by simpa using h2
    refine ⟨_,fun w=>?_,h⟩
    simp [Instr.sliceAt,Instr.slice,Instr.sliceBounds,aN hu,bU hin,fw,aH,hhi,hmx,cF h1,cF (y:=m.toNat) (show 0≤hh∧hh≤(m.toNat:Nat) by omega)]
 | some lo =>
  obtain ⟨k1,l,hlo,h⟩:=eT h
  cases hi with
  | none =>
   have h:=eV h
   cases mx with
   | none =>
    have h:=eV h
    obtain ⟨_,_,h2,h⟩:=h
    have h2:0≤l∧l≤(len:Int):=by simpa using h2
    refine ⟨_,fun w=>?_,h⟩
    simp [Instr.sliceAt,Instr.slice,Instr.sliceBounds,aN hu,bU hin,fw,aH,hlo,cF h2]
   | some mx =>
    obtain ⟨k3,m,hmx,h⟩:=eT h
    obtain ⟨h1,_⟩:=h
    simp at h1
  | some hi =>
   obtain ⟨k2,hh,hhi,h⟩:=eT h
   cases mx with
   | none =>
    have h:=eV h
    obtain ⟨_,h1,h2,h⟩:=h
    have h1:0≤hh∧hh≤(cap:Int):=by simpa using h1
    have h2:0≤l∧l≤hh:=by simpa using h2
    refine ⟨_,fun w=>?_,h⟩
    simp [Instr.sliceAt,Instr.slice,Instr.sliceBounds,aN hu,bU hin,fw,aH,hlo,hhi,cF h1,cF (y:=hh.toNat) (show 0≤l∧l≤(hh.toNat:Nat) by omega)]
   | some mx =>
    obtain ⟨k3,m,hmx,h⟩:=eT h
    obtain ⟨h1,h2,h3,h⟩:=h
    have h1:0≤m∧m≤(cap:Int):=by simpa using h1
    have h2:0≤hh∧hh≤m:=by simpa using h2
    have h3:0≤l∧l≤hh:=by simpa using h3
    refine ⟨_,fun w=>?_,h⟩
    simp [Instr.sliceAt,Instr.slice,Instr.sliceBounds,aN hu,bU hin,fw,aH,hlo,hhi,hmx,cF h1,cF (y:=m.toNat) (show 0≤hh∧hh≤(m.toNat:Nat) by omega),cF (y:=hh.toNat) (show 0≤l∧l≤(hh.toNat:Nat) by omega)]
theorem BO {t:TypeId} (hu:P.underlying t = some .string) {s:ByteArray} {fr:Fr} {lo hi:Option Operand} {K:Value→Prop}
  (h:HH fr lo fun lo=>HH fr hi fun hi=>QQ s lo hi fun s=>K (.string s)) :
  ∃ v,(∀ w,(Instr.sliceAt t (.string s) (lo.map (ev fr)) (hi.map (ev fr)) none).run P w = .ok v w)∧K v:=by
 cases lo with
 | none =>
  have h:=eV h
  cases hi with
  | none =>
   have h:=eV h
   obtain ⟨_,_,h⟩:=h
   refine ⟨_,fun w=>?_,h⟩
   simp [Instr.sliceAt,Instr.slice,Instr.sliceBounds,aN hu]
  | some hi =>
   obtain ⟨k2,hh,hhi,h⟩:=eT h
   obtain ⟨h1,_,h⟩:=h
   have h1:0≤hh∧hh≤(s.size:Int):=by simpa using h1
   refine ⟨_,fun w=>?_,h⟩
   simp [Instr.sliceAt,Instr.slice,Instr.sliceBounds,aN hu,hhi,cF h1]
 | some lo =>
  obtain ⟨k1,l,hlo,h⟩:=eT h
  cases hi with
  | none =>
   have h:=eV h
   obtain ⟨_,h2,h⟩:=h
   have h2:0≤l∧l≤(s.size:Int):=by simpa using h2
   refine ⟨_,fun w=>?_,h⟩
   simp [Instr.sliceAt,Instr.slice,Instr.sliceBounds,aN hu,hlo,cF h2]
  | some hi =>
   obtain ⟨k2,hh,hhi,h⟩:=eT h
   obtain ⟨h1,h2,h⟩:=h
   have h1:0≤hh∧hh≤(s.size:Int):=by simpa using h1
   have h2:0≤l∧l≤hh:=by simpa using h2
   refine ⟨_,fun w=>?_,h⟩
   simp [Instr.sliceAt,Instr.slice,Instr.sliceBounds,aN hu,hlo,hhi,cF h1,cF (y:=hh.toNat) (show 0≤l∧l≤(hh.toNat:Nat) by omega)]

theorem yH (hT:dy P Ty) {C:World→Prop} {ld:Addr→di→(Value→Prop)→Prop} {rs:Sem Value→(Value→Prop)→Prop}
  (hld:∀ ad i k,ld ad i k→∃ v,(∀ w,C w→me w ad i v)∧k v) (hrs:∀ s k,rs s k→∃ v,(∀ w,C w→s.run P w = .ok v w)∧k v)
  {o:Oper} {fr:Fr} {K:Value→Prop} (h:z7 P Ty ld rs o fr K):∃ v,(∀ w,C w→(execOp (ev fr) o).run P w = .ok (.value v) w)∧K v:=by
 obtain ⟨dst,op,type,pos,after,guard⟩:=o
 unfold z7 at h
 cases op <;> dsimp only at h <;> first | exact h.elim | skip
 case move x=>exact ⟨_,fun w _=>rfl,h⟩
 case assign x=>exact ⟨_,fun w _=>rfl,h⟩
 case pick c a b =>
  split at h
  ·rename_i t ht
   refine ⟨_,fun w _=>?_,h⟩
   simp only [execOp,Sem.run_bind,ht,asBool,Sem.run_pure,Result.andThen_ok]
   cases t <;> simp
  ·exact h.elim
 case build t ps =>
  split at h
  ·rename_i i hi
   obtain ⟨info,d,ha⟩:=qd hT hi
   split at h
   ·rename_i z hz hk
    obtain ⟨fs,rfl⟩:=xl (hk ▸ ha.kd)
    obtain ⟨cs,hc,hK⟩:=xm h
    refine ⟨_,fun w _=>?_,hK⟩
    rw [ha.flds,Gn (Ex fs)] at hc
    have hz' : info.zero = some z:=by rw [← ha.zero,hz]
    have hf:=fill_eq _ _ _ hc
    rw [cT] at hf
    have hf:Instr.fill _ z.cells _ = _:=hf
    have hpl:=run_places (P:=P) fs w (qe ha.ok)
    simp only [execOp,Instr.build,Sem.run_bind,g_ ha.inf hz',aN ha.und,Result.andThen_ok,hpl,parts_eq]
    simp only [hf,Sem.run_pure,Result.andThen_ok]
   ·rename_i z n e hz hk
    have he:=Er (hk ▸ ha.kd)
    subst he
    split at h
    ·rename_i s hs
     obtain ⟨ie,hie,hse⟩:=sk hT hs
     obtain ⟨cs,hc,hK⟩:=xm h
     refine ⟨_,fun w _=>?_,hK⟩
     have hz' : info.zero = some z:=by rw [← ha.zero,hz]
     have hf:=fill_eq _ _ _ hc
     rw [cT] at hf
     have hf:Instr.fill _ z.cells _ = _:=hf
     simp only [execOp,Instr.build,Sem.run_bind,g_ ha.inf hz',aN ha.und,Result.andThen_ok,bU hie,hse,parts_eq]
     simp only [hf,Sem.run_pure,Result.andThen_ok]
    ·exact h.elim
   ·exact h.elim
  ·exact h.elim
 case load t x =>
  split at h
  ·rename_i a i hx hi
   obtain ⟨ad,rfl,h⟩:=vl h
   obtain ⟨v,hv,hK⟩:=hld _ _ _ h
   refine ⟨v,fun w hw=>?_,hK⟩
   simp [execOp,Instr.loadAt,hx,Instr.sureAddr,Cn hT hi (hv w hw)]
  ·exact h.elim
 case nilCheck x =>
  split at h
  ·rename_i a hx
   obtain ⟨ad,rfl,h⟩:=vl h
   exact ⟨_,fun w _=>by simp [execOp,hx],h⟩
  ·rename_i hx; exact ⟨_,fun w _=>by simp [execOp,hx],h⟩
  ·rename_i hx; exact ⟨_,fun w _=>by simp [execOp,hx],h⟩
  ·exact h.elim
 case binOp op t x y yt =>
  obtain ⟨v,hv,hK⟩:=KL hT hrs h
  refine ⟨v,fun w hw=>?_,hK⟩
  have:=hv w hw
  simp only [execOp,Sem.run_bind] at this ⊢
  rw [this]; rfl
 case unOp op t x =>
  split at h
  ·rename_i hx; exact ⟨_,fun w _=>by simp [execOp,hx,Op.unary],h⟩
  ·rename_i hx; exact ⟨_,fun w _=>by simp [execOp,hx,Op.unary,Op.intArith],jq h⟩
  ·rename_i hx; exact ⟨_,fun w _=>by simp [execOp,hx,Op.unary,Op.intBits,jy],h⟩
  ·exact h.elim
 case convert s d x =>
  split at h
  ·rename_i k1 k2 k3 n h1 h2 hx
   obtain ⟨d1,hd1,hd1'⟩:=cX hT h1 (by simp)
   obtain ⟨d2,hd2,hd2'⟩:=cX hT h2 (by simp)
   rw [KJ hd1'] at hd1; rw [KJ hd2'] at hd2
   exact ⟨_,fun w _=>by simp [execOp,hx,Go.convert,aN hd1,aN hd2,Conv.intToInt],jq h⟩
  ·rename_i s h1 h2 hx
   obtain ⟨d1,hd1,hd1'⟩:=cX hT h1 (by simp)
   obtain ⟨d2,hd2,hd2'⟩:=cX hT h2 (by simp)
   rw [mc hd1'] at hd1; rw [mc hd2'] at hd2
   exact ⟨_,fun w _=>by simp [execOp,hx,Go.convert,aN hd1,aN hd2],h⟩
  ·exact h.elim
 case makeInterface t x =>
  split at h
  ·rename_i i hi
   obtain ⟨info,d,ha⟩:=qd hT hi
   split at h
   ·exact h.elim
   ·rename_i hk
    refine ⟨_,fun w _=>?_,h⟩
    simp only [execOp,Instr.makeInterface,Sem.run_bind,aN ha.und,Result.andThen_ok]
    cases d <;> simp_all [ha.kd,dx]
  ·exact h.elim
 case makeFunc fn first cap =>
  refine ⟨_,fun w _=>?_,h⟩
  have e:∀ a:Array Operand,a.map (ev fr) = ⟨a.toList.map (ev fr)⟩:=fun a=>by apply TF; simp
  simp [execOp,Instr.makeFunc,zY,e]
 case slice t x lo hi mx =>
  split at h
  ·rename_i e a len cap h1 hx
   obtain ⟨d1,hd1,hd1'⟩:=cX hT h1 (by simp)
   rw [ga hd1'] at hd1
   split at h
   ·rename_i sz hsz
    obtain ⟨ie,hie,rfl⟩:=sk hT hsz
    obtain ⟨v,hv,hK⟩:=BN hd1 hie h
    exact ⟨v,fun w _=>by simp [execOp,hx,hv w],hK⟩
   ·exact h.elim
  ·rename_i s h1 hx
   obtain ⟨d1,hd1,hd1'⟩:=cX hT h1 (by simp)
   rw [mc hd1'] at hd1
   split at h
   ·obtain ⟨v,hv,hK⟩:=BO hd1 h
    exact ⟨v,fun w _=>by simp [execOp,hx,hv w],hK⟩
   ·exact h.elim
  ·exact h.elim
 case fieldAddr s x f =>
  split at h
  ·rename_i i a hi hx
   obtain ⟨info,d,ha⟩:=qd hT hi
   split at h
   ·rename_i off sz g hk hf
    obtain ⟨fs,rfl⟩:=xl (hk ▸ ha.kd)
    obtain ⟨hc,h⟩:=dQ h
    obtain ⟨ad,rfl,h⟩:=vl h
    refine ⟨_,fun w _=>?_,h⟩
    rw [ha.flds] at hf
    simp only [ub,Sn,T1,Prod.mk.injEq] at hf
    obtain ⟨F,hF,rfl,hsz,_⟩:=hf
    obtain ⟨iF,hiF⟩:=qe ha.ok F (Sl hF)
    have hne:iF.size≠0:=by
     have:P.cellsOf F.type = iF.size:=by simp [Program.cellsOf,hiF]
     rw [← this,hsz]
     have:=Nat.le_of_ble_eq_true hc; omega
    have hF' : fs[f]? = some F:=by simpa using hF
    simp [execOp,hx,Instr.fieldAt,aN ha.und,hF',Instr.sureAddr,fieldPlace,bU hiF,hne,Pd]
   ·exact h.elim
  ·exact h.elim
 case field t x f =>
  split at h
  ·rename_i i hi
   obtain ⟨info,d,ha⟩:=qd hT hi
   split at h
   ·rename_i hk
    obtain ⟨fs,rfl⟩:=xl (hk ▸ ha.kd)
    unfold QR at h
    split at h
    ·rename_i cs off sz hx hf
     rw [ha.flds] at hf
     simp only [ub,Sn,T1,Prod.mk.injEq] at hf
     obtain ⟨F,hF,rfl,rfl,hag⟩:=hf
     obtain ⟨iF,hiF⟩:=qe ha.ok F (Sl hF)
     obtain ⟨dF,hdF⟩:=Ae ha.ok F (Sl hF)
     have hF' : fs[f]? = some F:=by simpa using hF
     have hagg:(dx dF).isAgg = true:=by rw [hdF] at hag; cases dF <;> simp_all [dx,Kd.isAgg]
     have hsz:P.cellsOf F.type = iF.size:=by simp [Program.cellsOf,hiF]
     refine ⟨_,fun w _=>?_,h⟩
     simp only [execOp,hx,Instr.field,Sem.run_bind,aN ha.und,hF',asAgg,Sem.run_pure,Result.andThen_ok,part,c_ hdF,hagg,if_true,bU hiF,hsz]
     congr 3
     apply TF
     simp [List.extract_eq_take_drop]
    ·rename_i cs off sz hx hf
     rw [ha.flds] at hf
     simp only [ub,Sn,T1,Prod.mk.injEq] at hf
     obtain ⟨F,hF,rfl,rfl,hag⟩:=hf
     obtain ⟨dF,hdF⟩:=Ae ha.ok F (Sl hF)
     have hF' : fs[f]? = some F:=by simpa using hF
     have hagg:(dx dF).isAgg = false:=by rw [hdF] at hag; cases dF <;> simp_all [dx,Kd.isAgg]
     split at h
     ·rename_i u hu
      refine ⟨_,fun w _=>?_,h⟩
      have hu' : cs[F.offset]? = some u:=by simpa using hu
      simp [execOp,hx,Instr.field,aN ha.und,hF',asAgg,part,c_ hdF,hagg,hu']
     ·exact h.elim
    ·exact h.elim
   ·exact h.elim
  ·exact h.elim
 case indexAddr t x ix =>
  split at h
  ·rename_i e a len cap kk n h1 hx hix
   obtain ⟨d1,hd1,hd1'⟩:=cX hT h1 (by simp)
   rw [ga hd1'] at hd1
   split at h
   ·rename_i sz hsz
    obtain ⟨ie,hie,rfl⟩:=sk hT hsz
    obtain ⟨ad,rfl,h1,h2,h⟩:=h
    refine ⟨_,fun w _=>?_,h⟩
    simp [execOp,hx,hix,Instr.indexAt,asIntOf,aN hd1,bU hie,h1,h2,aH]
   ·exact h.elim
  ·rename_i m e a kk n h1 hx hix
   obtain ⟨d1,hd1,hd1'⟩:=cX hT h1 (by simp)
   rw [Er hd1'] at hd1
   split at h
   ·rename_i sz hsz
    obtain ⟨ie,hie,rfl⟩:=sk hT hsz
    obtain ⟨ad,rfl,h1,h2,h⟩:=h
    refine ⟨_,fun w _=>?_,h⟩
    simp [execOp,hx,hix,Instr.indexAt,asIntOf,aN hd1,bU hie,h1,h2,aH,Instr.sureAddr]
   ·exact h.elim
  ·exact h.elim
 case index t x ix =>
  split at h
  ·rename_i s kk n h1 hx hix
   obtain ⟨d1,hd1,hd1'⟩:=cX hT h1 (by simp)
   rw [mc hd1'] at hd1
   obtain ⟨⟨h1,h2⟩,h⟩:=h
   refine ⟨_,fun w _=>?_,h⟩
   have hlt:n.toNat < s.size:=by omega
   have hlt' : n.toNat < s.data.size:=hlt
   have e:s[n.toNat]? = some (sb s n.toNat):=by
    rw [getElem?_pos s n.toNat hlt]
    simp only [sb,hlt',Array.getElem?_eq_getElem,Option.getD_some]
    rfl
   simp [execOp,hx,hix,Instr.index,asIntOf,aN hd1,h1,e]
  ·obtain ⟨v,hv,hK⟩:=hrs _ _ h
   exact ⟨v,fun w hw=>by simp only [execOp,Sem.run_bind,hv w hw]; rfl,Sh.fu hK⟩
 case extract t i =>
  unfold OT at h
  split at h
  ·rename_i vs hx
   split at h
   ·rename_i u hu
    refine ⟨u,fun w _=>?_,h⟩
    have hu' : vs[i]? = some u:=by simpa using hu
    simp [execOp,hx,Instr.extract,hu']
   ·exact h.elim
  ·exact h.elim
 case call c =>
  obtain ⟨callee,args,argTypes⟩:=c
  have ha:args.map (ev fr) = ⟨BF fr args.toList⟩:=by rw [zY]; apply TF; simp
  split at h
  ·rename_i a l cap hc hv
   dsimp only at hc hv
   subst hc
   split at h
   ·rename_i t ts hts
    obtain ⟨hk,h⟩:=dQ h
    cases hkk:ag Ty t <;> rw [hkk] at hk <;> simp [HG] at hk
    obtain ⟨d1,hd1,hd1'⟩:=cX hT hkk (by simp)
    rw [ga hd1'] at hd1
    refine ⟨_,fun w _=>?_,h⟩
    have ht:argTypes[0]? = some t:=by rw [← SS,hts]; rfl
    simp [execOp,resolve,invoke,builtin,Builtin.len_,ha,hv,ht,aN hd1,goInt]
   ·exact h.elim
  ·rename_i s hc hv
   dsimp only at hc hv
   subst hc
   split at h
   ·rename_i t ts hts
    split at h
    ·rename_i hkk
     obtain ⟨d1,hd1,hd1'⟩:=cX hT hkk (by simp)
     rw [mc hd1'] at hd1
     refine ⟨_,fun w _=>?_,h⟩
     have ht:argTypes[0]? = some t:=by rw [← SS,hts]; rfl
     simp [execOp,resolve,invoke,builtin,Builtin.len_,ha,hv,ht,aN hd1,goInt]
    ·exact h.elim
   ·exact h.elim
  ·rename_i hc _ _
   dsimp only at hc
   subst hc
   obtain ⟨v,hv,hK⟩:=hrs _ _ h
   refine ⟨v,fun w hw=>?_,Sh.fu hK⟩
   have:=hv w hw
   simp only [execOp,resolve,invoke,builtin,Sem.run_bind,Sem.run_pure,Result.andThen_ok,ha,this]
  ·rename_i k a k' b hc hv
   dsimp only at hc hv
   subst hc
   refine ⟨_,fun w _=>?_,h⟩
   simp [execOp,resolve,invoke,builtin,Builtin.min_,ha,hv,Builtin.min2]
  ·rename_i k a k' b hc hv
   dsimp only at hc hv
   subst hc
   refine ⟨_,fun w _=>?_,h⟩
   simp [execOp,resolve,invoke,builtin,Builtin.max_,ha,hv,Builtin.max2]
  ·exact h.elim
end
end Go.V
namespace Go.V
def vm (P : Program) (Fn : FuncId → Bool) : Prop := ∀ g, Fn g = true → ∃ fn, P.funcs[g]? = some fn ∧ fn.body.isNone = false ∧ (fn.name == "runtime.NumGoroutine") = false
def KO (P : Program) (g : FuncId) : Bool := match P.funcs[g]? with | some fn => !fn.body.isNone && !(fn.name == "runtime.NumGoroutine") | none => false
def HP (P:Program) (lo:Nat):Nat→Bool
 | 0=>true
 | n + 1=>KO P (lo + n) && HP P lo n
theorem Ey {P:Program} {lo:Nat}:∀ {n:Nat},HP P lo n = true→∀ g,lo≤g→g < lo + n→KO P g = true
 | 0,_,g,h1,h2=>by omega
 | n + 1,h,g,h1,h2=>by
  simp only [HP,SB] at h
  by_cases hg:g = lo + n
  ·rw [hg]; exact h.1
  ·exact Ey h.2 g h1 (by omega)
theorem Ni {P:Program} {lo hi:Nat} (h:HP P lo (hi + 1 - lo) = true):vm P fun g=>Nat.ble lo g && Nat.ble g hi:=by
 intro g hg
 simp only [SB,Nat.ble_eq] at hg
 have:=Ey h g hg.1 (by omega)
 unfold KO at this
 split at this
 ·rename_i fn hfn
  simp only [SB,Tt] at this
  exact ⟨fn,hfn,this.1,this.2⟩
 ·cases this
section
variable {P:Program} {Ty:TypeId→Option di} {Fn:FuncId→Bool} {E:World→World→Prop}
theorem fO {o:Oper} {ρ : Operand→Value} {w w' : World} {K:Value→World→Prop} {v:Value} (h:(execOp ρ o).run P w = .ok (.value v) w') (hE:E w w') (hK:K v w'):zK P E o ρ w K:=by
 unfold zK; rw [h]; exact ⟨hE,hK⟩
theorem Ez {o:Oper} {ρ : Operand→Value} {w w' : World} {K:Value→World→Prop} (h:(execOp ρ o).run P w = .ok .skip w') (hE:E w w') (hK:K undef w'):zK P E o ρ w K:=by
 unfold zK; rw [h]; exact ⟨hE,hK⟩
theorem Ev.bZ (w0:World):∀ (vs:List Value) (w:World) (a:Addr) (i:Nat),Ev w0 w→Ev w0 (bZ w a i vs)
 | [],_,_,_,h=>h
 | v :: vs,w,a,i,h=>Ev.bZ w0 vs _ a (i + 1) (h.trans (Ev.setCell _ _ _))
theorem HQ (v:Value):aS v = v.oneCell':=by cases v <;> rfl
theorem vn {w:World} {a b:Addr} {v u:Value} (h:w.cell? b = some u):∃ u',(w.setCell a v).cell? b = some u':=by
 unfold World.cell? World.setCell at *
 simp only [Td]
 split at h
 ·rename_i c el fz hb
  split at h
  ·cases h
  ·rename_i hs
   by_cases hab:a.block = b.block
   ·simp only [hab,if_true,hb,Tf]
    rw [Sr hs]
    split
    ·exact ⟨u,h⟩
    ·by_cases ho:a.off = b.off
     ·have:=(S3.1 h).1
      exact ⟨v,by rw [ho]; simp [this]⟩
     ·exact ⟨u,by rw [Tm ho]; exact h⟩
   ·simp only [hab,if_false,hb]
    rw [Sr hs]
    exact ⟨u,h⟩
 ·cases h
theorem Af (w:World) (a b:Addr) (v:Value):(w.setCell a v).frozen? b = w.frozen? b:=by
 unfold World.frozen? World.setCell
 simp only [Td]
 by_cases hab:a.block = b.block
 ·simp only [hab,if_true]
  cases h:w.heap[b.block]? with
  | none=>rfl
  | some o=>cases o <;> rfl
 ·simp only [hab,if_false]
theorem mf {w:World} {b:Addr} {x:Value} (a:Addr):∀ (vs:List Value) (i:Nat),gZ w a i vs→gZ (w.setCell b x) a i vs
 | [],_,_=>trivial
 | v :: vs,i,⟨h1,⟨u,h2⟩,h3,h4⟩=>⟨h1,vn h2,by rw [Af]; exact h3,mf a vs (i + 1) h4⟩
theorem dR (a:Addr):∀ (vs:List Value) (w:World) (i:Nat),gZ w a i vs→(storeCells a vs i).run P w = .ok () (bZ w a i vs)
 | [],w,i,_=>by simp [storeCells,bZ]
 | v :: vs,w,i,⟨h1,⟨u,h2⟩,h3,h4⟩=>by
  have ih:=dR a vs (w.setCell (a.add i) v) (i + 1) (mf a vs (i + 1) h4)
  have hs:=run_store P w (a.add i) v .plain (by rw [← HQ]; exact h1)
  simp only [h2,h3] at hs
  simp only [storeCells,Sem.run_bind,hs,Result.andThen_ok,bZ]
  simpa using ih
theorem add_zero' (a:Addr):a.add 0 = a:=by simp [Addr.add]
theorem Nj (hT:dy P Ty) {t:TypeId} {i:di} (hi:Ty t = some i) {w:World} {ad:Addr} {v:Value} {k:World→Prop} (h:RK w ad i v k) :
  ∃ w',(storeVar t ad v).run P w = .ok () w'∧Ev w w'∧k w':=by
 obtain ⟨info,d,ha⟩:=qd hT hi
 unfold RK at h
 cases hk:i.kd.isAgg with
 | true =>
  rw [hk] at h
  cases v <;> dsimp only at h <;> first | exact h.elim | skip
  rename_i cs
  obtain ⟨hc,h1,h2⟩:=dQ h
  have hl:=p9 _ _ hc
  refine ⟨_,?_,Ev.bZ w _ _ _ _ (Ev.refl _),h2 _ rfl⟩
  have hsz:cs.size = info.size:=by rw [← ha.size,← hl]; simp
  simp [storeVar,bU ha.inf,Value.cells,hsz,dR _ _ _ _ h1]
 | false =>
  rw [hk] at h
  have h' : bif Nat.beq i.size 1 then st1 w ad v k else False:=by cases v <;> exact h
  obtain ⟨hc,⟨u,h1⟩,h2,h3,h4⟩:=dQ h'
  have hsz:info.size = 1:=by rw [← ha.size]; exact TL hc
  refine ⟨_,?_,Ev.setCell _ _ _,h4 _ rfl⟩
  have hcells:v.cells = #[v]:=by cases v <;> first | rfl | cases h3
  have:=dR (P:=P) ad [v] w 0 ⟨h3,⟨u,by rw [add_zero']; exact h1⟩,by rw [add_zero']; exact h2,trivial⟩
  simp only [bZ,add_zero'] at this
  simp [storeVar,bU ha.inf,hcells,hsz,this]
theorem Ag (z:List Value):∀ n,((Array.range (n * z.length)).map fun k=>(⟨z⟩ : Array Value)[k % z.length]!) = ⟨(List.replicate n z).flatten⟩:=by
 intro n
 apply TF
 simp only [Array.toList_map,Array.toList_range]
 induction n with
 | zero=>simp
 | succ n ih =>
  rw [TN,List.range_add,SU,List.replicate_succ',TZ,ih]
  congr 1
  simp only [List.map_map,T8,List.flatten_nil,S6]
  apply List.ext_getElem
  ·simp
  ·intro i h1 h2
   simp only [Ss,Ts] at h1
   simp [Nat.mul_add_mod_of_lt,h1,Nat.mod_eq_of_lt]
theorem HR (z:List Value):∀ n,gG n z = (List.replicate n z).flatten
 | 0=>rfl
 | n + 1=>by simp [gG,HR z n,T0]
theorem EA (z:List Value):∀ n,Ci n z = (List.replicate n z).flatten
 | 0=>rfl
 | n + 1=>by simp [Ci,zJ,EA z n,T0]
theorem dz (hE:∀ a b,Ev a b→E a b) {o:Oper} {ρ : Operand→Value} {w:World} {K:Value→World→Prop} {s:Sem Value} (he:execOp ρ o = (do pure (.value (← s)))) {R:Value→World→Prop} (h:az P s w R) (hR:∀ v w',R v w'→K v w'):zK P E o ρ w K:=by
 obtain ⟨v,w',h1,h2,h3⟩:=h
 refine fO (v:=v) (w':=w') ?_ (hE _ _ h2) (hR _ _ h3)
 rw [he]; simp [h1]
theorem Ah (hE:∀ a b,Ev a b→E a b) {o:Oper} {ρ : Operand→Value} {w:World} {K:Value→World→Prop} {s:Sem Unit} (he:execOp ρ o = (do s; pure .skip)) {R:Unit→World→Prop} (h:az P s w R) (hR:∀ v w',R v w'→K undef w'):zK P E o ρ w K:=by
 obtain ⟨v,w',h1,h2,h3⟩:=h
 refine Ez (w':=w') ?_ (hE _ _ h2) (hR _ _ h3)
 rw [he]; simp [h1]
theorem Jm {v:Value} {sh:Sh} {k:Value→Prop} (h:Pe v sh k):k v:=by
 unfold Pe at h
 split at h
 ·obtain ⟨n,u,rfl,h⟩:=h; exact h
 ·obtain ⟨us,rfl,h2⟩:=zX h; exact h2
 ·exact h.elim
theorem Gp {v:Value} {sh:Sh} {k:Value→Prop} (h:OU v sh k):k v:=by
 rcases h with ⟨rfl,h⟩ | h
 ·exact h
 ·split at h
  ·obtain ⟨us,h1,h2⟩:=zX h; rw [h1]; exact h2
  ·obtain ⟨n,u,h1,h2⟩:=h; rw [h1]; exact h2
  ·exact h.elim
theorem vo (hF:vm P Fn) {g:FuncId} (hg:Fn g = true) (args:Array Value) (w:World):(callFunc g args).run P w = .ok (.enter g args) w:=by
 obtain ⟨fn,h1,h2,h3⟩:=hF g hg
 have h3' : fn.name ≠ "runtime.NumGoroutine" := by simpa using h3
 have h2' : fn.body≠none:=fun e=>by rw [e] at h2; cases h2
 simp [callFunc,h1,h2',h3']
theorem Gq (hF:vm P Fn) (hE:∀ a b,Ev a b→E a b) {o:Oper} {fr:Fr} {w:World} {K:Value→World→Prop} {f:Operand} {args:Array Operand} {tys:Array TypeId} {sh:Sh}
  (ho:o.op = .call { callee:=.value f,args:=args,argTypes:=tys }) (h:KD P Fn E (ev fr f) (BF fr args.toList) sh w K):zK P E o (ev fr) w K:=by
 obtain ⟨dst,op,type,pos,after,guard⟩:=o
 dsimp only at ho
 subst ho
 have ha:args.map (ev fr) = ⟨BF fr args.toList⟩:=by rw [zY]; apply TF; simp
 unfold KD at h
 split at h
 ·rename_i g first cap hv
  obtain ⟨hg,h⟩:=bR.1 h
  have he:(execOp (ev fr) { dst:=dst,op:=.call { callee:=.value f,args:=args,argTypes:=tys },type:=type,pos:=pos,after:=after,guard:=guard }).run P w
    = .ok (.enter g ⟨C7 first.toList (BF fr args.toList) cap.toList⟩) w:=by
   have e2:first ++ (⟨BF fr args.toList⟩ : Array Value) ++ cap = ⟨C7 first.toList (BF fr args.toList) cap.toList⟩:=by
    apply TF; simp [HI]
   simp only [execOp,resolve,ha,hv,Deferred.ofValue,invoke,Sem.run_bind,Sem.run_pure,Result.andThen_ok,e2,vo hF hg]
  unfold zK
  rw [he]
  refine ⟨hE _ _ (Ev.refl _),?_⟩
  exact Calls.mono h fun e w' ⟨v,h1,h2,h3⟩=>⟨v,h1,h2,Sh.fu h3⟩
 ·rename_i l first cap hv
  obtain ⟨f',tmps,assign,body,hy,hr⟩:=h
  have he:(execOp (ev fr) { dst:=dst,op:=.call { callee:=.value f,args:=args,argTypes:=tys },type:=type,pos:=pos,after:=after,guard:=guard }).run P w
    = .ok (.round l f' tmps assign body) w:=by
   have e2:first ++ (⟨BF fr args.toList⟩ : Array Value) = ⟨El first.toList (BF fr args.toList)⟩:=by
    apply TF; simp [zJ]
   simp only [execOp,resolve,ha,hv,Deferred.ofValue,invoke,Sem.run_bind,Sem.run_pure,Result.andThen_ok,e2,hy]
  unfold zK
  rw [he]
  refine ⟨hE _ _ (Ev.refl _),?_⟩
  exact RoundIn.mono hr fun e w' ⟨v,h1,h2,h3⟩=>⟨v,h1,h2,Sh.fu h3⟩
 ·exact h.elim

theorem Cp (hT:dy P Ty) (hF:vm P Fn) (hE:∀ a b,Ev a b→E a b) {o:Oper} {fr:Fr} {w:World} {K:Value→World→Prop} (h:KE P Ty Fn E o fr w K):zK P E o (ev fr) w K:=by
 have h0:=h
 obtain ⟨dst,op,type,pos,after,guard⟩:=o
 unfold KE at h
 cases op <;> dsimp only at h <;> first | exact h.elim | skip
 case alloc t =>
  split at h
  ·rename_i i hi
   obtain ⟨info,d,ha⟩:=qd hT hi
   split at h
   ·rename_i z hz
    have hz' : info.zero = some z:=by rw [← ha.zero,hz]
    refine fO (w':={ w with heap:=w.heap.push (.cells ⟨cellsOf z⟩ t) }) ?_ (hE _ _ (Ev.push _ _)) (h _ _ rfl rfl)
    have e:z.cells = ⟨cellsOf z⟩:=by rw [cT]
    simp [execOp,Instr.alloc,g_ ha.inf hz',newVar,newRow,e]
   ·exact h.elim
  ·exact h.elim
 case box t x =>
  refine fO (w':={ w with heap:=w.heap.push (.cells ⟨cellsOf (ev fr x)⟩ t) }) ?_ (hE _ _ (Ev.push _ _)) (h _ _ rfl rfl)
  have e:(ev fr x).cells = ⟨cellsOf (ev fr x)⟩:=by rw [cT]
  simp [execOp,Instr.box,newVar,newRow,e]
 case buildSlice t n ps =>
  split at h
  ·rename_i e hk
   obtain ⟨d1,hd1,hd1'⟩:=cX hT hk (by simp)
   rw [ga hd1'] at hd1
   split at h
   ·rename_i i hi
    obtain ⟨info,d,ha⟩:=qd hT hi
    split at h
    ·rename_i z hz
     have hz' : info.zero = some z:=by rw [← ha.zero,hz]
     obtain ⟨hc,h⟩:=dQ h
     simp only [SB,Nat.ble_eq] at hc
     obtain ⟨⟨hl,hn1,hn2⟩,hs⟩:=hc
     have hl:=p9 _ _ hl
     obtain ⟨cs,hcs,h⟩:=xm h
     refine fO (w':={ w with heap:=w.heap.push (.cells ⟨cs⟩ e) }) ?_ (hE _ _ (Ev.push _ _)) (h _ _ rfl rfl)
     have hf:=fill_eq _ _ _ hcs
     have hzc:z.cells = ⟨cellsOf z⟩:=by rw [cT]
     have hsz:info.size = (cellsOf z).length:=by rw [hl,ha.size]
     have hlt:n * info.size≤16777216:=by
      have:n * info.size≤4096 * 4096:=Nat.mul_le_mul hn1 (by rw [← ha.size]; exact hn2)
      omega
     have hne:∀ hh:n * info.size = 0,n = 0:=fun hh=>by
      rcases Nat.mul_eq_zero.1 hh with h | h
      ·exact h
      ·rw [← ha.size] at h; omega
     simp only [execOp,Instr.buildSlice,Sem.run_bind,aN hd1,bU ha.inf,Result.andThen_ok,parts_eq]
     rw [Sr (by omega)]
     have hpl:(fun k=>some (k * i.size,i.size)) = (fun k=>some (k * info.size,info.size)):=by rw [ha.size]
     rw [hpl] at hf
     by_cases h00:n * info.size = 0
     ·have:=hne h00
      subst this
      have hf0:Instr.fill (fun i=>some (i * info.size,info.size)) ((Array.range 0).map fun _=>default) (yC fr ps.toList) = some ⟨cs⟩:=by
       rw [show ((Array.range 0).map fun _=>(default:Value)) = (⟨Ci 0 (cellsOf z)⟩ : Array Value) from by simp [Ci]]; exact hf
      simp [hf0,newRow]
     ·simp only [h00,if_false,Sem.run_bind,g_ ha.inf hz',Result.andThen_ok,Sem.run_pure,hzc]
      have hz2:=Ag (cellsOf z) n
      rw [← hsz] at hz2
      have:(⟨cellsOf z⟩ : Array Value).size = info.size:=by simp [hsz]
      rw [this,hz2,← EA,hf]
      simp [newRow]
    ·exact h.elim
   ·exact h.elim
  ·exact h.elim
 case store t a x =>
  split at h
  ·rename_i p i ha hi
   obtain ⟨ad,rfl,h⟩:=vl h
   obtain ⟨w',hr,hEv,hK⟩:=Nj hT hi h
   refine Ez (w':=w') ?_ (hE _ _ hEv) hK
   simp [execOp,Instr.storeAt,ha,Instr.sureAddr,hr]
  ·exact h.elim
 case convert s d x=>exact dz hE rfl h fun v w' h=>Sh.fu h
 case makeMap t r =>
  cases r with
  | some r=>exact h.elim
  | none =>
   refine fO (w':={ w with heap:=w.heap.push (.map #[] 0) }) ?_ (hE _ _ (Ev.push _ _)) (h _ _ rfl rfl)
   simp [execOp,Instr.makeMap]
 case makeSlice t l c =>
  split at h
  ·rename_i e hk
   obtain ⟨d1,hd1,hd1'⟩:=cX hT hk (by simp)
   rw [ga hd1'] at hd1
   split at h
   ·rename_i i k1 n1 k2 n2 hi hl hc
    obtain ⟨info,d,ha⟩:=qd hT hi
    obtain ⟨hb,h⟩:=dQ h
    unfold OS at h
    split at h
    ·rename_i z hz
     rw [hz] at hb
     simp only [SB,Nat.ble_eq] at hb
     obtain ⟨⟨hlen,hby⟩,hs⟩:=hb
     have hlen:=p9 _ _ hlen
     obtain ⟨⟨h1,rfl,h3⟩,hK⟩:=h
     have hz' : info.zero = some z:=by rw [← ha.zero,hz]
     have hzc:z.cells = ⟨cellsOf z⟩:=by rw [cT]
     have hsz:info.size = (cellsOf z).length:=by rw [hlen,ha.size]
     refine fO (w':={ w with heap:=w.heap.push (.cells ⟨gG n1.toNat (cellsOf z)⟩ e) }) ?_ (hE _ _ (Ev.push _ _)) (hK _ _ rfl rfl)
     have hb1:(1:Int)≤i.bytes:=by omega
     have hn1:n1≤140737488355328:=Int.le_trans (by have:=Int.mul_le_mul_of_nonneg_right hb1 h1; omega) h3
     have hw:IntKind.i64.wrap n1 = n1:=HE ⟨by omega,by omega⟩
     have h3' : (info.bytes:Int) * n1≤140737488355328:=by rw [← ha.bytes]; exact h3
     have hA:¬ n1 < 0:=by omega
     have hB:¬ (281474976710656:Int) < info.bytes * n1:=by omega
     have hz2:=Ag (cellsOf z) n1.toNat
     rw [← hsz] at hz2
     have hsz2:(⟨cellsOf z⟩ : Array Value).size = info.size:=by simp [hsz]
     have hne:n1.toNat * info.size = 0→n1.toNat = 0:=fun hh=>by
      rcases Nat.mul_eq_zero.1 hh with h | h
      ·exact h
      ·rw [← ha.size] at h; omega
     have e0:∀ f:Nat→Value,(Array.range 0).map f = #[]:=fun _=>by simp
     have hz3:Array.map (fun x=>(cellsOf z)[x % (cellsOf z).length]?.getD default) (Array.range (n1.toNat * info.size)) = ⟨(List.replicate n1.toNat (cellsOf z)).flatten⟩:=by
      rw [← hz2,hsz]; congr 1; funext k; simp
     by_cases h00:n1.toNat * info.size = 0
     ·have h01:=hne h00
      simp [execOp,Instr.makeSlice,aN hd1,hl,hc,asInt,asIntOf,Es ha.inf,bU ha.inf,hw,hA,hB,h01,gG,newRow,e0]
     ·simp [execOp,Instr.makeSlice,aN hd1,hl,hc,asInt,asIntOf,Es ha.inf,bU ha.inf,hw,hA,hB,newRow,h00,g_ ha.inf hz',hzc,HR]
      rw [hz3]
    ·exact h.elim
   ·exact h.elim
  ·exact h.elim
 case lookup t m k ok=>exact dz hE rfl h fun v w' h=>Sh.fu h
 case mapUpdate t m k x=>exact Ah hE rfl h fun v w' h=>h
 case insert t m k x=>exact Ah hE rfl h fun v w' h=>h
 case mapEntry t m k=>exact dz hE rfl h fun v w' h=>Sh.fu h
 case entryStore t m s x=>exact Ah hE rfl h fun v w' h=>h
 case range t x=>exact dz hE rfl h fun v w' h=>Sh.fu h
 case next it isS=>exact dz hE rfl h fun v w' h=>Gp h
 case entry it=>exact dz hE rfl h fun v w' h=>Jm h
 case typeAssert x t u ok=>exact dz hE rfl h fun v w' h=>Sh.fu h
 case call c =>
  obtain ⟨callee,args,argTypes⟩:=c
  have ha:args.map (ev fr) = ⟨BF fr args.toList⟩:=by rw [zY]; apply TF; simp
  cases callee with
  | value f=>exact Gq hF hE rfl h
  | invoke r m=>exact h.elim
  | builtin b =>
   dsimp only at h
   unfold R6 at h
   cases b <;> dsimp only at h <;> first | exact h.elim | skip
   case append=>exact dz (s:=Builtin.append_ argTypes type ⟨BF fr args.toList⟩) hE (by simp only [execOp,resolve,invoke,builtin,ha]; rfl) h fun v w' h=>Sh.fu h
   case copy=>exact dz (s:=Builtin.copy_ argTypes type ⟨BF fr args.toList⟩) hE (by simp only [execOp,resolve,invoke,builtin,ha]; rfl) h fun v w' h=>Sh.fu h
   case delete=>exact dz (s:=Builtin.delete_ argTypes type ⟨BF fr args.toList⟩) hE (by simp only [execOp,resolve,invoke,builtin,ha]; rfl) h fun v w' h=>h
   case clear=>exact dz (s:=Builtin.clear_ argTypes type ⟨BF fr args.toList⟩) hE (by simp only [execOp,resolve,invoke,builtin,ha]; rfl) h fun v w' h=>h
   case cap=>exact dz (s:=Builtin.cap_ argTypes type ⟨BF fr args.toList⟩) hE (by simp only [execOp,resolve,invoke,builtin,ha]; rfl) h fun v w' h=>Sh.fu h
theorem KP {w:World}:∀ (ad:Addr) (i:di) (k:Value→Prop),QA w ad i k→∃ v,(∀ w',w' = w→me w' ad i v)∧k v :=
 fun _ _ _ h=>let ⟨v,h1,h2⟩:=Et h; ⟨v,fun _ e=>e ▸ h1,h2⟩
theorem KQ {w:World}:∀ (s:Sem Value) (k:Value→Prop),RN P w s k→∃ v,(∀ w',w' = w→s.run P w' = .ok v w')∧k v :=
 fun _ _ ⟨v,h1,h2⟩=>⟨v,fun _ e=>by subst e; exact h1,h2⟩
theorem KR (hT:dy P Ty) (hF:vm P Fn) (hE:∀ a b,Ev a b→E a b) {o:Oper} {fr:Fr} {w:World} {K:Value→World→Prop} (h:HJ P Ty Fn E o fr w K):zK P E o (ev fr) w K:=by
 cases hs:gV Ty o with
 | true =>
  have h' : z7 P Ty (QA w) (RN P w) o fr (fun v=>K v w):=by simpa only [HJ,hs,cond_true] using h
  obtain ⟨v,h1,h2⟩:=yH hT KP KQ (C:=fun w'=>w' = w) h'
  exact fO (h1 w rfl) (hE _ _ (Ev.refl _)) h2
 | false =>
  have h' : KE P Ty Fn E o fr w K:=by simpa only [HJ,hs,cond_false] using h
  exact Cp hT hF hE h'
end
end Go.V
namespace Go.V
def wf (r:Option Nat):Fence:={ fn:=fun _=>True,depth:=none,alive:=false,round:=r }
def l5 (ws:List Nat) (fr fr' : Fr):Prop:=∀ t,t∉ws→dj fr' t = dj fr t
theorem l5.refl (ws:List Nat) (fr:Fr):l5 ws fr fr:=fun _ _=>rfl
theorem l5.mono {ws ws' : List Nat} {a b:Fr} (h:l5 ws a b) (hs:∀ x∈ws,x∈ws'):l5 ws' a b:=fun t ht=>h t fun hx=>ht (hs t hx)
theorem l5.trans {ws:List Nat} {a b c:Fr} (h:l5 ws a b) (k:l5 ws b c):l5 ws a c:=fun t ht=>(k t ht).trans (h t ht)
theorem l5.put {ws:List Nat} {N:Nat} {a b:Fr} (h:l5 ws a b) {d:Option Tmp} (v:Value) (hd:∀ x,d = some x→x∈ws):l5 ws a (V.put N b d v):=by
 intro t ht
 cases d with
 | none=>exact h t ht
 | some x=>rw [iW,Sr (fun (e:x = t∧x < N)=>ht (e.1 ▸ hd x rfl))]; exact h t ht

section
variable {P:Program} {Ty:TypeId→Option di} {Fn:FuncId→Bool} {E:World→World→Prop}
theorem semAt_eq {r:Option Nat} {ρ : Operand→Value} {o:Oper} (h:∀ c,o.op≠.defer c):o.semAt r ρ = execOp ρ o:=by
 cases r with
 | none=>rfl
 | some l=>exact Oper.semAt_some l ρ o h
theorem EB {o:Oper} {ρ : Operand→Value} {w:World} {K:Value→World→Prop} (h:zK P E o ρ w K):∀ c,o.op≠.defer c:=by
 intro c hc
 unfold zK at h
 simp only [execOp,hc,Sem.run_bind] at h
 cases hr:(resolve ρ c o.type).run P w with
 | ok d w'=>rw [hr] at h; simp at h
 | halt x w'=>rw [hr] at h; simp at h
theorem EC {r:Option Nat} {n:Nat} {o:Oper} {a:Act} {w:World} {next:Act→World→Prop} {Q:Exit→Act→World→Prop} (h:zK P E o a.eval w fun v w'=>next (a.put o.dst v) w'):o.wpIn (wf r) n P a w next Q:=by
 refine ⟨fun _ _=>trivial,?_⟩
 have he:o.semAt (wf r).round a.eval = execOp a.eval o:=semAt_eq (EB h)
 rw [he]
 unfold zK at h
 split at h
 ·rename_i v w' hr; rw [hr]; exact h.2
 ·rename_i w' hr; rw [hr]; exact h.2
 ·rename_i f args w' hr
  rw [hr]
  refine ⟨fun h=>(by cases h),?_⟩
  have hc:CallsIn Fence.wide (n - 1) P f args w' fun e w''=>∃ v,e = .returned v∧E w' w''∧next (a.put o.dst v) w'':=callsIn_wide.2 h.2
  exact CallsIn.mono (F:=wf r) hc fun e w'' ⟨v,he,_,hk⟩=>by subst he; exact hk
 ·rename_i l f tmps assign body w' hr
  rw [hr]
  refine ⟨fun h=>(by cases h),trivial,fun c cs _=>?_⟩
  obtain ⟨e,w'',⟨v,rfl,_,hk⟩,hs⟩:=h.2.2 c cs (room_wide _)
  exact ⟨.returned v,w'',hk,hs⟩
 ·exact h.elim
def fP (all:List Oper) (fr:Fr) (o:Oper):Bool :=
 match o.guard with
 | none=>true
 | some (j,t)=>match yD all j with
  | some d=>(match dj fr d with | .bool b=>HK b t | _=>false)
  | none=>false
theorem xn {all:List Oper} {fr:Fr} {o:Oper} {yes no:Prop}:Eo all fr o yes no↔(if fP all fr o = true then yes else no):=by
 unfold Eo fP
 cases o.guard with
 | none=>simp
 | some g =>
  obtain ⟨j,t⟩:=g
  cases hd:yD all j with
  | none=>simp [hd]
  | some d =>
   cases hv:dj fr d with
   | bool b=>simp only [hd,hv]; cases HK b t <;> simp
   | _=>simp [hd,hv]
theorem Da:∀ (l:List Oper) (n:Nat),Gh l n = l[n]?
 | [],n=>by simp [Gh]
 | o :: l,0=>by simp [Gh]
 | o :: l,n + 1=>by simp [Gh,Da l n]
theorem KS (a b:Bool):HK a b = (a == b):=by cases a <;> cases b <;> rfl
theorem Cq {N:Nat} {fr:Fr} (hf:Fits N fr) (ds:List Deferred) (all:List Oper) (o:Oper):Region.wanted o (yielded ⟨all⟩ (aP N fr ds).tmps) = fP all fr o:=by
 unfold Region.wanted fP
 cases hg:o.guard with
 | none=>rfl
 | some g =>
  obtain ⟨j,t⟩:=g
  have hd:yD all j = ((⟨all⟩ : Array Oper)[j]?).bind (·.dst):=by
   unfold yD; rw [Da]; simp only [List.getElem?_toArray]; cases all[j]? <;> rfl
  simp only [yielded,← hd]
  cases hdj:yD all j with
  | none=>rfl
  | some d =>
   simp only [Option.bind_some]
   have hget:(aP N fr ds).tmps[d]? = if d < N then some (dj fr d) else none:=by
    simp only [aP,List.getElem?_toArray,Sn]
    by_cases h:d < N
    ·simp [h]
    ·simp [h]
   rw [hget]
   by_cases h:d < N
   ·rw [Sz h]
    cases hv:dj fr d <;> simp [KS]
   ·rw [Sr h,hf d (TH h)]
    rfl
theorem qf {g:Bool} {v:Value} {k:Value→Prop} (h:z_ g v k):k v:=by
 unfold z_ at h
 split at h
 ·exact Je h
 ·exact h
theorem Cr (hT:dy P Ty) (hF:vm P Fn) (hE:C3 E) {N:Nat} {r:Option Nat} {n:Nat} {all:List Oper} {ds:List Deferred} {K:Fr→World→Prop} {Q:Exit→Act→World→Prop} :
  ∀ (l:List Oper) (i:Nat) (fr:Fr) (w:World),xj P Ty Fn E N all i l fr w K→Fits N fr →
   (∀ fr' w',Fits N fr'→l5 (dstsOf l) fr fr'→E w w'→K fr' w'→Q .normal (aP N fr' ds) w')→wpListIn (wf r) n P ⟨all⟩ Q l (aP N fr ds) w
 | [],i,fr,w,h,hf,hQ=>hQ fr w hf (l5.refl _ _) (hE.ofEv _ _ (Ev.refl w)) h
 | o :: l,i,fr,w,h,hf,hQ=>by
  have sub:∀ x,o.dst = some x→x∈dstsOf (o :: l):=fun x hx=>by simp [dstsOf,hx]
  have subl:∀ x∈dstsOf l,x∈dstsOf (o :: l):=fun x hx=>by
   unfold dstsOf; cases o.dst <;> simp [hx]
  have next:∀ v w',E w w'→xj P Ty Fn E N all (i + 1) l (put N fr o.dst v) w' K→wpListIn (wf r) n P ⟨all⟩ Q l ((aP N fr ds).put o.dst v) w':=fun v w' hew hd=>by
   rw [C4]
   exact Cr hT hF hE l (i + 1) _ w' hd (vg hf _ _) fun fr' w'' h1 h2 h3 h4 =>
    hQ fr' w'' h1 (((l5.refl _ fr).put v sub).trans (h2.mono subl)) (hE.trans hew h3) h4
  simp only [xj] at h
  rw [xn] at h
  simp only [wpListIn,Cq hf]
  by_cases hw:fP all fr o = true
  ·rw [Sz hw] at h ⊢
   have hs:=KR hT hF hE.ofEv h
   refine EC (E:=E) ?_
   rw [HD N fr ds hf]
   exact hs.mono (fun v w' hew hk=>next v w' hew (qf hk)) hE.trans
  ·rw [Sr hw] at h ⊢
   exact ⟨fun _ _=>trivial,next undef w (hE.ofEv _ _ (Ev.refl w)) h⟩
end
end Go.V
namespace Go.V
def ar (ls:List Bool):Array Bool:=⟨ls⟩
theorem Db:∀ (ls:List Bool) (i:Nat),Gi ls i = (ar ls).getD i true
 | [],i=>by simp [Gi,ar]
 | b :: l,0=>by simp [Gi,ar]
 | b :: l,n + 1=>by
  have:=Db l n
  simp only [Gi,this,ar]
  by_cases h:n < l.length <;> simp [h]
theorem ED:∀ (ls:List Bool) (i:Nat),Ck ls i = (ar ls).getD i false
 | [],i=>by simp [Ck,ar]
 | b :: l,0=>by simp [Ck,ar]
 | b :: l,n + 1=>by
  have:=ED l n
  simp only [Ck,this,ar]
  by_cases h:n < l.length <;> simp [h]
theorem Ai : ∀ (ls:List Bool) (i:Nat),eS ls i = ls.set i true
 | [],i=>by simp [eS]
 | b :: l,0=>by simp [eS]
 | b :: l,n + 1=>by simp [eS,Ai l n]
theorem sr (ls:List Bool) (i:Nat):ar (eS ls i) = (ar ls).setIfInBounds i true:=by
 rw [Ai]; apply TF; simp [ar]
theorem Jn (ls:List Bool) (i j:Nat):eS (eS ls i) j = eS (eS ls j) i:=by
 simp only [Ai]
 by_cases h:i = j
 ·subst h; rfl
 ·exact List.set_comm _ _ h
theorem Aj {ls:List Bool}:∀ {es:List Edge},Aa ls es = true↔∀ e∈es,Region.binds .any e = true→(ar ls).getD e.on false = true
 | []=>by simp [Aa]
 | e :: l=>by
  have ih:=Aj (ls:=ls) (es:=l)
  simp only [Aa,SB,ih,SA,forall_eq_or_imp]
  cases hg:e.ground <;> simp [Region.binds,hg,ED]
theorem Ct {i:Nat}:∀ {es:List Edge},waits i es = true↔∃ e∈es,Region.binds .any e = true∧e.on = i
 | []=>by simp [waits]
 | e :: l=>by
  have ih:=Ct (i:=i) (es:=l)
  simp only [waits,Tk,ih,SA,exists_eq_or_imp]
  cases hg:e.ground <;> simp [Region.binds,hg]
theorem gW {ls:List Bool} {i:Nat} {o:Oper}:Gj ls i o = true↔(ar ls).getD i true = false∧∀ e∈o.after,Region.binds .any e = true→(ar ls).getD e.on false = true:=by
 unfold Gj
 rw [SB,Aj,Db]
 simp
theorem Ak {ls:List Bool}:∀ {l:List Oper} {i:Nat} {x:Nat × Oper},x∈dI ls i l↔∃ k,x.1 = i + k∧l[k]? = some x.2∧Gj ls x.1 x.2 = true
 | [],i,x=>by simp [dI]
 | o :: l,i,x=>by
  have ih:=Ak (ls:=ls) (l:=l) (i:=i + 1) (x:=x)
  have:x∈dI ls i (o :: l)↔(x = (i,o)∧Gj ls i o = true)∨x∈dI ls (i + 1) l:=by
   simp only [dI]
   cases h:Gj ls i o <;> simp
  rw [this,ih]
  constructor
  ·rintro (⟨rfl,h⟩ | ⟨k,h1,h2,h3⟩)
   ·exact ⟨0,rfl,rfl,h⟩
   ·exact ⟨k + 1,by omega,by simpa using h2,h3⟩
  ·rintro ⟨k,h1,h2,h3⟩
   cases k with
   | zero=>exact .inl ⟨by obtain ⟨a,b⟩:=x; simp at h1 h2; simp [h1,h2],by obtain ⟨a,b⟩:=x; simp at h1 h2; subst h1; subst h2; exact h3⟩
   | succ k=>exact .inr ⟨k,by omega,by simpa using h2,h3⟩
theorem eW {ls:List Bool} {l:List Oper} {x:Nat × Oper}:x∈dI ls 0 l↔l[x.1]? = some x.2∧Gj ls x.1 x.2 = true:=by
 rw [Ak]
 constructor
 ·rintro ⟨k,h1,h2,h3⟩; rw [Tn] at h1; rw [h1]; exact ⟨h2,h1 ▸ h3⟩
 ·rintro ⟨h1,h2⟩; exact ⟨x.1,by omega,h1,h2⟩
theorem kY {ls:List Bool} {l:List Oper} {j:Nat}:j∈Region.ready .any ⟨l⟩ (ar ls)↔∃ o,(j,o)∈dI ls 0 l:=by
 rw [mem_ready]
 constructor
 ·rintro ⟨h0,o,ho,hd⟩
  exact ⟨o,eW.2 ⟨by simpa using ho,gW.2 ⟨h0,hd⟩⟩⟩
 ·rintro ⟨o,h⟩
  obtain ⟨h1,h2⟩:=eW.1 h
  obtain ⟨h3,h4⟩:=gW.1 h2
  exact ⟨h3,o,by simpa using h1,h4⟩
theorem Al {ls:List Bool} {i j:Nat} {o:Oper} (h:Gj ls j o = true) (hne:j≠i):Gj (eS ls i) j o = true:=by
 rw [gW] at *
 rw [sr]
 exact ⟨by rw [getD_set_ne true (TM hne)]; exact h.1,fun e he hb=>getD_set_true (h.2 e he hb)⟩
theorem HS:∀ l m,Na l m = l ++ m
 | [],_=>rfl
 | x :: l,m=>by simp [Na,HS l m]
theorem Dc:∀ l,Nb l = l.map (·.2)
 | []=>rfl
 | (a,x) :: l=>by simp [Nb,Dc l]
theorem KT (o:Op):∀ x,x∈KH o↔x∈o.operands:=by
 intro x
 cases o <;> simp only [KH,Op.operands] <;> try (simp; done)
 case build t ps=>simp [Dc]
 case buildSlice t n ps=>simp [Dc]
 case makeFunc fn a b=>simp [HS]
 case slice t y l h m=>cases l <;> cases h <;> cases m <;> simp [M_]
 case call c =>
  obtain ⟨callee,args,tys⟩:=c
  cases callee <;> simp [Call.operands]
theorem xp {t:Nat}:∀ {l:List Operand} {m:List Nat},t∈Cm l m↔Operand.tmp t∈l∨t∈m
 | [],m=>by simp [Cm]
 | x :: l,m=>by
  have ih:=xp (t:=t) (l:=l) (m:=m)
  cases x <;> simp [Cm,ih,or_assoc]
theorem vp {x:Nat}:∀ {l:List Nat},oO x l = true↔x∈l
 | []=>by simp [oO]
 | y :: l=>by simp [oO,vp (l:=l)]
theorem Jo {all:List Oper} {x y:Oper} (h:xk all x y = true) :
  (∀ d,x.dst = some d→d∉looks all y)∧(∀ d,x.dst = some d→y.dst≠some d)∧(∀ d,y.dst = some d→d∉looks all x):=by
 simp only [xk,SB] at h
 obtain ⟨⟨h1,h2⟩,h3⟩:=h
 refine ⟨fun d hd=>?_,fun d hd hy=>?_,fun d hd=>?_⟩
 ·rw [hd] at h1; simp only [C8,Tt] at h1
  intro hm; rw [vp.2 hm] at h1; cases h1
 ·rw [hd,hy] at h2; simp [OV] at h2
 ·rw [hd] at h3; simp only [C8,Tt] at h3
  intro hm; rw [vp.2 hm] at h3; cases h3
theorem Cu {all:List Oper} {ls:List Bool} {i:Nat} {o:Oper}:∀ {l:List Oper} {j:Nat},HM all ls i o j l = true→∀ k p,l[k]? = some p→j + k≠i→(ar ls).getD (j + k) true = false→waits i p.after.toList = false→xk all o p = true
 | [],j,h,k,p,hk,_,_,_=>by simp at hk
 | q :: l,j,h,k,p,hk,hne,hb,hw=>by
  simp only [HM,SB,Tk,Nat.beq_eq] at h
  cases k with
  | zero =>
   simp only [List.getElem?_cons_zero,Option.some.injEq] at hk
   subst hk
   rw [Nat.add_zero] at hne hb
   rw [Db] at h
   rcases h.1 with ((h1 | h1) | h1) | h1
   ·exact absurd h1 hne
   ·rw [hb] at h1; cases h1
   ·rw [hw] at h1; cases h1
   ·exact h1
  | succ k =>
   exact Cu h.2 k p (by simpa using hk) (by omega) (by rw [show j + 1 + k = j + (k + 1) by omega]; exact hb) hw
def ext (a b:Fr):Prop:=∀ t,dj a t = dj b t
theorem HT {N:Nat} {a b:Fr} (h:ext a b) (d:Option Tmp) (v:Value):ext (put N a d v) (put N b d v):=by
 intro t
 cases d with
 | none=>exact h t
 | some d=>rw [iW,iW,h t]
theorem put_comm {N:Nat} {a:Fr} {x y:Option Tmp} {v u:Value} (h:∀ d,x = some d→y≠some d):ext (put N (put N a x v) y u) (put N (put N a y u) x v):=by
 intro t
 cases x with
 | none=>rfl
 | some d =>
  cases y with
  | none=>rfl
  | some e =>
   have hne:d≠e:=fun he=>h d rfl (by rw [he])
   simp only [iW]
   by_cases h1:e = t
   ·subst h1
    simp [hne]
   ·rw [Sr (show ¬ (e = t∧e < N) from fun h=>h1 h.1)]
    by_cases h2:d = t∧d < N
    ·rw [Sz h2,Sz h2]
    ·rw [Sr h2,Sr h2,Sr (show ¬ (e = t∧e < N) from fun h=>h1 h.1)]
theorem Pl {a b:Fr} (h:ext a b):ev a = ev b:=by
 funext x; cases x <;> simp [ev,h _]
theorem Jp {all:List Oper} {a b:Fr} (h:ext a b) (o:Oper):fP all a o = fP all b o:=by
 unfold fP; simp only [h _]
theorem Gs {all:List Oper} {o:Oper} {t:Nat} (h:Operand.tmp t∈o.op.operands):t∈looks all o :=
 xp.2 (.inl ((KT o.op _).2 h))
theorem EE {all:List Oper} {N:Nat} {fr:Fr} {o:Oper} (hs:∀ cs b,o.op≠.select cs b) {d:Option Tmp} {v:Value} (h:∀ x,d = some x→x∉looks all o):execOp (ev (put N fr d v)) o = execOp (ev fr) o:=by
 refine execOp_congr o hs fun x hx=>?_
 cases x with
 | tmp t =>
  cases d with
  | none=>rfl
  | some e =>
   simp only [ev,iW]
   rw [Sr]
   rintro ⟨rfl,_⟩
   exact h e rfl (Gs hx)
 | _=>rfl
theorem EF {all:List Oper} {N:Nat} {fr:Fr} {o:Oper} {d:Option Tmp} {v:Value} (h:∀ x,d = some x→x∉looks all o):fP all (put N fr d v) o = fP all fr o:=by
 cases d with
 | none=>rfl
 | some e =>
  unfold fP
  cases hg:o.guard with
  | none=>rfl
  | some g =>
   obtain ⟨j,t⟩:=g
   dsimp only
   cases hd:yD all j with
   | none=>rfl
   | some d =>
    have hm:d∈looks all o:=by unfold looks; rw [hg]; simp only [hd]; exact xp.2 (.inr (by simp))
    simp only [iW]
    rw [Sr]
    rintro ⟨rfl,_⟩
    exact h e rfl hm
section
variable {P:Program} {Ty:TypeId→Option di} {Fn:FuncId→Bool} {E:World→World→Prop} {N:Nat} {C:World→Prop} {all:List Oper} {Kend:Fr→World→Prop}
theorem KU {o:Oper} {ρ ρ' : Operand→Value} {w:World} {K:Value→World→Prop} (he:execOp ρ o = execOp ρ' o) (h:zK P E o ρ w K):zK P E o ρ' w K:=by
 unfold zK at *; rw [← he]; exact h
def qg (P:Program) (Ty:TypeId→Option di) (E:World→World→Prop) (N:Nat) (C:World→Prop) (all:List Oper) (Kend:Fr→World→Prop):Nat→List Bool→Fr→World→Prop
 | 0,ls,fr,w=>dI ls 0 all = []∧Kend fr w
 | n + 1,ls,fr,w=>(dI ls 0 all = []→Kend fr w)∧∀ x∈dI ls 0 all,
   if fP all fr x.2 = true then zK P E x.2 (ev fr) w fun v w'=>cC (tV Ty all x.2.after.toList) (C w') (qg P Ty E N C all Kend n (eS ls x.1) (put N fr x.2.dst v) w')
   else qg P Ty E N C all Kend n (eS ls x.1) (put N fr x.2.dst undef) w
theorem Nk {b:Bool} {p q r:Prop} (h:cC b p q) (hq:q→r):cC b p r:=by
 cases b
 ·exact hq h
 ·exact ⟨h.1,hq h.2⟩
theorem Am (hE:C3 E) (hK:∀ a b w,ext a b→Kend a w→Kend b w):∀ (n:Nat) (ls:List Bool) (a b:Fr) (w:World),ext a b→qg P Ty E N C all Kend n ls a w→qg P Ty E N C all Kend n ls b w
 | 0,ls,a,b,w,he,h=>⟨h.1,hK a b w he h.2⟩
 | n + 1,ls,a,b,w,he,h=>by
  refine ⟨fun h0=>hK a b w he (h.1 h0),fun x hx=>?_⟩
  have:=h.2 x hx
  rw [Jp he] at this
  split
  ·rename_i hw
   rw [Sz hw] at this
   rw [← Pl he]
   exact this.mono (fun v w' _ hk=>Nk hk fun hk=>Am hE hK n _ _ _ w' (HT he _ _) hk) hE.trans
  ·rename_i hw
   rw [Sr hw] at this
   exact Am hE hK n _ _ _ w (HT he _ _) this
def Cl (all:List Oper) (ls:List Bool):Prop:=∀ j o,all[j]? = some o→(ar ls).getD j false = true→∀ e∈o.after,Region.binds .any e = true→(ar ls).getD e.on false = true
theorem xq {i:Nat}:∀ {es:List Edge} {m:List Nat},i∈yE es m↔(∃ e∈es,Region.binds .any e = true∧e.on = i)∨i∈m
 | [],m=>by simp [yE]
 | e :: l,m=>by
  have ih:=xq (i:=i) (es:=l) (m:=m)
  have e1:(∃ x∈e :: l,Region.binds .any x = true∧x.on = i)↔(Region.binds .any e = true∧e.on = i)∨∃ x∈l,Region.binds .any x = true∧x.on = i:=by
   simp only [SA,exists_eq_or_imp]
  rw [e1,or_assoc,← ih]
  have hb:Region.binds .any e = (match e.ground with | .textOnly _ | .gcOnly _=>false | _=>true):=by
   cases hg:e.ground <;> simp [Region.binds,hg]
  rw [hb]
  conv=>lhs; unfold yE
  cases hg:e.ground <;> simp [eq_comm]
theorem uc {ls:List Bool} (hcl:Cl all ls):∀ (n:Nat) (todo done:List Nat),(∀ j∈todo,(ar ls).getD j false = true)→(∀ j∈done,(ar ls).getD j false = true)→∀ j∈QC all n todo done,(ar ls).getD j false = true
 | 0,_,done,_,h2,j,hj=>h2 j hj
 | n + 1,[],done,_,h2,j,hj=>h2 j hj
 | n + 1,k :: todo,done,h1,h2,j,hj=>by
  unfold QC at hj
  have hk:=h1 k (by simp)
  split at hj
  ·exact uc hcl n todo done (fun j hj=>h1 j (by simp [hj])) h2 j hj
  ·refine uc hcl n _ _ (fun j hj=>?_) (fun j hj=>?_) j hj
   ·split at hj
    ·rename_i o ho
     rw [Da] at ho
     rcases xq.1 hj with ⟨e,he,hb,rfl⟩ | hj
     ·exact hcl k o ho hk e (by simpa using he) hb
     ·exact h1 j (by simp [hj])
    ·exact h1 j (by simp [hj])
   ·rcases SA.1 hj with rfl | hj
    ·exact hk
    ·exact h2 j hj
theorem yI {cl:List Nat}:∀ {l:List Oper} {j:Nat},HN Ty cl j l = false→∀ k o,l[k]? = some o→gV Ty o = true→j + k∈cl
 | [],j,_,k,o,hk,_=>by simp at hk
 | q :: l,j,h,k,o,hk,hs=>by
  simp only [HN,Bool.or_eq_false_iff,Bool.and_eq_false_iff,Bool.not_eq_false'] at h
  cases k with
  | zero =>
   simp only [List.getElem?_cons_zero,Option.some.injEq] at hk
   subst hk
   rcases h.1 with h1 | h1
   ·rw [hs] at h1; cases h1
   ·exact vp.1 h1
  | succ k=>have:=yI h.2 k o (by simpa using hk) hs; rwa [show j + 1 + k = j + (k + 1) by omega] at this
theorem yJ {ls:List Bool} {i:Nat} {oi:Oper} (hcl:Cl all ls) (hr:Gj ls i oi = true) (h:tV Ty all oi.after.toList = false) (k:Nat) (o:Oper) (hk:all[k]? = some o) (hs:gV Ty o = true):(ar ls).getD k false = true:=by
 have h1:=yI h k o hk hs
 rw [Tn] at h1
 refine uc hcl _ _ _ (fun j hj=>?_) (fun j hj=>by cases hj) k h1
 rcases xq.1 hj with ⟨e,he,hb,rfl⟩ | hj
 ·exact (gW.1 hr).2 e (by simpa using he) hb
 ·cases hj
theorem Cl.set {ls:List Bool} {i:Nat} {oi:Oper} (hcl:Cl all ls) (hi:all[i]? = some oi) (hr:Gj ls i oi = true):Cl all (eS ls i):=by
 intro j o hj hl e he hb
 rw [sr] at hl ⊢
 by_cases hji:i = j
 ·subst hji
  rw [hi] at hj; cases hj
  exact getD_set_true ((gW.1 hr).2 e he hb)
 ·rw [getD_set_ne false hji] at hl
  exact getD_set_true (hcl j o hj hl e he hb)
theorem Jq {ls:List Bool} {i j:Nat} {oj:Oper} (hi:(ar ls).getD i true = false) (hj:Gj ls j oj = true):waits i oj.after.toList = false:=by
 cases hw:waits i oj.after.toList with
 | false=>rfl
 | true =>
  obtain ⟨e,he,hb,rfl⟩:=Ct.1 hw
  have h1:=(gW.1 hj).2 e (by simpa using he) hb
  rcases Nat.lt_or_ge e.on (ar ls).size with h' | h'
  ·simp [h'] at h1 hi; rw [hi] at h1; cases h1
  ·simp [Array.getElem?_eq_none h'] at h1
theorem An (hE:C3 E) (hK:∀ a b w,ext a b→Kend a w→Kend b w) (hsel:∀ (k:Nat) (o:Oper) cs b,all[k]? = some o→o.op≠.select cs b)
  {i:Nat} {oi:Oper} {v:Value} (hi:all[i]? = some oi) (hst:gV Ty oi = true):∀ (n:Nat) (ls:List Bool) (fr:Fr) (w:World),Cl all ls →
   (∀ j oj,all[j]? = some oj→j≠i→(ar ls).getD j true = false→waits i oj.after.toList = false→xk all oi oj = true) →
   Gj ls i oi = true→((fP all fr oi = true∧∀ w,C w→(execOp (ev fr) oi).run P w = .ok (.value v) w)∨(fP all fr oi = false∧v = undef))→C w →
   qg P Ty E N C all Kend n (eS ls i) (put N fr oi.dst v) w→qg P Ty E N C all Kend (n + 1) ls fr w:=by
 have same:∀ (n:Nat) (ls:List Bool) (fr:Fr) (w:World),((fP all fr oi = true∧∀ w,C w→(execOp (ev fr) oi).run P w = .ok (.value v) w)∨(fP all fr oi = false∧v = undef))→C w →
   qg P Ty E N C all Kend n (eS ls i) (put N fr oi.dst v) w →
   (if fP all fr oi = true then zK P E oi (ev fr) w fun v w'=>cC (tV Ty all oi.after.toList) (C w') (qg P Ty E N C all Kend n (eS ls i) (put N fr oi.dst v) w')
    else qg P Ty E N C all Kend n (eS ls i) (put N fr oi.dst undef) w):=by
  intro n ls fr w hy hC H
  rcases hy with ⟨hw,hv⟩ | ⟨hw,rfl⟩
  ·rw [Sz hw]
   refine fO (hv w hC) (hE.ofEv _ _ (Ev.refl w)) ?_
   cases tV Ty all oi.after.toList
   ·exact H
   ·exact ⟨hC,H⟩
  ·rw [hw]; exact H
 intro n
 induction n with
 | zero =>
  intro ls fr w hcl hfree hr hy hC H
  have hmem:(i,oi)∈dI ls 0 all:=eW.2 ⟨hi,hr⟩
  refine ⟨fun h=>(by rw [h] at hmem; cases hmem),fun x hx=>?_⟩
  obtain ⟨hx1,hx2⟩:=eW.1 hx
  by_cases hji:x.1 = i
  ·have:x.2 = oi:=by rw [hji,hi] at hx1; exact (Option.some.inj hx1).symm
   rw [this,hji]; exact same 0 ls fr w hy hC H
  ·have:x∈dI (eS ls i) 0 all:=eW.2 ⟨hx1,Al hx2 hji⟩
   rw [H.1] at this; cases this
 | succ n ih =>
  intro ls fr w hcl hfree hr hy hC H
  have hmem:(i,oi)∈dI ls 0 all:=eW.2 ⟨hi,hr⟩
  refine ⟨fun h=>(by rw [h] at hmem; cases hmem),fun x hx=>?_⟩
  obtain ⟨hx1,hx2⟩:=eW.1 hx
  by_cases hji:x.1 = i
  ·have:x.2 = oi:=by rw [hji,hi] at hx1; exact (Option.some.inj hx1).symm
   rw [this,hji]; exact same (n + 1) ls fr w hy hC H
  ·have h1:=H.2 x (eW.2 ⟨hx1,Al hx2 hji⟩)
   have hun:(ar ls).getD i true = false:=(gW.1 hr).1
   have hnw:=Jq hun hx2
   have hap:=hfree x.1 x.2 hx1 hji (gW.1 hx2).1 hnw
   obtain ⟨a1,a2,a3⟩:=Jo hap
   have hneed:tV Ty all x.2.after.toList = true:=by
    cases hn:tV Ty all x.2.after.toList with
    | true=>rfl
    | false =>
     have h':=yJ hcl hx2 hn i oi hi hst
     rcases Nat.lt_or_ge i (ar ls).size with h'' | h''
     ·simp [h''] at h' hun; rw [hun] at h'; cases h'
     ·simp [Array.getElem?_eq_none h''] at h'
   have keep:∀ u,((fP all (put N fr x.2.dst u) oi = true∧∀ w,C w→(execOp (ev (put N fr x.2.dst u)) oi).run P w = .ok (.value v) w)∨(fP all (put N fr x.2.dst u) oi = false∧v = undef)):=fun u=>by
    rw [EF a3,EE (all:=all) (hsel i oi · · hi) a3]; exact hy
   have hfree' : ∀ j oj,all[j]? = some oj→j≠i→(ar (eS ls x.1)).getD j true = false→waits i oj.after.toList = false→xk all oi oj = true:=fun j oj h1 h2 h3 h4=>by
    refine hfree j oj h1 h2 ?_ h4
    rw [sr] at h3
    by_cases hjx:x.1 = j
    ·subst hjx; exact (gW.1 hx2).1
    ·rw [getD_set_ne true hjx] at h3; exact h3
   have go:∀ u w',C w'→qg P Ty E N C all Kend n (eS (eS ls i) x.1) (put N (put N fr oi.dst v) x.2.dst u) w'→qg P Ty E N C all Kend (n + 1) (eS ls x.1) (put N fr x.2.dst u) w':=fun u w' hC' hA=>by
    refine ih (eS ls x.1) (put N fr x.2.dst u) w' (hcl.set hx1 hx2) hfree' (Al hr (TM hji)) (keep u) hC' ?_
    rw [Jn]
    exact Am hE hK n _ _ _ w' (put_comm a2) hA
   rw [EF a1] at h1
   split
   ·rename_i hw
    rw [Sz hw] at h1
    have h2:=KU (EE (all:=all) (hsel x.1 x.2 · · hx1) a1) h1
    refine h2.mono (fun u w' _ hk=>?_) hE.trans
    rw [hneed] at hk ⊢
    exact ⟨hk.1,go u w' hk.1 hk.2⟩
   ·rename_i hw
    rw [Sr hw] at h1
    exact go undef w hC h1
theorem oK {ls:List Bool}:∀ {l:List Oper} {i:Nat} {x:Nat × Oper},jz Ty ls i l = some x→∃ k,x.1 = i + k∧l[k]? = some x.2∧gV Ty x.2 = true∧Gj ls x.1 x.2 = true
 | [],i,x,h=>by simp [jz] at h
 | o :: l,i,x,h=>by
  simp only [jz,Bool.cond_eq_ite] at h
  split at h
  ·rename_i hc
   cases h
   simp only [SB] at hc
   exact ⟨0,rfl,rfl,hc.1,hc.2⟩
  ·obtain ⟨k,h1,h2,h3⟩:=oK h
   exact ⟨k + 1,by omega,by simpa using h2,h3⟩
theorem EG {f:Nat × Oper→Prop}:∀ {l:List (Nat × Oper)},Pg l f→∀ x∈l,f x
 | [],_,x,hx=>by cases hx
 | [y],h,x,hx=>by simp at hx; rw [hx]; exact h
 | y :: z :: l,h,x,hx=>by
  obtain ⟨h1,h2⟩:=h
  rcases SA.1 hx with rfl | hx
  ·exact h1
  ·exact EG h2 x hx
theorem zL (hE:C3 E) {C C' : World→Prop} (hC:∀ w,C' w→C w):∀ (n:Nat) (ls:List Bool) (fr:Fr) (w:World),qg P Ty E N C' all Kend n ls fr w→qg P Ty E N C all Kend n ls fr w
 | 0,ls,fr,w,h=>by
  unfold qg at h ⊢
  exact h
 | n + 1,ls,fr,w,h=>by
  refine ⟨h.1,fun x hx=>?_⟩
  have h1:=h.2 x hx
  split
  ·rename_i hw
   rw [Sz hw] at h1
   refine h1.mono (fun v w' _ hk=>?_) hE.trans
   cases hn:tV Ty all x.2.after.toList with
   | true=>rw [hn] at hk; exact ⟨hC _ hk.1,zL hE hC n _ _ w' hk.2⟩
   | false=>rw [hn] at hk; exact zL hE hC n _ _ w' hk
  ·rename_i hw
   rw [Sr hw] at h1
   exact zL hE hC n _ _ w h1
theorem gI (hT:dy P Ty) (hF:vm P Fn) (hE:C3 E) {K0:Fr→World→Prop} (hsub:∀ fr w,K0 fr w→Kend fr w) (hK:∀ a b w,ext a b→Kend a w→Kend b w) (hsel:∀ (k:Nat) (o:Oper) cs b,all[k]? = some o→o.op≠.select cs b) :
  ∀ (n:Nat) (C:World→Prop) (ls:List Bool) (fr:Fr) (w:World),Cl all ls→(C w∨∀ k o,all[k]? = some o→gV Ty o = true→(ar ls).getD k true = true)→yF P Ty Fn E N C all K0 n ls fr w→qg P Ty E N C all Kend n ls fr w
 | 0,C,ls,fr,w,_,_,h=>by
  unfold yF at h
  split at h
  ·rename_i h0; exact ⟨h0,hsub _ _ h⟩
  ·exact h.elim
 | n + 1,C,ls,fr,w,hcl,hinv,h=>by
  have listed:∀ j,(C w∨∀ k o,all[k]? = some o→gV Ty o = true→(ar (eS ls j)).getD k true = true):=fun j=>by
   rcases hinv with h | h
   ·exact .inl h
   ·refine .inr fun k o hk hs=>?_
    rw [sr]
    by_cases hjk:j = k
    ·subst hjk
     by_cases hlt:j < (ar ls).size
     ·simp [hlt]
     ·have:(ar ls).setIfInBounds j true = ar ls:=by simp [Array.setIfInBounds,hlt]
      rw [this]; exact h j o hk hs
    ·rw [getD_set_ne true hjk]; exact h k o hk hs
  unfold yF at h
  split at h
  ·rename_i i o hfs
   obtain ⟨k,hk1,hk2,hst,hr⟩:=oK hfs
   rw [Tn] at hk1
   dsimp only at hk1 hk2 hst hr
   subst hk1
   obtain ⟨hfr,h⟩:=bR.1 h
   have hC:C w:=hinv.resolve_right fun h=>by
    have h1:=h i o hk2 hst
    have h2:=(gW.1 hr).1
    rw [h1] at h2; cases h2
   have hfree:=fun j oj h1 h2 h3 h4=>Cu hfr j oj h1 (by rw [Tn]; exact h2) (by rw [Tn]; exact h3) h4
   rw [xn] at h
   by_cases hw:fP all fr o = true
   ·rw [Sz hw] at h
    obtain ⟨v,h1,h2⟩:=yH hT (C:=C) (fun _ _ _ h=>KK h) (fun _ _ h=>h) h
    exact An hE hK hsel hk2 hst n ls fr w hcl hfree hr (.inl ⟨hw,h1⟩) hC (gI hT hF hE hsub hK hsel n _ _ _ w (hcl.set hk2 hr) (.inl hC) (qf h2))
   ·rw [Sr hw] at h
    exact An hE hK hsel hk2 hst n ls fr w hcl hfree hr (.inr ⟨by simpa using hw,rfl⟩) hC (gI hT hF hE hsub hK hsel n _ _ _ w (hcl.set hk2 hr) (.inl hC) h)
  ·split at h
   ·rename_i h0
    exact ⟨fun _=>hsub _ _ h,fun x hx=>by rw [h0] at hx; cases hx⟩
   ·rename_i es hne
    refine ⟨fun h0=>absurd h0 hne,fun x hx=>?_⟩
    have h1:=EG h x hx
    rw [xn] at h1
    obtain ⟨hx1,hx2⟩:=eW.1 hx
    split
    ·rename_i hw
     rw [Sz hw] at h1
     refine (Cp hT hF hE.ofEv h1).mono (fun v w' _ hk=>?_) hE.trans
     have hk:=qf hk
     cases hn:tV Ty all x.2.after.toList with
     | true =>
      rw [hn] at hk
      unfold R7 at hk
      dsimp only at hk
      split at hk
      ·obtain ⟨C',k1,k2,k3⟩:=hk
       exact ⟨k2 _ k1,zL hE k2 n _ _ w' (gI hT hF hE hsub hK hsel n C' _ _ w' (hcl.set hx1 hx2) (.inl k1) k3)⟩
      ·exact ⟨hk.1,gI hT hF hE hsub hK hsel n _ _ _ w' (hcl.set hx1 hx2) (.inl hk.1) hk.2⟩
     | false =>
      rw [hn] at hk
      refine gI hT hF hE hsub hK hsel n _ _ _ w' (hcl.set hx1 hx2) (.inr fun k o hk' hs=>?_) hk
      have h2:=yJ hcl hx2 hn k o hk' hs
      have h3:(ar (eS ls x.1)).getD k false = true:=by rw [sr]; exact getD_set_true h2
      rcases Nat.lt_or_ge k (ar (eS ls x.1)).size with h' | h'
      ·simp [h'] at h3 ⊢; exact h3
      ·simp [Array.getElem?_eq_none h'] at h3
    ·rename_i hw
     rw [Sr hw] at h1
     exact gI hT hF hE hsub hK hsel n _ _ _ w (hcl.set hx1 hx2) (listed _) h1
end
end Go.V
namespace Go.V
def Kp (D:Nat):Deferred:={ target:=.collected D,args:=#[] }
def Mk (rf:Bool) (w0 w:World) (ds:List Deferred):Prop:=(rf = false→ds = [])∧∃ Ds:List Nat,ds = Ds.map Kp∧Ds.Nodup∧∀ D∈Ds,w0.heap.size≤D∧w.heap[D]? = some (Obj.deferred (some []))
theorem Mk.nil {rf:Bool} (w0 w:World):Mk rf w0 w []:=⟨fun _=>rfl,[],rfl,List.nodup_nil,fun _ h=>by cases h⟩
section
variable {P:Program} {Ty:TypeId→Option di} {Fn:FuncId→Bool} {E:World→World→Prop} {rf:Bool}
theorem Mk.trans (hE:C3 E) {w0 w1 w2:World} {d1 d2:List Deferred} (h0:E w0 w1) (h12:E w1 w2) (h1:Mk rf w0 w1 d1) (h2:Mk rf w1 w2 d2):Mk rf w0 w2 (d2 ++ d1):=by
 obtain ⟨e1,D1,rfl,n1,p1⟩:=h1
 obtain ⟨e2,D2,rfl,n2,p2⟩:=h2
 refine ⟨fun h=>(by rw [e1 h,e2 h]; rfl),D2 ++ D1,by simp,?_,?_⟩
 ·rw [SX]
  refine ⟨n2,n1,fun a ha b hb hab=>?_⟩
  subst hab
  have h1:=(p2 a ha).1
  have h2:=(S3.1 (p1 a hb).2).1
  omega
 ·intro D hD
  rcases Sp.1 hD with h | h
  ·exact ⟨SK (hE.size h0) (p2 D h).1,(p2 D h).2⟩
  ·exact ⟨(p1 D h).1,hE.dfr h12 _ _ (p1 D h).2⟩
def QN (rf:Bool) (E:World→World→Prop) (N:Nat) (ws:List Nat) (fr0:Fr) (w0:World) (ds:List Deferred) (n r:Fr→World→Prop) (x:Nat→Fr→World→Prop):Exit→Act→World→Prop
 | .normal,a,w=>∃ fr ds',a = aP N fr (ds' ++ ds)∧Fits N fr∧l5 ws fr0 fr∧E w0 w∧Mk rf w0 w ds'∧n fr w
 | .ret,a,w=>∃ fr ds',a = aP N fr (ds' ++ ds)∧Fits N fr∧l5 ws fr0 fr∧E w0 w∧Mk rf w0 w ds'∧r fr w
 | .exit i,a,w=>∃ fr ds',a = aP N fr (ds' ++ ds)∧Fits N fr∧l5 ws fr0 fr∧E w0 w∧Mk rf w0 w ds'∧x i fr w
 | _,_,_=>False
theorem QN.mono {N:Nat} {ws ws' : List Nat} {fr0:Fr} {w0:World} {ds:List Deferred} {n r n' r' : Fr→World→Prop} {x x' : Nat→Fr→World→Prop}
  (hs:∀ t∈ws,t∈ws') (hn:∀ fr w,l5 ws fr0 fr→E w0 w→n fr w→n' fr w) (hr:∀ fr w,r fr w→r' fr w) (hx:∀ i fr w,x i fr w→x' i fr w) {e:Exit} {a:Act} {w:World}
  (h:QN rf E N ws fr0 w0 ds n r x e a w):QN rf E N ws' fr0 w0 ds n' r' x' e a w:=by
 cases e <;> try exact h.elim
 all_goals (obtain ⟨fr,ds',h1,h2,h3,h4,h5,h6⟩:=h)
 ·exact ⟨fr,ds',h1,h2,h3.mono hs,h4,h5,hn fr w h3 h4 h6⟩
 ·exact ⟨fr,ds',h1,h2,h3.mono hs,h4,h5,hx _ fr w h6⟩
 ·exact ⟨fr,ds',h1,h2,h3.mono hs,h4,h5,hr fr w h6⟩
theorem QN.later (hE:C3 E) {N:Nat} {ws ws' : List Nat} {fr0 fr1:Fr} {w0 w1:World} {ds d1:List Deferred} {n r:Fr→World→Prop} {x:Nat→Fr→World→Prop}
  (hs:∀ t∈ws',t∈ws) (ha:l5 ws fr0 fr1) (he:E w0 w1) (hm:Mk rf w0 w1 d1) {e:Exit} {a:Act} {w:World}
  (h:QN rf E N ws' fr1 w1 (d1 ++ ds) n r x e a w):QN rf E N ws fr0 w0 ds n r x e a w:=by
 cases e <;> try exact h.elim
 all_goals
  obtain ⟨fr,ds',h1,h2,h3,h4,h5,h6⟩:=h
  exact ⟨fr,ds' ++ d1,by rw [h1,SI],h2,ha.trans (h3.mono hs),hE.trans he h4,Mk.trans hE he h4 hm h5,h6⟩

theorem Dd:∀ l m,Gg l m = l ++ m
 | [],_=>rfl
 | x :: l,m=>by simp [Gg,Dd l m]
theorem HU (a b:Code):nt (.seq a b) = nt a ++ nt b:=by simp [nt,Dd]
theorem EH (c:Operand) (a b:Code):nt (.cond c a b) = nt a ++ nt b:=by simp [nt,Dd]

def KV (c:Cs) (v:Value):Prop:=∀ f:Value→Prop,c.all f→f v
theorem Cs.De {β : Type} (c:Cs) (b:β) (v:Value):c.ap (c.M9 b) v b = b:=by
 cases c <;> cases v <;> simp only [Cs.ap,Cs.M9] <;> try rfl
 ·rename_i k k' n; cases Nat.beq (kx k) (kx k') <;> rfl
 ·rename_i fn first cap; cases fn <;> try rfl
  obtain ⟨first⟩:=first; obtain ⟨cap⟩:=cap; cases first <;> rfl
theorem Cs.vq {β : Type} {c:Cs} {g:c.arr β} {v:Value} {d:β} (D:β→Prop) (hd:¬ D d) (h:D (c.ap g v d)):KV c v:=by
 intro f ha
 cases c <;> cases v <;> simp only [Cs.ap] at h <;> try exact absurd h hd
 case int.int k k' n =>
  cases hb:Nat.beq (kx k) (kx k') <;> rw [hb] at h
  ·exact absurd h hd
  ·rw [← Ky hb]; exact ha n
 case fn.func fn first cap =>
  cases fn <;> try exact absurd h hd
  obtain ⟨first⟩:=first
  obtain ⟨cap⟩:=cap
  cases first
  ·exact ha _ _
  ·exact absurd h hd
 all_goals (first | exact ha _ | exact ha _ _ _)
theorem Df {β : Type} (d:β):∀ (l:List Cs) (vs:List Value),QB l (Gf l d) vs d = d
 | [],[]=>rfl
 | [],_ :: _=>rfl
 | c :: l,[]=>rfl
 | c :: l,v :: vs=>by
  show QB l (c.ap (c.M9 (Gf l d)) v (Gf l d)) vs d = d
  rw [Cs.De]; exact Df d l vs
theorem Cv {β : Type} (d:β) (D:β→Prop) (hd:¬ D d):∀ {l:List Cs} {g:Jg l β} {vs:List Value},D (QB l g vs d)→∀ f:List Value→Prop,M6 l f→f vs
 | [],g,[],_=>fun f ha=>ha
 | [],g,v :: vs,h=>absurd h hd
 | c :: l,g,[],h=>absurd h hd
 | c :: l,g,v :: vs,h=>fun f ha=>by
  have h1:KV c v:=Cs.vq (β:=Jg l β) (g:=g) (d:=Gf l d) (fun k=>D (QB l k vs d)) (by rw [Df]; exact hd) h
  exact Cv d D hd (l:=l) h (fun vs=>f (v :: vs)) (h1 _ ha)
theorem S1.De {β : Type} (c:S1) (b:β) (v:Value):c.ap (c.M9 b) v b = b:=by
 cases c with
 | one c=>cases v <;> exact Cs.De c b _
 | agg l=>cases v <;> first | exact Df b l _ | rfl
theorem S1.vq {β : Type} {c:S1} {g:c.arr β} {v:Value} {d:β} (D:β→Prop) (hd:¬ D d) (h:D (c.ap g v d)):∀ f:Value→Prop,c.all f→f v:=by
 cases c with
 | one c=>exact Cs.vq D hd (by cases v <;> exact h)
 | agg l =>
  cases v <;> try exact absurd h hd
  rename_i cs
  intro f ha
  obtain ⟨cs⟩:=cs
  exact Cv d D hd (l:=l) h (fun vs=>f (.agg ⟨vs⟩)) ha
theorem HV {β : Type} (d:β):∀ (l:List S1) (vs:List Value),Cj l (Jh l d) vs d = d
 | [],[]=>rfl
 | [],_ :: _=>rfl
 | c :: l,[]=>rfl
 | c :: l,v :: vs=>by
  show Cj l (c.ap (c.M9 (Jh l d)) v (Jh l d)) vs d = d
  rw [S1.De]; exact HV d l vs
theorem xr {β : Type} (d:β) (D:β→Prop) (hd:¬ D d):∀ {l:List S1} {g:z8 l β} {vs:List Value},D (Cj l g vs d)→∀ f:List Value→Prop,Em l f→f vs
 | [],g,[],_=>fun f ha=>ha
 | [],g,v :: vs,h=>absurd h hd
 | c :: l,g,[],h=>absurd h hd
 | c :: l,g,v :: vs,h=>fun f ha=>by
  have h1:=S1.vq (β:=z8 l β) (c:=c) (g:=g) (v:=v) (d:=Jh l d) (fun k=>D (Cj l k vs d)) (by rw [HV]; exact hd) h
  exact xr d D hd (l:=l) h (fun vs=>f (v :: vs)) (h1 _ ha)
theorem xt {N:Nat} {d:Nat→Value} (t:Nat) (ht:t < N):∀ (ws:List Nat) (fr:Fr),(∀ s,dj fr s = d s∨s∉ws)∨True→dj (l_ N d ws fr) t = if t∈ws then d t else dj fr t
 | [],fr,_=>by simp [l_]
 | s :: ws,fr,_=>by
  rw [l_,xt t ht ws _ (.inr trivial)]
  by_cases h:t∈ws
  ·simp [h]
  ·rw [Sr h,iW]
   by_cases hs:s = t
   ·subst hs; simp [ht]
   ·have hs' : t≠s:=fun e=>hs e.symm
    simp [hs,hs',h]
theorem Ao {N:Nat} (t:Nat) (ht:t < N) (fr2:Fr):∀ (lv:List (Nat × S1)) (fr:Fr),dj (iY N fr lv (oN fr2 lv)) t = if t∈lv.map (·.1) then dj fr2 t else dj fr t
 | [],fr=>by simp [iY,oN]
 | (s,c) :: lv,fr=>by
  rw [oN,iY,Ao t ht fr2 lv]
  by_cases h:t∈lv.map (·.1)
  ·have:t∈((s,c) :: lv).map (·.1):=by simp only [S0,SA]; exact .inr h
   rw [Sz h,Sz this]
  ·rw [Sr h,iW]
   by_cases hs:s = t
   ·subst hs; simp [ht]
   ·have hs' : t≠s:=fun e=>hs e.symm
    have:t∉((s,c) :: lv).map (·.1):=by simp only [S0,SA]; rintro (h1 | h1); exact hs' h1; exact h h1
    rw [Sr this,Sr (fun e:s = t∧s < N=>hs e.1)]
theorem jA {N:Nat} {d:Nat→Value}:∀ (ws:List Nat) {fr:Fr},Fits N fr→Fits N (l_ N d ws fr)
 | [],_,h=>h
 | s :: ws,_,h=>jA ws (vg h _ _)
theorem jr {N:Nat}:∀ (lv:List (Nat × S1)) (vs:List Value) {fr:Fr},Fits N fr→Fits N (iY N fr lv vs)
 | [],_,_,h=>h
 | (s,c) :: lv,[],_,h=>h
 | (s,c) :: lv,v :: vs,_,h=>jr lv vs (vg h _ _)
theorem Ap {N:Nat} {ws:List Nat} {fr fr2:Fr} (lv:List (Nat × S1)) (ds:List Deferred) (ha:l5 ws fr fr2) :
  aP N (iY N (l_ N (dj fr2) ws fr) lv (oN fr2 lv)) ds = aP N fr2 ds:=by
 refine yA ds fun t ht=>?_
 rw [Ao t ht]
 split
 ·rfl
 ·rw [xt t ht ws fr (.inr trivial)]
  split
  ·rfl
  ·rename_i h; exact (ha t h).symm
end
end Go.V
namespace Go.V
section
variable {P:Program} {Ty:TypeId→Option di} {Fn:FuncId→Bool} {E:World→World→Prop} {N:Nat} {ro:Option Nat} {k:Nat}
theorem xu {ws:List Nat} {fr fr2:Fr} (lv:List (Nat × S1)) (hf:Fits N fr) (ha:l5 ws fr fr2):l5 ws fr (iY N (l_ N (dj fr2) ws fr) lv (oN fr2 lv)):=by
 intro t ht
 by_cases hN:t < N
 ·rw [Ao t hN]
  split
  ·exact ha t ht
  ·rw [xt t hN ws fr (.inr trivial),Sr ht]
 ·rw [jr lv _ (jA ws hf) t (TH hN),hf t (TH hN)]
theorem Cw (hE:C3 E) {C:World→Prop} {all:List Oper} {Kend:Fr→World→Prop} {ds:List Deferred} {Q:Exit→Act→World→Prop} :
  ∀ (n:Nat) (ls:List Bool) (fr:Fr) (w:World),qg P Ty E N C all Kend n ls fr w→Fits N fr →
   (∀ fr' w',Fits N fr'→l5 (dstsOf all) fr fr'→E w w'→Kend fr' w'→Q .normal (aP N fr' ds) w')→wpAnyIn (wf ro) k P .any ⟨all⟩ Q n (ar ls) (aP N fr ds) w
 | 0,ls,fr,w,h,hf,hQ=>by
  refine ⟨?_,hQ fr w hf (l5.refl _ _) (hE.ofEv _ _ (Ev.refl w)) h.2⟩
  cases hr:Region.ready .any ⟨all⟩ (ar ls) with
  | nil=>rfl
  | cons j l =>
   have:j∈Region.ready .any ⟨all⟩ (ar ls):=by rw [hr]; simp
   obtain ⟨o,ho⟩:=kY.1 this
   rw [h.1] at ho; cases ho
 | n + 1,ls,fr,w,h,hf,hQ=>by
  refine ⟨fun h0=>?_,fun j hj=>?_⟩
  ·refine hQ fr w hf (l5.refl _ _) (hE.ofEv _ _ (Ev.refl w)) (h.1 ?_)
   cases hr:dI ls 0 all with
   | nil=>rfl
   | cons x l =>
    have:x.1∈Region.ready .any ⟨all⟩ (ar ls):=kY.2 ⟨x.2,by rw [hr]; simp⟩
    rw [h0] at this; cases this
  ·obtain ⟨o,ho⟩:=kY.1 hj
   have hx:=h.2 (j,o) ho
   obtain ⟨h1,h2⟩:=eW.1 ho
   dsimp only at hx h1 h2
   have ho' : (⟨all⟩ : Array Oper)[j]? = some o:=by simpa using h1
   unfold wpOpIn
   simp only [ho',Cq hf]
   have sub:∀ x,o.dst = some x→x∈dstsOf all:=by
    intro x hx
    have:∀ (l:List Oper) (j:Nat),l[j]? = some o→x∈dstsOf l:=by
     intro l
     induction l with
     | nil=>intro j h; simp at h
     | cons p l ih =>
      intro j h
      cases j with
      | zero=>simp at h; subst h; simp [dstsOf,hx]
      | succ j=>have:=ih j (by simpa using h); unfold dstsOf; cases p.dst <;> simp [this]
    exact this all j h1
   have next:∀ v w',E w w'→qg P Ty E N C all Kend n (eS ls j) (put N fr o.dst v) w'→wpAnyIn (wf ro) k P .any ⟨all⟩ Q n ((ar ls).setIfInBounds j true) ((aP N fr ds).put o.dst v) w':=fun v w' hew hd=>by
    rw [C4,← sr]
    exact Cw hE n _ _ w' hd (vg hf _ _) fun fr' w'' h1 h2 h3 h4=>hQ fr' w'' h1 (((l5.refl _ fr).put v sub).trans h2) (hE.trans hew h3) h4
   split
   ·rename_i hw
    rw [Sz hw] at hx
    refine EC (E:=E) ?_
    rw [HD N fr ds hf]
    refine hx.mono (fun v w' hew hk=>next v w' hew ?_) hE.trans
    cases hn:tV Ty all o.after.toList <;> rw [hn] at hk
    ·exact hk
    ·exact hk.2
   ·rename_i hw
    rw [Sr hw] at hx
    exact ⟨fun _ _=>trivial,next undef w (hE.ofEv _ _ (Ev.refl w)) hx⟩
theorem HW:∀ l,Nc.lenO l = l.length
 | []=>rfl
 | _ :: l=>by simp [Nc.lenO,HW l]
theorem Aq:∀ n,HL n = List.replicate n false
 | 0=>rfl
 | n + 1=>by simp [HL,Aq n,T0]
theorem EI:∀ {ops:List Oper},HO ops = true→∀ (k:Nat) (o:Oper) cs b,ops[k]? = some o→o.op≠.select cs b
 | [],_,k,o,cs,b,hk=>by simp at hk
 | p :: l,h,k,o,cs,b,hk=>by
  simp only [HO,SB] at h
  cases k with
  | zero=>simp at hk; subst hk; intro he; rw [he] at h; cases h.1
  | succ k=>exact EI h.2 k o cs b (by simpa using hk)
theorem Pm (n j:Nat):(ar (List.replicate n false)).getD j false = false:=by
 by_cases h:j < n <;> simp [ar,h]
theorem Js (hT:dy P Ty) (hF:vm P Fn) (hE:C3 E) (hm:P.follows .mixedOrders = true) {id:Nat} {ops:Array Oper} {draw:Bool} {fr:Fr} {w:World} {K:Fr→World→Prop} {ds:List Deferred} {Q:Exit→Act→World→Prop}
  (h:Nc P Ty Fn E N ops.toList draw fr w K) (hf:Fits N fr)
  (hQ:∀ fr' w',Fits N fr'→l5 (dstsOf ops.toList) fr fr'→E w w'→K fr' w'→Q .normal (aP N fr' ds) w'):(Code.region id ops draw).wpIn (wf ro) k P Q (aP N fr ds) w:=by
 cases draw with
 | false =>
  refine wpIn_region_list ?_
  exact Cr hT hF hE ops.toList 0 fr w h hf hQ
 | true =>
  refine wpIn_region_any hm ?_
  obtain ⟨hns,h⟩:=bR.1 h
  obtain ⟨C,hC,hd⟩:=h _ rfl
  have hK:∀ (a b:Fr) (w:World),ext a b→(∃ fr2,ext fr2 a∧K fr2 w)→∃ fr2,ext fr2 b∧K fr2 w:=fun a b w he ⟨f,h1,h2⟩=>⟨f,fun t=>(h1 t).trans (he t),h2⟩
  have:=gI hT hF hE (Kend:=fun fr w=>∃ fr2,ext fr2 fr∧K fr2 w) (fun fr w h=>⟨fr,fun _=>rfl,h⟩) hK (EI hns) _ _ _ fr _ (fun j o _ hl=>by rw [Aq,Pm] at hl; cases hl) (.inl hC) hd
  rw [HW,Aq] at this
  have e:(Array.replicate ops.size false) = ar (List.replicate ops.toList.length false):=by apply TF; simp [ar]
  rw [e]
  have e2:ops.size = ops.toList.length:=by simp
  rw [e2]
  refine Cw hE (ds:=ds) (Q:=Q) _ _ fr _ this hf fun fr' w' h1 h2 h3 ⟨fr2,h4,h5⟩=>?_
  rw [yA ds (fr:=fr') (fr':=fr2) fun t _=>(h4 t).symm]
  exact hQ fr2 w' (fun t ht=>by rw [h4 t]; exact h1 t ht) (fun t ht=>by rw [h4 t]; exact h2 t ht) (hE.trans (hE.ofEv _ _ (Ev.drew w _)) h3) h5
end
end Go.V
namespace Go.V
structure Ar (l:Nat) (w w' : World):Prop where
 os:w'.os = w.os
 tape:w'.tape = w.tape
 output:w'.output = w.output
 size:w.heap.size≤w'.heap.size
 dfr:∀ (b:Nat) (d:Option (List Deferred)),w.heap[b]? = some (Obj.deferred d)→w'.heap[b]? = some (Obj.deferred d)
 lop:∀ (b:Nat) (d:Loop),b≠l→w.heap[b]? = some (Obj.loop d)→w'.heap[b]? = some (Obj.loop d)
theorem Ar.trans {l:Nat} {a b c:World} (h:Ar l a b) (k:Ar l b c):Ar l a c :=
 ⟨k.os.trans h.os,k.tape.trans h.tape,k.output.trans h.output,SK h.size k.size,fun x d hx=>k.dfr x d (h.dfr x d hx),fun x d hl hx=>k.lop x d hl (h.lop x d hl hx)⟩
theorem Ar.of {l:Nat} {a b:World} (h:Ev a b):Ar l a b:=⟨h.os,h.tape,h.output,h.size,h.dfr,fun x d _ hx=>h.lop x d hx⟩
theorem QU (l:Nat):C3 (Ar l):=⟨fun h k=>h.trans k,fun _ _ h=>.of h,fun h k d hd=>h.dfr k d hd,fun h=>h.size⟩
theorem Ar.putObj {l:Nat} {w:World} {r r' : Loop} (h:w.heap[l]? = some (.loop r)):Ar l w (w.putObj l (.loop r')):=by
 refine ⟨rfl,rfl,rfl,by simp,fun b d hb=>?_,fun b d hne hb=>?_⟩
 ·rw [World.putObj_heap_other]; exact hb
  intro e; subst e; rw [h] at hb; cases hb
 ·rw [World.putObj_heap_other hne]; exact hb
theorem Ev.back {l:Nat} {a b c:World} (h1:Ev a b) (h:Ar l b c) (hl:a.heap.size≤l):Ev a c :=
 ⟨h.os.trans h1.os,h.tape.trans h1.tape,h.output.trans h1.output,SK h1.size h.size,fun x d hx=>h.dfr x d (h1.dfr x d hx),
  fun x d hx=>h.lop x d (fun e=>by have:=(S3.1 hx).1; omega) (h1.lop x d hx)⟩
theorem St.putObj {w:World} {b:Nat} {o:Obj} {L:List aw} (h:St w (blk b o :: L)) (o' : Obj) (ho:Eg o' = true:=by rfl):St (w.putObj b o') (blk b o' :: L):=h.setObj o' ho
theorem St.alloc {w:World} {L:List aw} (h:St w L) (o:Obj) (ho:Eg o = true:=by rfl):St (w.alloc o) (blk w.heap.size o :: L):=h.push o ho
theorem St.Pn {w:World} {L:List aw} (h:St w L) (d:Option (List Deferred)):St (w.alloc (.deferred d)) L:=h.eq (Kx w d)

theorem HX {c:Cs} {q p:Value→Prop} (h:c.ex q) (ha:c.all p):∃ v,q v∧p v:=by
 cases c <;> simp only [Cs.ex,Cs.all] at h ha
 case slice=>obtain ⟨a,l,c,h⟩:=h; exact ⟨_,h,ha _ _ _⟩
 case fn=>obtain ⟨a,l,h⟩:=h; exact ⟨_,h,ha _ _⟩
 all_goals (obtain ⟨a,h⟩:=h; exact ⟨_,h,ha _⟩)
theorem Nl {l:List Cs}:∀ {q p:List Value→Prop},Qz l q→M6 l p→∃ vs,q vs∧p vs:=by
 induction l with
 | nil=>exact fun h k=>⟨[],h,k⟩
 | cons c l ih=>intro q p h k; obtain ⟨v,h,k⟩:=HX h k; obtain ⟨vs,h,k⟩:=ih h k; exact ⟨v :: vs,h,k⟩
theorem KW {c:S1} {q p:Value→Prop} (h:c.ex q) (ha:c.all p):∃ v,q v∧p v:=by
 cases c with
 | one c=>exact HX h ha
 | agg l=>obtain ⟨vs,h,k⟩:=Nl h ha; exact ⟨_,h,k⟩
theorem Nn {l:List S1}:∀ {q p:List Value→Prop},Pa l q→Em l p→∃ vs,vs.length = l.length∧q vs∧p vs:=by
 induction l with
 | nil=>exact fun h k=>⟨[],rfl,h,k⟩
 | cons c l ih=>intro q p h k; obtain ⟨v,h,k⟩:=KW h k; obtain ⟨vs,hl,h,k⟩:=ih h k; exact ⟨v :: vs,by simp [hl],h,k⟩
theorem EJ {p:Nat→Prop}:∀ {l:List Nat},Pj l p→∀ j,oO j l = true→p j
 | [],_,j,h=>by simp [oO] at h
 | [a],h,j,hj=>by
  simp only [oO,Bool.or_false] at hj
  rw [TL hj]; exact h
 | a :: b :: l,h,j,hj=>by
  obtain ⟨h1,h2⟩:=h
  by_cases e:Nat.beq j a = true
  ·rw [TL e]; exact h1
  ·refine EJ h2 j ?_
   rw [oO] at hj
   simpa [e] using hj
theorem HY:∀ lv,(ve lv).length = lv.length
 | []=>rfl
 | _ :: l=>by simp [ve,HY l]
theorem Cx:∀ {ps:List Nat} {lv:List (Nat × S1)},qb ps lv = true→ps.length = lv.length
 | [],[],_=>rfl
 | [],_ :: _,h=>by simp [qb] at h
 | _ :: _,[],h=>by simp [qb] at h
 | a :: l,(b,c) :: m,h=>by simp only [qb,SB] at h; simp [Cx h.2]
theorem Cy {N:Nat} {d:List Deferred}:∀ (ps:List Nat) (lv:List (Nat × S1)) (vs:List Value) (fr:Fr),qb ps lv = true→vs.length = lv.length →
  (ps.zip vs).foldl (fun (t:Array Value) (x:Nat × Value)=>t.setIfInBounds x.1 x.2) (aP N fr d).tmps = (aP N (iY N fr lv vs) d).tmps
 | [],[],vs,fr,_,hl=>by simp [iY]
 | [],_ :: _,_,_,h,_=>by simp [qb] at h
 | _ :: _,[],_,_,h,_=>by simp [qb] at h
 | a :: l,(b,c) :: m,[],fr,h,hl=>by simp at hl
 | a :: l,(b,c) :: m,v :: vs,fr,h,hl=>by
  simp only [qb,SB] at h
  have hab:=TL h.1
  subst hab
  simp only [List.zip_cons_cons,List.foldl_cons,iY]
  have:=C4 N fr d (some a) v
  rw [← Cy l m vs _ h.2 (by simpa using hl),← this]
  rfl
section
variable {P:Program} {Ty:TypeId→Option di} {Fn:FuncId→Bool} {E:World→World→Prop} {N:Nat} {k:Nat} {rf:Bool}
theorem Jt (hrf:rf = true) (hT:dy P Ty) (hF:vm P Fn) (hE:C3 E) (hEE:∀ a b,E a b→Ev a b) (A:bj) {f:Operand} {ps:Array Tmp} {a b:Code} {fr:Fr} {w:World} {n r:Fr→World→Prop} {x:Nat→Fr→World→Prop} {ds:List Deferred}
    (iha:∀ (ro:Option Nat) (k:Nat) (fr:Fr) (w:World) (n r:Fr→World→Prop) (x:Nat→Fr→World→Prop),den P Ty Fn E N A a fr w n r x→Fits N fr→∀ ds,a.wpIn (wf ro) k P (QN rf E N (nt a) fr w ds n r x) (aP N fr ds) w)
    (ihb:∀ (ro:Option Nat) (k:Nat) (fr:Fr) (w:World) (n r:Fr→World→Prop) (x:Nat→Fr→World→Prop),den P Ty Fn E N A b fr w n r x→Fits N fr→∀ ds,b.wpIn (wf ro) k P (QN rf E N (nt b) fr w ds n r x) (aP N fr ds) w)
    {g:FuncId} {first cap:Array Value} {lv:List (Nat × S1)} (hv:ev fr f = .func (.func g) first cap) (hg:Fn g = true) (hps:qb ps.toList lv = true)
    (h : QT P g first.toList cap.toList (ve lv) (dZ b) w
          (fun vs w K=>den P Ty Fn E N A a (iY N fr lv vs) w K (fun _ _=>False) (fun _ _ _=>False))
          (fun fr1 w n' r' x'=>den P Ty Fn E N A b fr1 w (fun _ w=>n' w) (fun _ w=>r' w) (fun j _ w=>x' j w)) (n fr) (r fr) (fun j=>x j fr))
    (hf:Fits N fr):(Code.rangeFunc f ps a b).wpIn (wf none) k P (QN rf E N [] fr w ds n r x) (aP N fr ds) w:=by
  obtain ⟨xs,D,Q,J,Jr,Jx0,L,h0,hQL,hI,hty,hrd0,hn,hr,hx0⟩:=h
  let Jx:Nat→aw:=fun j=>aT [pu (oO j (dZ b) = true),Jx0 j]
  have jx:∀ j w L,St w (Jx j :: L)↔y8 (oO j (dZ b)) (St w (Jx0 j :: L)):=fun j w L=>by
    rw [bR]; exact St.flat.trans St.pu
  have hx:∀ j w',St w' (Jx j :: D :: L)→x j fr w':=fun j w' hs=>by
    obtain ⟨h1,h2⟩:=bR.1 ((jx j w' _).1 hs)
    exact EJ hx0 j h1 w' h2
  have hrd:∀ i,Em (ve lv) fun vs=>xs[i]? = some vs→∀ L' w,Nd L' L→St w (J i :: L') →
      den P Ty Fn E N A a (iY N fr lv vs) w (fun fr1 w1=>∃ M:aw,St w1 (M :: L')∧∀ L' w,Nd L' L→St w (M :: L') →
        den P Ty Fn E N A b fr1 w (fun _ w'=>St w' (J (i + 1) :: L')) (fun _ w'=>St w' (Jr :: L')) (fun j _ w'=>St w' (Jx j :: L'))) (fun _ _=>False) (fun _ _ _=>False):=fun i=>by
    have e:(fun (L:List aw) (j:Nat) (_:Fr) (w' : World)=>St w' (Jx j :: L)) = fun L j _ w'=>y8 (oO j (dZ b)) (St w' (Jx0 j :: L)):=by
      funext L j _ w'; exact propext (jx j w' L)
    have:=hrd0 i
    have e2:∀ L:List aw,(fun (j:Nat) (_:Fr) (w' : World)=>St w' (Jx j :: L)) = fun j _ w'=>y8 (oO j (dZ b)) (St w' (Jx0 j :: L)):=fun L=>congrFun e L
    simp only [e2]
    exact this
  refine wpIn_rangeFunc fun fn _=>?_
  let rec0:Loop:={ state:=.ready,pending:=none,fn,tmps:=(aP N fr ds).tmps,params:=ps,assign:=a,body:=b,defers:=w.heap.size }
  let w1:World:=(w.alloc (.deferred (some []))).alloc (.loop rec0)
  have hl:w.heap.size + 1 = (w.alloc (.deferred (some []))).heap.size:=by simp
  have ew1:Ev w w1:=(Ev.push w _).trans (Ev.push _ _)
  have he:(f:Operand) = f:=rfl
  have e2:first ++ (#[.func (.yield (w.heap.size + 1)) #[] #[]] : Array Value) ++ cap = ⟨C7 first.toList [.func (.yield (w.heap.size + 1)) #[] #[]] cap.toList⟩:=by
    apply TF; simp [HI]
  have hev:(aP N fr ds).eval f = .func (.func g) first cap:=by rw [Ga N fr ds hf]; exact hv
  refine ⟨w.heap.size + 1,[Kp w.heap.size],w1,⟨.fn (.func g) cap,first ++ #[.func (.yield (w.heap.size + 1)) #[] #[]]⟩,w1,g,⟨C7 first.toList [.func (.yield (w.heap.size + 1)) #[] #[]] cap.toList⟩,w1,
    run_enterLoop_outer fn _ ps a b,?_,fun _ _=>trivial,?_,fun h=>(by cases h),?_⟩
  · simp only [resolve,rangeCall,List.map_toArray,S0,List.map_nil,hev,Deferred.ofValue,Sem.run_pure,Sem.run_bind,Result.andThen_ok]
    rfl
  · simp only [invoke,e2,vo hF hg]
  · have hcall:au P (Ar (w.heap.size + 1)) g (C7 first.toList [.func (.yield (w.heap.size + 1)) #[] #[]] cap.toList) w1 _ :=
      hI (w.heap.size + 1) (Ar (w.heap.size + 1)) (QU _) (fun i=>aT [J i,blk (w.heap.size + 1) (.loop rec0)])
        (ex fun c:Option Nat=>match c with
          | none=>aT [Jr,blk (w.heap.size + 1) (.loop { rec0 with state:=.done,pending:=some .ret })]
          | some j=>aT [Jx j,blk (w.heap.size + 1) (.loop { rec0 with state:=.done,pending:=some (.exit j) })])
        L w1 ?_ hQL ?_
    · refine callsIn_wide.2 ?_
      refine Calls.mono hcall ?_
      rintro e w3 ⟨v,rfl,hX,hQ⟩
      have fin:∀ (st:LoopState) (pd:Option Code) (M:aw),st≠.busy→St w3 (M :: blk (w.heap.size + 1) (.loop { rec0 with state:=st,pending:=pd }) :: D :: L) →
          ∃ w4,(Instr.endLoop (w.heap.size + 1)).run P w3 = .ok pd w4∧St w4 (M :: D :: L)∧E w w4∧Mk rf w w4 [Kp w.heap.size]:=by
        intro st pd M hst hs
        have hs':=hs.swap
        have hg:=hs'.get
        refine ⟨_,run_endLoop hg hst,(hs'.putObj _).tail,?_,?_⟩
        · exact hE.ofEv _ _ (ew1.back (hX.trans (Ar.putObj hg)) (by omega))
        · refine ⟨fun h=>(by rw [hrf] at h; cases h),[w.heap.size],rfl,by simp,fun d hd=>?_⟩
          simp only [SE] at hd
          subst hd
          refine ⟨SF _,?_⟩
          refine (hX.trans (Ar.putObj hg)).dfr _ _ ?_
          show ((w.heap.push _).push _)[w.heap.size]? = _
          rw [Array.getElem?_push,Sr (by simp),Array.getElem?_push,Sz rfl]
      have qn:∀ w4,E w w4→Mk rf w w4 [Kp w.heap.size]→∀ {p:Prop},p→∃ fr' ds',{ (aP N fr ds) with defers:=[Kp w.heap.size] ++ (aP N fr ds).defers } = aP N fr' (ds' ++ ds)∧Fits N fr'∧l5 [] fr fr'∧E w w4∧Mk rf w w4 ds'∧(fr' = fr∧p) :=
        fun w4 h1 h2 _ hp=>⟨fr,[Kp w.heap.size],rfl,hf,l5.refl _ _,h1,h2,rfl,hp⟩
      rcases hQ with hQ | hQ
      · have hQ:=St.flat.1 hQ
        obtain ⟨w4,h1,h2,h3,h4⟩:=fin .ready none _ (by intro h; cases h) hQ
        refine ⟨none,w4,h1,?_⟩
        obtain ⟨fr',ds',g1,g2,g3,g4,g5,rfl,g6⟩:=qn w4 h3 h4 (hn w4 h2)
        exact ⟨_,ds',g1,g2,g3,g4,g5,g6⟩
      · obtain ⟨c,hQ⟩:=St.ex.1 hQ
        cases c with
        | none =>
          have hQ:=St.flat.1 hQ
          obtain ⟨w4,h1,h2,h3,h4⟩:=fin .done (some .ret) _ (by intro h; cases h) hQ
          refine ⟨some .ret,w4,h1,wpIn_ret ?_⟩
          obtain ⟨fr',ds',g1,g2,g3,g4,g5,rfl,g6⟩:=qn w4 h3 h4 (hr w4 h2)
          exact ⟨_,ds',g1,g2,g3,g4,g5,g6⟩
        | some j =>
          have hQ:=St.flat.1 hQ
          obtain ⟨w4,h1,h2,h3,h4⟩:=fin .done (some (.exit j)) _ (by intro h; cases h) hQ
          refine ⟨some (.exit j),w4,h1,wpIn_exit ?_⟩
          obtain ⟨fr',ds',g1,g2,g3,g4,g5,rfl,g6⟩:=qn w4 h3 h4 (hx j w4 h2)
          exact ⟨_,ds',g1,g2,g3,g4,g5,g6⟩
    · have h1:=(h0.Pn (some [])).alloc (.loop rec0)
      rw [← hl] at h1
      refine St.flat.2 ?_
      exact h1.swap
    · intro i us hi L' w' hsup hs
      have hs1:=St.flat.1 hs
      have hg:=hs1.swap.get
      obtain ⟨vs,hvl,hve,hvs⟩:=Nn (hty us (Sl hi)) (hrd i)
      subst hve
      have hlen:us.length = lv.length:=by rw [hvl,HY]
      have hpl:=Cx hps
      have hden:=hvs hi (blk (w.heap.size + 1) (.loop rec0) :: L') w' (fun h hh=>hsup h (bq hh)) hs1
      refine ⟨fn,(aP N (iY N fr lv us) []).tmps,a,b,?_,?_⟩
      · have hy:=run_yield (P:=P) (args:=⟨us⟩) hg (by show us.length = ps.size; rw [hlen,← hpl]; simp)
        rw [hy]
        have hz:(ps.zip (⟨us⟩ : Array Value)).foldl (fun (t:Array Value) (x:Nat × Value)=>t.setIfInBounds x.1 x.2) (aP N fr ds).tmps = (aP N (iY N fr lv us) []).tmps:=by
          rw [show (aP N (iY N fr lv us) []).tmps = (aP N (iY N fr lv us) ds).tmps from rfl,← Cy ps.toList lv us fr hps hlen,← Array.foldl_toList]
          congr 1
          simp
        show Result.ok (Next.round (w.heap.size + 1) fn ((ps.zip (⟨us⟩ : Array Value)).foldl (fun (t:Array Value) (x:Nat × Value)=>t.setIfInBounds x.1 x.2) (aP N fr ds).tmps) a b) w' = _
        rw [hz]
      · refine roundIn_of_wpIn trivial ?_
        have hfit:Fits N (iY N fr lv us):=jr lv _ hf
        refine wpIn_mono (iha (some (w.heap.size + 1)) 0 _ w' _ _ _ hden hfit []) fun e a1 w1' hq=>?_
        cases e with
        | normal =>
          obtain ⟨fr1,ds1,rfl,q2,q3,q4,q5,M,q6,q7⟩:=hq
          have hs2:=q6.swap
          have hg2:=hs2.get
          refine ⟨_,run_beginRound hg2 rfl,?_⟩
          have hs3:=(hs2.putObj (.loop { rec0 with state:=.busy })).swap
          have hx3:Ar (w.heap.size + 1) w' (w1'.putObj (w.heap.size + 1) (.loop { rec0 with state:=.busy })):=(Ar.of (hEE _ _ q4)).trans (Ar.putObj hg2)
          refine wpIn_mono (ihb (some (w.heap.size + 1)) 0 _ _ _ _ _ (q7 _ _ (fun h hh=>hsup h (bq hh)) hs3) q2 _) fun e a2 w2 hq=>?_
          cases e with
          | normal =>
            obtain ⟨fr2,ds2,rfl,p2,p3,p4,p5,p6⟩:=hq
            have hs4:=p6.swap
            have hg4:=hs4.get
            refine ⟨_,_,run_endRound none hg4,_,rfl,(hx3.trans (Ar.of (hEE _ _ p4))).trans (Ar.putObj hg4),.inl ⟨rfl,St.flat.2 (hs4.putObj _).swap⟩⟩
          | ret =>
            obtain ⟨fr2,ds2,rfl,p2,p3,p4,p5,p6⟩:=hq
            have hs4:=p6.swap
            have hg4:=hs4.get
            refine ⟨_,_,run_endRound (some .ret) hg4,_,rfl,(hx3.trans (Ar.of (hEE _ _ p4))).trans (Ar.putObj hg4),.inr ⟨rfl,St.ex.2 ⟨none,St.flat.2 (hs4.putObj _).swap⟩⟩⟩
          | exit j =>
            obtain ⟨fr2,ds2,rfl,p2,p3,p4,p5,p6⟩:=hq
            have hs4:=p6.swap
            have hg4:=hs4.get
            refine ⟨_,_,run_endRound (some (.exit j)) hg4,_,rfl,(hx3.trans (Ar.of (hEE _ _ p4))).trans (Ar.putObj hg4),.inr ⟨rfl,St.ex.2 ⟨some j,St.flat.2 (hs4.putObj _).swap⟩⟩⟩
          | goto l=>exact hq.elim
          | panic ch=>exact hq.elim
          | outgrown=>exact hq.elim
        | ret=>obtain ⟨_,_,_,_,_,_,_,hh⟩:=hq; exact hh.elim
        | exit j=>obtain ⟨_,_,_,_,_,_,_,hh⟩:=hq; exact hh.elim
        | goto l=>exact hq.elim
        | panic ch=>exact hq.elim
        | outgrown=>exact hq.elim
end
end Go.V
namespace Go.V
section
variable {P:Program} {Ty:TypeId→Option di} {Fn:FuncId→Bool} {E:World→World→Prop} {N:Nat} {rf:Bool}
theorem KX {v:Value} {a b:Prop} (h:RH v a b):∃ t,v = .bool t∧(if t then a else b):=by
 unfold RH at h
 split at h
 ·rename_i c; refine ⟨c,rfl,?_⟩; cases c <;> exact h
 ·exact h.elim
theorem fQ {b:Frame} {a:Act} {k:List Item} {cs:List Frame} {w:World} {c:Code}:step P (lone (b.atR a (.code (.scope c) :: k)) cs w) = .next (lone (b.atR a (.code c :: .inScope c :: k)) cs w) :=
 step_lone_go (by simp [stepG,stepG.exec,Frame.atR])
theorem BP {b:Frame} {a:Act} {k:List Item} {cs:List Frame} {w:World} {c:Code}:step P (lone (b.atR a (.inScope c :: k)) cs w) = .next (lone (b.atR a k) cs w) :=
 step_lone_go (by simp [stepG,stepG.exec,Frame.atR])
theorem Gt {F:Fence} {n:Nat} {a:Act} {w:World} {Q:Exit→Act→World→Prop} {c:Code} (hQ:∀ l a w,¬ Q (.goto l) a w) (h:c.wpIn F n P Q a w):(Code.scope c).wpIn F n P Q a w:=by
 intro b k cs hro hb hr
 have h0:(lone (b.atR a (.code (.scope c) :: k)) cs w).fenced P F:=fenced_calm hb hr rfl
 obtain ⟨e,a₁,w₁,hq,harr⟩:=h b (.inScope c :: k) cs hro hb hr
 cases e with
 | normal=>exact ⟨.normal,a₁,w₁,hq,.head h0 fQ (StepsIn.trans harr (.one (fenced_calm hb hr rfl) BP))⟩
 | exit id =>
  have hx:exitTo id (.inScope c :: k) = exitTo id k:=by simp [exitTo]
  exact ⟨.exit id,a₁,w₁,hq,fun k' hk=>.head h0 fQ (harr.1 k' (by rw [hx]; exact hk)),
   fun hr' hk=>let ⟨k₁,h1,h2⟩:=harr.2 hr' (by rw [hx]; exact hk); ⟨k₁,h1,.head h0 fQ h2⟩⟩
 | goto l=>exact absurd hq (hQ _ _ _)
 | ret=>exact ⟨_,a₁,w₁,hq,.of_steps (.one h0 fQ) harr⟩
 | panic ch=>exact ⟨_,a₁,w₁,hq,.of_steps (.one h0 fQ) harr⟩
 | outgrown=>exact ⟨_,a₁,w₁,hq,.of_steps (.one h0 fQ) harr⟩
theorem Cz {ws:List Nat} {fr fr2:Fr} {lv:List (Nat × S1)} {J:z8 (ve lv) (World→Prop)} {w:World} {b:Fr→World→Prop}
  (hJ:Cj (ve lv) J (oN fr2 lv) (fun _=>False) w) (hb:∀ (d:Nat→Value),Em (ve lv) fun vs=>∀ w,Cj (ve lv) J vs (fun _=>False) w→b (iY N (l_ N d ws fr) lv vs) w) :
  b (iY N (l_ N (dj fr2) ws fr) lv (oN fr2 lv)) w :=
 xr (fun _=>False) (fun f=>f w) (fun h=>h) hJ _ (hb (dj fr2)) w hJ
theorem QV {i j:Nat} {p q:Prop} (h:bif Nat.beq i j then p else q):if i = j then p else q:=by
 by_cases hij:i = j
 ·subst hij; simpa using h
 ·rw [Sr hij]
  have:Nat.beq i j = false:=by cases hb:Nat.beq i j with | false=>rfl | true=>exact absurd (TL hb) hij
  rw [this] at h; exact h
def Np (a:Act):List (Nat × S1)→List Value
 | []=>[]
 | (s,_) :: l=>a.tmps.getD s undef :: Np a l
theorem Dg {fr:Fr} {ds:List Deferred} (hf:Fits N fr):∀ lv,Np (aP N fr ds) lv = oN fr lv
 | []=>rfl
 | (s,c) :: l=>by
  have h1:=sj N fr ds hf s
  show (aP N fr ds).tmps.getD s undef :: Np (aP N fr ds) l = dj fr s :: oN fr l
  rw [h1,Dg hf l]
theorem Ju (hT:dy P Ty) (hF:vm P Fn) (hE:C3 E) (hm:P.follows .mixedOrders = true) (A:bj):∀ (c:Code) (ro:Option Nat) (_:cW c = true→ro = none∧rf = true∧∀ a b,E a b→Ev a b) (k:Nat) (fr:Fr) (w:World) (n r:Fr→World→Prop) (x:Nat→Fr→World→Prop),
  den P Ty Fn E N A c fr w n r x→Fits N fr→∀ ds,c.wpIn (wf ro) k P (QN rf E N (nt c) fr w ds n r x) (aP N fr ds) w:=by
 have eref:∀ w,E w w:=fun w=>hE.ofEv _ _ (Ev.refl w)
 intro c
 induction c with
 | skip=>exact fun ro hro k fr w n r x h hf ds=>wpIn_skip ⟨fr,[],rfl,hf,l5.refl _ _,eref w,Mk.nil _ _,h⟩
 | region id ops draw =>
  intro ro hro k fr w n r x h hf ds
  exact Js hT hF hE hm h hf fun fr' w' h1 h2 h3 h4=>⟨fr',[],rfl,h1,h2,h3,Mk.nil _ _,h4⟩
 | seq a b iha ihb =>
  intro ro hro k fr w n r x h hf ds
  have hra:=fun (h:cW a = true)=>hro (by simp [cW,h])
  have hrb:=fun (h:cW b = true)=>hro (by simp [cW,h])
  have sa:∀ t∈nt a,t∈nt (.seq a b):=fun t ht=>by rw [HU]; simp [ht]
  have sb:∀ t∈nt b,t∈nt (.seq a b):=fun t ht=>by rw [HU]; simp [ht]
  refine wpIn_seq ?_
  have key:∀ n',den P Ty Fn E N A a fr w n' r x→(∀ fr' w',Fits N fr'→l5 (nt a) fr fr'→E w w'→n' fr' w'→∃ fr'',(∀ d,aP N fr'' d = aP N fr' d)∧Fits N fr''∧l5 (nt a) fr fr''∧den P Ty Fn E N A b fr'' w' n r x) →
    a.wpIn (wf ro) k P (Exit.then (b.wpIn (wf ro) k P (QN rf E N (nt (.seq a b)) fr w ds n r x)) (QN rf E N (nt (.seq a b)) fr w ds n r x)) (aP N fr ds) w:=by
   intro n' hd hn
   refine wpIn_mono (iha ro hra k fr w n' r x hd hf ds) fun e a' w' hq=>?_
   cases e with
   | normal =>
    obtain ⟨fr',ds',rfl,h2,h3,h4,h5,h6⟩:=hq
    obtain ⟨fr'',g1,g2,g3,g4⟩:=hn fr' w' h2 h3 h4 h6
    show b.wpIn (wf ro) k P _ _ w'
    rw [← g1]
    exact wpIn_mono (ihb ro hrb k fr'' w' n r x g4 g2 (ds' ++ ds)) fun e a w hq=>QN.later hE sb (g3.mono sa) h4 h5 hq
   | ret=>exact QN.mono sa (fun _ _ _ _ h=>h) (fun _ _ h=>h) (fun _ _ _ h=>h) (n:=n') (n':=n') hq
   | exit i=>exact QN.mono sa (fun _ _ _ _ h=>h) (fun _ _ h=>h) (fun _ _ _ h=>h) (n:=n') (n':=n') hq
   | goto l=>exact hq.elim
   | panic ch=>exact hq.elim
   | outgrown=>exact hq.elim
  simp only [den] at h
  split at h
  ·rename_i lv _
   obtain ⟨J,h1,h2⟩:=h
   refine key _ h1 fun fr' w' g1 g2 g3 g4=>⟨_,fun d=>Ap lv d g2,jr lv _ (jA _ hf),xu lv hf g2,Cz (b:=fun fr w=>den P Ty Fn E N A b fr w n r x) g4 h2⟩
  ·exact key _ h fun fr' w' g1 g2 g3 g4=>⟨fr',fun _=>rfl,g1,g2,g4⟩
 | cond c a b iha ihb =>
  intro ro hro k fr w n r x h hf ds
  have hra:=fun (h:cW a = true)=>hro (by simp [cW,h])
  have hrb:=fun (h:cW b = true)=>hro (by simp [cW,h])
  obtain ⟨t,ht,h⟩:=KX h
  have he:(aP N fr ds).eval c = .bool t:=by rw [Ga N fr ds hf]; exact ht
  refine wpIn_cond he ?_
  cases t with
  | true=>exact wpIn_mono (iha ro hra k fr w n r x h hf ds) fun e a w hq=>QN.mono (fun t ht=>by rw [EH]; simp [ht]) (fun _ _ _ _ h=>h) (fun _ _ h=>h) (fun _ _ _ h=>h) hq
  | false=>exact wpIn_mono (ihb ro hrb k fr w n r x h hf ds) fun e a w hq=>QN.mono (fun t ht=>by rw [EH]; simp [ht]) (fun _ _ _ _ h=>h) (fun _ _ h=>h) (fun _ _ _ h=>h) hq
 | block id a iha =>
  intro ro hro k fr w n r x h hf ds
  have hra:=fun (h:cW a = true)=>hro (by simpa [cW] using h)
  refine wpIn_block ?_
  have key:∀ n',den P Ty Fn E N A a fr w n' r (fun j fr w=>bif Nat.beq j id then n' fr w else x j fr w)→(∀ fr' w',Fits N fr'→l5 (nt a) fr fr'→n' fr' w'→∃ fr'',(∀ d,aP N fr'' d = aP N fr' d)∧Fits N fr''∧l5 (nt a) fr fr''∧n fr'' w') →
    a.wpIn (wf ro) k P (Exit.inBlock id (QN rf E N (nt (.block id a)) fr w ds n r x)) (aP N fr ds) w:=by
   intro n' hd hn
   have toN:∀ fr' ds' w',Fits N fr'→l5 (nt a) fr fr'→E w w'→Mk rf w w' ds'→n' fr' w'→QN rf E N (nt (.block id a)) fr w ds n r x .normal (aP N fr' (ds' ++ ds)) w':=fun fr' ds' w' h2 h3 h4 h5 h6=>by
    obtain ⟨fr'',g1,g2,g3,g4⟩:=hn fr' w' h2 h3 h6
    exact ⟨fr'',ds',(g1 _).symm,g2,g3,h4,h5,g4⟩
   refine wpIn_mono (iha ro hra k fr w n' r _ hd hf ds) fun e a' w' hq=>?_
   cases e with
   | normal=>obtain ⟨fr',ds',rfl,h2,h3,h4,h5,h6⟩:=hq; exact toN fr' ds' w' h2 h3 h4 h5 h6
   | exit i =>
    obtain ⟨fr',ds',rfl,h2,h3,h4,h5,h6⟩:=hq
    have h6:=QV h6
    simp only [Exit.inBlock]
    split
    ·rename_i hi; rw [Sz hi] at h6; exact toN fr' ds' w' h2 h3 h4 h5 h6
    ·rename_i hi; rw [Sr hi] at h6; exact ⟨fr',ds',rfl,h2,h3,h4,h5,h6⟩
   | ret=>exact hq
   | goto l=>exact hq.elim
   | panic ch=>exact hq.elim
   | outgrown=>exact hq.elim
  simp only [den] at h
  split at h
  ·rename_i lv _
   obtain ⟨J,h1,h2⟩:=h
   refine key _ h1 fun fr' w' g1 g2 g4=>⟨_,fun d=>Ap lv d g2,jr lv _ (jA _ hf),xu lv hf g2,Cz g4 h2⟩
  ·exact key _ h fun fr' w' g1 g2 g4=>⟨fr',fun _=>rfl,g1,g2,g4⟩
 | loop a iha =>
  intro ro hro k fr w n r x h hf ds
  have hra:=fun (h:cW a = true)=>hro (by simpa [cW] using h)
  simp only [den] at h
  split at h
  ·rename_i lv _
   obtain ⟨I,m,h0,hr⟩:=h
   refine wpIn_loop (fun a' w'=>∃ fr2 ds',a' = aP N fr2 (ds' ++ ds)∧Fits N fr2∧l5 (nt a) fr fr2∧E w w'∧Mk rf w w' ds'∧Cj (ve lv) I (oN fr2 lv) (fun _=>False) w')
    (fun a' w'=>Cj (ve lv) m (Np a' lv) (fun _=>0) w') ⟨fr,[],rfl,hf,l5.refl _ _,eref w,Mk.nil _ _,h0⟩ ?_
   rintro _ w' ⟨fr2,ds',rfl,h2,h3,h4,h5,h6⟩
   have hfit:Fits N (iY N (l_ N (dj fr2) (nt a) fr) lv (oN fr2 lv)):=jr lv _ (jA _ hf)
   have hagr:=xu (N:=N) lv hf h3
   have hb:=xr (fun _=>False) (fun f=>f w') (fun h=>h) h6 (fun vs=>∀ w,Cj (ve lv) I vs (fun _=>False) w→den P Ty Fn E N A a (iY N (l_ N (dj fr2) (nt a) fr) lv vs) w
    (fun fr' w'=>Cj (ve lv) I (oN fr' lv) (fun _=>False) w'∧Cj (ve lv) m (oN fr' lv) (fun _=>0) w' < Cj (ve lv) m vs (fun _=>0) w) r x) (hr (dj fr2)) w' h6
   have hw:=iha ro hra k _ w' _ r x hb hfit (ds' ++ ds)
   rw [Ap lv (ds' ++ ds) h3] at hw
   refine wpIn_mono hw fun e a' w'' hq=>?_
   cases e with
   | normal =>
    obtain ⟨fr3,ds3,rfl,g2,g3,g4,g5,g6,g7⟩:=hq
    refine ⟨⟨fr3,ds3 ++ ds',by rw [SI],g2,hagr.trans g3,hE.trans h4 g4,Mk.trans hE h4 g4 h5 g5,g6⟩,?_⟩
    rw [Dg g2,Dg h2]
    exact g7
   | ret =>
    have hq' : QN rf E N (nt a) _ w' (ds' ++ ds) n r x (.ret) a' w'':=hq
    exact QN.later hE (fun _ h=>h) hagr h4 h5 hq'
   | exit i =>
    have hq' : QN rf E N (nt a) _ w' (ds' ++ ds) n r x (.exit i) a' w'':=hq
    exact QN.later hE (fun _ h=>h) hagr h4 h5 hq'
   | goto l=>exact hq.elim
   | panic ch=>exact hq.elim
   | outgrown=>exact hq.elim
  ·exact h.elim
 | exit i=>exact fun ro hro k fr w n r x h hf ds=>wpIn_exit ⟨fr,[],rfl,hf,l5.refl _ _,eref w,Mk.nil _ _,h⟩
 | ret=>exact fun ro hro k fr w n r x h hf ds=>wpIn_ret ⟨fr,[],rfl,hf,l5.refl _ _,eref w,Mk.nil _ _,h⟩
 | label l=>exact fun ro hro k fr w n r x h hf ds=>wpIn_label ⟨fr,[],rfl,hf,l5.refl _ _,eref w,Mk.nil _ _,h⟩
 | rangeFunc f ps a b iha ihb =>
  intro ro hro k fr w n r x h hf ds
  obtain ⟨rfl,hrf,hEE⟩:=hro rfl
  simp only [den] at h
  obtain ⟨hab,h⟩:=bR.1 h
  simp only [SB,Tt] at hab
  split at h
  ·rename_i g first cap lv hv hlv
   obtain ⟨hg2,h⟩:=bR.1 h
   obtain ⟨hg1,h⟩:=bR.1 h
   exact Jt hrf hT hF hE hEE A (fun ro k=>iha ro (fun e=>by rw [hab.1] at e; cases e) k) (fun ro k=>ihb ro (fun e=>by rw [hab.2] at e; cases e) k) hv hg1 hg2 h hf
  ·exact h.elim
 | scope a iha =>
  intro ro hro k fr w n r x h hf ds
  exact Gt (fun l a w hq=>hq.elim) (iha ro (fun h=>hro (by simpa [cW] using h)) k fr w n r x h hf ds)
 | goto l=>exact fun ro hro k fr w n r x h hf ds=>h.elim
 | refuse y=>exact fun ro hro k fr w n r x h hf ds=>h.elim
end
end Go.V
namespace Go.V
section
variable {P:Program} {Ty:TypeId→Option di} {Fn:FuncId→Bool} {E:World→World→Prop} {N:Nat}
theorem KY {w w' : World} (h:hp w' = hp w) {a:Addr} {i:di} {v:Value} (hl:me w a i v):me w' a i v:=by
 unfold me at *
 split at hl
 ·rename_i hk; obtain ⟨vs,h1,h2⟩:=hl; exact ⟨vs,by rw [Ej h]; exact h1,h2⟩
 ·rename_i hk; show w'.cell? a = _; rw [fv h]; exact hl
def QW (tmps:Array Value):ResultVar→Sem Value
 | .tmp t=>pure (tmps.getD t undef)
 | .cell a t=>do loadVar t (← asAddr (tmps.getD a undef))
theorem go_sound (hT:dy P Ty) {fr:Fr} {ds:List Deferred} {w:World} (hf:Fits N fr):∀ (l:List ResultVar) (k:List Value→Prop),Ji.go Ty fr w l k →
  ∃ vs,(∀ w',hp w' = hp w→(l.mapM (QW (aP N fr ds).tmps)).run P w' = .ok vs w')∧k vs
 | [],k,h=>⟨[],fun w' _=>rfl,h⟩
 | .tmp t :: l,k,h=>by
  obtain ⟨vs,h1,h2⟩:=go_sound hT hf l _ h
  refine ⟨_,fun w' hw=>?_,h2⟩
  rw [List.mapM_cons,Sem.run_bind]
  show (Sem.run P (pure ((aP N fr ds).tmps.getD t undef)) w').andThen _ = _
  simp only [Sem.run_pure,Result.andThen_ok,Sem.run_bind]
  rw [h1 w' hw,sj N fr ds hf]
  simp
 | .cell a t :: l,k,h=>by
  unfold Ji.go at h
  split at h
  ·rename_i p i ha hi
   obtain ⟨ad,hp',h5⟩:=vl h
   subst hp'
   obtain ⟨v,hl,h6⟩:=Et h5
   obtain ⟨vs,h1,h2⟩:=go_sound hT hf l _ h6
   refine ⟨_,fun w' hw=>?_,h2⟩
   rw [List.mapM_cons,Sem.run_bind]
   show (Sem.run P (do loadVar t (← asAddr ((aP N fr ds).tmps.getD a undef))) w').andThen _ = _
   simp only [Sem.run_bind,sj N fr ds hf,ha,asAddr,Sem.run_pure,Result.andThen_ok]
   rw [Cn hT hi (KY hw hl)]
   simp only [Result.andThen_ok,Sem.run_bind]
   rw [h1 w' hw]
   simp
  ·exact h.elim
theorem Jv (hT:dy P Ty) {fn:Func} {fr:Fr} {ds:List Deferred} {w:World} (hf:Fits N fr) {R:Value→Prop} (h:Ji P Ty fn.results.toList fr w R) :
  ∃ v,(∀ w',hp w' = hp w→(results fn (aP N fr ds).tmps).run P w' = .ok v w')∧R v:=by
 obtain ⟨vs,h1,h2⟩:=go_sound (ds:=ds) hT hf _ _ h
 refine ⟨if h:vs.length = 1 then vs[0] else .tuple ⟨vs⟩,fun w' hw=>?_,?_⟩
 ·have he:results fn (aP N fr ds).tmps = (do let vs ← fn.results.mapM (QW (aP N fr ds).tmps); pure (if h:vs.size = 1 then vs[0] else .tuple vs)):=by
   unfold results
   congr 2
  rw [he,Array.mapM_eq_mapM_toList,map_eq_pure_bind]
  simp only [Sem.run_bind]
  rw [h1 w' hw]
  simp
 ·split at h2
  ·simpa using h2
  ·rename_i hne
   split
   ·rename_i hl
    cases vs with
    | nil=>simp at hl
    | cons v l=>cases l with
     | nil=>exact absurd rfl (hne v)
     | cons _ _=>simp at hl
   ·exact h2
theorem yK {F:Fence} {n:Nat} {fn:Func} {tmps:Array Value} {R:Ending→World→Prop} {w0:World} (hE:C3 E):∀ (Ds:List Nat) (w:World),Ds.Nodup→(∀ D∈Ds,w0.heap.size≤D∧w.heap[D]? = some (Obj.deferred (some [])))→Ev w0 w →
  (∀ w',hp w' = hp w→Ev w0 w'→∃ v,(results fn tmps).run P w' = .ok v w'∧R (.returned v) w')→LeavesInM F n P fn tmps R (Ds.map Kp) .returning w
 | [],w,_,_,he,h=>h w rfl he
 | D :: Ds,w,hn,hD,he,h=>by
  obtain ⟨h1,h2⟩:=hD D (by simp)
  rw [Te] at hn
  refine ⟨(by intro h; cases h),.inl ⟨D,_,rfl,run_takeDeferred h2,?_⟩⟩
  have hhp:hp (w.putObj D (.deferred none)) = hp w:=M8 h2
  have he' : Ev w0 (w.putObj D (.deferred none)):=by
   refine ⟨he.os,he.tape,he.output,by simpa using he.size,fun b d hb=>?_,fun b d hb=>?_⟩
   ·rw [World.putObj_heap_other]; exact he.dfr _ _ hb
    have:=(S3.1 hb).1; omega
   ·rw [World.putObj_heap_other]; exact he.lop _ _ hb
    have:=(S3.1 hb).1; omega
  refine yK hE Ds _ hn.2 (fun D' h'=>?_) he' fun w' g1 g2=>h w' (g1.trans hhp) g2
  refine ⟨(hD D' (by simp [h'])).1,?_⟩
  rw [World.putObj_heap_other]
  ·exact (hD D' (by simp [h'])).2
  ·intro e; subst e; exact hn.1 h'
theorem vr:∀ (l:List Value) (i t:Nat),dj (Ep i l) t = if i≤t then (l[t - i]?).getD undef else undef
 | [],i,t=>by simp [Ep,dj]
 | v :: l,i,t=>by
  simp only [Ep]
  rw [xi,vr l (i + 1) t]
  by_cases h:i = t
  ·subst h; simp
  ·rw [Sr h]
   by_cases h2:i + 1≤t
   ·rw [Sz h2,Sz (by omega)]
    have:t - i = (t - (i + 1)) + 1:=by omega
    rw [this]; simp
   ·rw [Sr h2,Sr (by omega)]
theorem KZ (hT:dy P Ty) (hF:vm P Fn) (hm:P.follows .mixedOrders = true) {f:FuncId} {fn:Func} (hfn:P.funcs[f]? = some fn) (A:bj) (hE:C3 E)
  (hro:(match fn.body with | some c=>cW c | none=>false) = true→∀ a b,E a b→Ev a b) {args:List Value} {w:World} {R:Value→World→Prop}
  (h:QE P Ty Fn E A fn args w R):au P E f args w R:=by
 unfold QE at h
 cases hb:fn.body with
 | none=>rw [hb] at h; exact h.elim
 | some c =>
  rw [hb] at h hro
  dsimp only at h hro
  obtain ⟨hle,h⟩:=dQ h
  have hle:=Kt _ _ hle
  refine callsIn_wide.1 (callsIn_of_wp_marks (F:=Fence.wide) (n:=0) hfn hb trivial ?_)
  have ha:({ tmps:=(⟨args⟩ : Array Value) ++ Array.replicate (fn.ntmps - (⟨args⟩ : Array Value).size) undef,defers:=[] }:Act) = aP fn.ntmps (Ep 0 args) []:=by
   simp only [aP,Act.mk.injEq,and_true]
   apply TF
   apply Tb
   intro i
   simp only [Array.toList_append,Array.toList_replicate,Sn]
   by_cases hi:i < args.length
   ·rw [Sw hi,TA (by omega)]
    simp [vr,hi]
   ·rw [SC (by omega)]
    by_cases hi2:i < fn.ntmps
    ·rw [TA hi2]
     have:args[i]? = none:=SH (by omega)
     have h3:i - args.length < fn.ntmps - args.length:=by omega
     simp [vr,this,h3]
    ·have:(List.range fn.ntmps)[i]? = none:=SH (by simp; omega)
     rw [this]; simp; omega
  rw [ha]
  have hfit:Fits fn.ntmps (Ep 0 args):=fun t ht=>by
   rw [vr,Sz (Sv _),SH (by omega)]; rfl
  have fin:∀ a' w',(∃ fr ds',a' = aP fn.ntmps fr (ds' ++ [])∧Fits fn.ntmps fr∧l5 (nt c) (Ep 0 args) fr∧E w w'∧Mk (cW c) w w' ds'∧Ji P Ty fn.results.toList fr w' fun v=>KI c R v w') →
    LeavesInM Fence.wide 0 P fn a'.tmps (fun e w'=>∃ v,e = .returned v∧E w w'∧R v w') a'.defers .returning w':=by
   rintro a' w' ⟨fr,ds',rfl,h1,h2,h3,⟨h0,Ds,rfl,h4,h5⟩,h6⟩
   obtain ⟨v,g1,g2⟩:=Jv (ds:=(Ds.map Kp) ++ []) hT h1 h6
   show LeavesInM Fence.wide 0 P fn (aP fn.ntmps fr (Ds.map Kp ++ [])).tmps _ (Ds.map Kp ++ []) .returning w'
   cases hrf:cW c with
   | true =>
    have hEE:=hro hrf
    simp only [KI,hrf,cond_true] at g2
    generalize (aP fn.ntmps fr (Ds.map Kp ++ [])).tmps = tm at g1
    rw [S6]
    exact yK hE Ds w' h4 h5 (hEE _ _ h3) fun w2 k1 k2=>⟨v,g1 w2 k1,v,rfl,hE.ofEv _ _ k2,g2 w2 k1⟩
   | false =>
    simp only [KI,hrf,cond_false] at g2
    have hd:=h0 hrf
    generalize (aP fn.ntmps fr (Ds.map Kp ++ [])).tmps = tm at g1
    rw [hd]
    exact ⟨v,g1 w' rfl,v,rfl,h3,g2⟩
  refine wpIn_mono (Ju hT hF hE hm A c none (fun hh=>⟨rfl,hh,hro hh⟩) 0 _ w _ _ _ h hfit []) fun e a' w' hq=>?_
  cases e with
  | normal=>exact fin a' w' hq
  | ret=>exact fin a' w' hq
  | exit i=>obtain ⟨_,_,_,_,_,_,_,hh⟩:=hq; exact hh.elim
  | goto l=>exact hq.elim
  | panic ch=>exact hq.elim
  | outgrown=>exact hq.elim
def Po (fn:Func):Bool:=match fn.body with | some c=>cW c | none=>false
theorem Pp (hT:dy P Ty) (hF:vm P Fn) (hm:P.follows .mixedOrders = true) {f:FuncId} {fn:Func} (hfn:P.funcs[f]? = some fn) (A:bj) {args:List Value} {w:World} {R:Value→World→Prop}
  (h:QE P Ty Fn Ev A fn args w R):aC P f args w R:=KZ hT hF hm hfn A RG (fun _ _ _ h=>h) h
theorem Nq (hT:dy P Ty) (hF:vm P Fn) (hm:P.follows .mixedOrders = true) {f:FuncId} {fn:Func} (hfn:P.funcs[f]? = some fn) (A:bj) (hE:C3 E) (hb:Po fn = false) {args:List Value} {w:World} {R:Value→World→Prop}
  (h:QE P Ty Fn E A fn args w R):au P E f args w R:=KZ hT hF hm hfn A hE (fun h=>absurd (hb.symm.trans h) (by simp)) h
end
abbrev WP:=World→Prop
abbrev lP (l:List (Nat × S1)):=z8 (ve l) (World→Prop)
abbrev lN (l:List (Nat × S1)):=z8 (ve l) (World→Nat)
abbrev aI:S1:=S1.one (Cs.int IntKind.i64)
abbrev js:S1:=S1.one Cs.slice
abbrev yL:S1:=S1.one Cs.bool
abbrev iI (n:Int):Value:=.int .i64 n
abbrev vS (a:Option Addr) (l c:Nat):Value:=.slice a l c
abbrev vP (a:Option Addr):Value:=.pointer a
abbrev vB (b:Bool):Value:=.bool b
abbrev vA (a:Array Value):Value:=.agg a
abbrev vG (l:List Value):Value:=.agg (Array.mk l)
abbrev vT (a:Array Value):Value:=.tuple a
abbrev aM (k:Nat):Addr:=⟨k,0,none⟩
abbrev oC (l:List Value) (t:TypeId):Obj:=.cells (Array.mk l) t
abbrev f_ (t:TypeId) (xs:Array Value):Sem Value:=Builtin.append_ (Array.mk [t,t]) t xs
end Go.V
namespace Go.V
def aR (b:Nat) (vs:List Value):aw:=fun h=>∃ e,h b = some (.cells ⟨vs⟩ e (0,0))
section
variable {P:Program} {w w' : World} {L:List aw} {b:Nat} {vs:List Value} {e:TypeId} {A B C D:aw}
theorem iB:St w (aR b vs :: L)↔∃ e,St w (blk b (.cells ⟨vs⟩ e (0,0)) :: L) :=
 ⟨fun ⟨h1,h2,d,s1,s2,⟨e,ha⟩,hl⟩=>⟨e,h1,h2,d,s1,s2,ha,hl⟩,fun ⟨e,h1,h2,d,s1,s2,ha,hl⟩=>⟨h1,h2,d,s1,s2,⟨e,ha⟩,hl⟩⟩
theorem St.cell (h:St w (aR b vs :: L)) (i:Nat):w.cell? ⟨b,i,none⟩ = vs[i]?:=by
 obtain ⟨e,h⟩:=iB.1 h
 have:=h.get
 simp [World.cell?,this]
theorem St.frozen (h:St w (aR b vs :: L)) (i:Nat) (s:Option _):w.frozen? ⟨b,i,s⟩ = false:=by
 obtain ⟨e,h⟩:=iB.1 h
 have:=h.get
 simp [World.frozen?,this]
theorem St.Pq (h:St w (aR b vs :: L)) (i:Nat) (v:Value):St (w.setCell ⟨b,i,none⟩ v) (aR b (vs.set i v) :: L):=by
 obtain ⟨e,h⟩:=iB.1 h
 have:=St.setCell h i v
 have e2:(⟨vs⟩ : Array Value).setIfInBounds i v = ⟨vs.set i v⟩:=by simp
 rw [e2] at this
 exact iB.2 ⟨e,this⟩
theorem mg {o:Obj} {k:Nat→World→Prop} (h:St w L) (hk:∀ b w',St w' (blk b o :: L)→k b w') (ho:Eg o = true:=by rfl):new w o k :=
 fun b w' hb hw=>by subst hb; subst hw; exact hk _ _ (h.push o ho)
theorem ah {k:Nat→World→Prop} (h:St w L) (hk:∀ b w',St w' (aR b vs :: L)→k b w'):new w (.cells (Array.mk vs) e) k:=mg h fun b w' h=>hk b w' (iB.2 ⟨_,h⟩)
theorem bg {i:Nat} {v:Value} {k:World→Prop} (h:St w (aR b vs :: L)) (hi:i < vs.length) (hk:∀ w',St w' (aR b (vs.set i v) :: L)→k w') (hv:aS v = true:=by rfl):st1 w ⟨b,i,none⟩ v k :=
 ⟨⟨vs[i],by rw [h.cell]; simp [hi]⟩,h.frozen i none,hv,fun w' hw=>by subst hw; exact hk _ (h.Pq i v)⟩
theorem St.setCells:∀ (news pre post:List Value) {w:World},news.length≤post.length→St w (aR b (pre ++ post) :: L)→St (w.setCells b pre.length news) (aR b (pre ++ news ++ post.drop news.length) :: L)
 | [],pre,post,w,_,h=>by simpa [World.setCells] using h
 | v :: r,pre,[],w,hl,h=>by simp at hl
 | v :: r,pre,p :: post,w,hl,h=>by
  have h1:=h.Pq pre.length v
  have e1:(pre ++ p :: post).set pre.length v = (pre ++ [v]) ++ post:=by simp
  rw [e1] at h1
  have h2:=St.setCells r (pre ++ [v]) post (by simpa using hl) h1
  have e2:(pre ++ [v]).length = pre.length + 1:=by simp
  rw [e2] at h2
  simpa [World.setCells] using h2

theorem add_lit (b o j:Nat):(⟨b,o,none⟩ : Addr).add j = ⟨b,o + j,none⟩:=by cases j <;> simp [Addr.add]
theorem aO (b j:Nat):(⟨b,0,none⟩ : Addr).add j = ⟨b,j,none⟩:=by rw [add_lit]; simp
theorem add_add (a:Addr) (i j:Nat):(a.add i).add j = a.add (i + j):=by
 unfold Addr.add
 by_cases hi:i = 0
 ·subst hi; simp
 ·by_cases hj:j = 0
  ·subst hj; simp [hi]
  ·simp [hi,hj,Nat.add_assoc]
def own (sz:Nat) (a:Option Addr) (l c:Nat) (vs:List Value):aw:=fun h =>
 (a = none∧l = 0∧c = 0∧vs = [])∨∃ b pre cs post,a = some ⟨b,List.length pre,none⟩∧aR b (pre ++ (vs ++ (cs ++ post))) h∧vs.length = l * sz∧(vs ++ cs).length = c * sz∧l≤c
theorem aB (sz:Nat) (h:St w L):St w (own sz none 0 0 [] :: L) :=
 ⟨fun _=>none,hp w,fun _=>.inl rfl,fun _ _ h=>(nomatch h),sub.refl _,.inl ⟨rfl,rfl,rfl,rfl⟩,h⟩
theorem da {sz l c:Nat} {a:Option Addr} (h:St w (own sz a l c vs :: L)) :
  (a = none∧l = 0∧c = 0∧vs = [])∨∃ b pre cs post,a = some ⟨b,List.length pre,none⟩∧St w (aR b (pre ++ (vs ++ (cs ++ post))) :: L)∧vs.length = l * sz∧(vs ++ cs).length = c * sz∧l≤c:=by
 obtain ⟨h1,h2,d,s1,s2,ha,hl⟩:=h
 rcases ha with ha | ⟨b,pre,cs,post,h3,h4,h5,h6,h7⟩
 ·exact .inl ha
 ·exact .inr ⟨b,pre,cs,post,h3,⟨h1,h2,d,s1,s2,h4,hl⟩,h5,h6,h7⟩
theorem d_ {sz l c:Nat} {pre cs post:List Value} (h:St w (aR b (pre ++ (vs ++ (cs ++ post))) :: L)) (h1:vs.length = l * sz) (h2:(vs ++ cs).length = c * sz) (h3:l≤c):St w (own sz (some ⟨b,pre.length,none⟩) l c vs :: L) :=
 h.head fun h ha=>.inr ⟨b,pre,cs,post,rfl,ha,h1,h2,h3⟩
theorem eX {sz l c:Nat} {cs:List Value} (h:St w (aR b (vs ++ cs) :: L)) (h1:vs.length = l * sz) (h2:(vs ++ cs).length = c * sz) (h3:l≤c):St w (own sz (some ⟨b,0,none⟩) l c vs :: L) :=
 d_ (pre:=[]) (post:=[]) (by simpa using h) h1 h2 h3
theorem ea {sz l c:Nat} {a:Option Addr} (h:St w (own sz a l c vs :: L)):vs.length = l * sz:=by
 rcases da h with ⟨_,rfl,_,rfl⟩ | ⟨_,_,_,_,_,_,h,_⟩
 ·simp
 ·exact h
theorem dJ {sz l c:Nat} {a:Option Addr} (h:St w (own sz a l c vs :: L)):l≤c:=by
 rcases da h with ⟨_,rfl,_,rfl⟩ | ⟨_,_,_,_,_,_,_,_,h⟩
 ·omega
 ·exact h
theorem bH {sz l c:Nat} {a:Option Addr} (h:St w (own sz a l c vs :: L)) {j:Nat} {v:Value} (hj:vs[j]? = some v):∃ ad,a = some ad∧w.cell? (ad.add j) = some v:=by
 rcases da h with ⟨_,_,_,rfl⟩ | ⟨b,pre,cs,post,rfl,h,_⟩
 ·simp at hj
 ·refine ⟨_,rfl,?_⟩
  rw [add_lit,h.cell,SC (by omega),Tr,Sw (Sk.1 hj).1]; exact hj
theorem Nr {t tx ty:TypeId} {i:TypeInfo} {z:Value} (ht:P.underlying t = some (.slice e)) (hi:P.info? e = some i) (hz:i.zero = some z) (hzs:z.cells.size = i.size)
  {a:Option Addr} {l c:Nat} (h:St w (own i.size a l c vs :: L)) {x:Value} {n:Nat} {news:List Value} (hs:Src P i.size tx x n news w) (hb:(l + n) * i.bytes≤140737488355328) (h63:l + n≤9223372036854775807) :
  az P (Builtin.append_ (Array.mk [t,tx]) ty (Array.mk [.slice a l c,x])) w fun v w'=>∃ a' c',v = .slice a' (l + n) c'∧St w' (own i.size a' (l + n) c' (vs ++ news) :: L):=by
 have hnl:=hs.newsLen
 have grow:c < l + n→(Builtin.firstCells i.size l (.slice a l c)).run P w.drew = .ok vs.toArray w.drew→(vs.length = l * i.size)→St w L →
   az P (Builtin.append_ (Array.mk [t,tx]) ty (Array.mk [.slice a l c,x])) w fun v w'=>∃ a' c',v = .slice a' (l + n) c'∧St w' (own i.size a' (l + n) c' (vs ++ news) :: L):=by
  intro hg hold hvl hL
  have hr:=run_append_grow_src (P:=P) w t tx ty e i z ht hi hz a l c vs hold x n news hs hg (by omega) (growslice_fits hg hb)
  refine ⟨_,_,hr,(Ev.drew w _).trans (Ev.push _ _),_,_,rfl,?_⟩
  have hge:=grownCap_ge w (l + n) c e
  have h1:St w.drew L:=hL.same rfl
  have h2:=h1.push (.cells ((vs ++ news).toArray ++ Builtin.zeroCells z.cells (grownCap w (l + n) c e - (l + n))) e)
  have h3:St (w.drew.alloc (.cells ((vs ++ news).toArray ++ Builtin.zeroCells z.cells (grownCap w (l + n) c e - (l + n))) e)) (aR w.heap.size ((vs ++ news) ++ (Builtin.zeroCells z.cells (grownCap w (l + n) c e - (l + n))).toList) :: L):=by
   have:((vs ++ news).toArray ++ Builtin.zeroCells z.cells (grownCap w (l + n) c e - (l + n))) = ⟨(vs ++ news) ++ (Builtin.zeroCells z.cells (grownCap w (l + n) c e - (l + n))).toList⟩:=by apply TF; simp
   rw [this] at h2 ⊢; exact iB.2 ⟨_,h2⟩
  refine eX h3 ?_ ?_ hge
  ·rw [Sx,hvl,hnl,Nat.add_mul]
  ·rw [Sx,Sx,hvl,hnl,← Nat.add_mul,Array.length_toList,size_zeroCells,hzs,← Nat.add_mul]
   congr 1; omega
 rcases da h with ⟨rfl,rfl,rfl,rfl⟩ | ⟨b,pre,cs,post,rfl,hc,h1,h2,h3⟩
 ·rcases Nat.eq_zero_or_pos n with rfl | hn
  ·have:news = []:=SV (by simpa using hnl)
   subst this
   refine ⟨.slice none 0 0,w,?_,Ev.refl w,none,0,rfl,h⟩
   rcases hs.kind with ⟨e',hk⟩ | hk <;> simp [Builtin.append_,run_underlying ht,run_underlying hk,sizeOf,typeInfo,hi,hs.len,hs.cells,storeCells]
  ·exact grow (by omega) (run_firstCells_none w.drew _ _ _ _) (by simp) h.tail
 ·by_cases hroom:l + n≤c
  ·have hcl:news.length≤cs.length:=by
    have h4:(l + n) * i.size≤c * i.size:=TT _ hroom
    rw [Sx,h1] at h2
    rw [Nat.add_mul] at h4
    omega
   have hr:=run_append_room_src (P:=P) w t tx ty e i ht hi b pre.length l c x n news hs hroom
    (fun j hj=>by
     rw [hc.cell,← h1]
     have hlt:pre.length + vs.length + j < (pre ++ (vs ++ (cs ++ post))).length:=by simp; omega
     simp only [Sm hlt,Option.isSome_some])
    (fun j hj=>hc.frozen _ _)
   have e0:pre ++ (vs ++ (cs ++ post)) = (pre ++ vs) ++ (cs ++ post):=by simp
   rw [e0] at hc
   have h5:=hc.setCells news (pre ++ vs) (cs ++ post) (by simp; omega)
   rw [Sx,h1] at h5
   refine ⟨_,_,hr,?_,_,_,rfl,?_⟩
   ·have:∀ (news:List Value) (w0 w:World) (o:Nat),Ev w0 w→Ev w0 (w.setCells b o news):=by
     intro news
     induction news with
     | nil=>exact fun _ _ _ h=>h
     | cons v r ih=>exact fun w0 w o h=>ih w0 _ (o + 1) (h.trans (Ev.setCell w _ v))
    exact this news w w _ (Ev.refl w)
   ·have e1:(pre ++ vs) ++ news ++ (cs ++ post).drop news.length = pre ++ ((vs ++ news) ++ (cs.drop news.length ++ post)):=by
     rw [List.drop_append_of_le_length hcl]; simp
    rw [e1] at h5
    refine d_ h5 ?_ ?_ hroom
    ·rw [Sx,h1,hnl,Nat.add_mul]
    ·rw [Sx] at h2 ⊢
     rw [Sx,TO,← h2]; omega
  ·refine grow (by omega) (run_firstCells_some w.drew _ _ _ _ _ _ h1 fun j v hj=>?_) h1 h.tail
   rw [add_lit]
   have:=hc.cell (pre.length + j)
   rw [SC (by omega),Tr,Sw (Sk.1 hj).1,hj] at this
   exact this
theorem eY {Ty:TypeId→Option di} (hT:dy P Ty) {t tx ty:TypeId} {i:di} {z:Value} (hk:ag Ty t = .slice e) (hi:Ty e = some i) (hz:i.zero = some z) (hzs:(cellsOf z).length = i.size)
  {a:Option Addr} {l c:Nat} (h:St w (own i.size a l c vs :: L)) {x:Value} {n:Nat} {news:List Value} (hs:Src P i.size tx x n news w) (hb:(l + n) * i.bytes≤140737488355328) (h63:l + n≤9223372036854775807) :
  az P (Builtin.append_ (Array.mk [t,tx]) ty (Array.mk [.slice a l c,x])) w fun v w'=>∃ a' c',v = .slice a' (l + n) c'∧St w' (own i.size a' (l + n) c' (vs ++ news) :: L):=by
 obtain ⟨d,hd,hd'⟩:=cX hT hk (by simp)
 rw [ga hd'] at hd
 obtain ⟨info,d2,ha⟩:=qd hT hi
 have hzz:z.cells.size = info.size:=by rw [← ha.size,← hzs,cT]; simp
 rw [ha.size] at *
 rw [ha.bytes] at hb
 exact Nr hd ha.inf (by rw [← ha.zero,hz]) hzz h hs hb h63
theorem dE {Ty:TypeId→Option di} (hT:dy P Ty) {tx e' : TypeId} (hk:ag Ty tx = .slice e') {size:Nat} {a:Option Addr} {n c:Nat} {news:List Value} (hl:news.length = n * size)
  (hn:n = 0∨∃ ad,a = some ad∧∀ j u,news[j]? = some u→w.cell? (ad.add j) = some u) (h1:∀ u∈news,aS u = true):Src P size tx (.slice a n c) n news w:=by
 obtain ⟨d,hd,hd'⟩:=cX hT hk (by simp)
 rw [ga hd'] at hd
 cases a with
 | none =>
  rcases hn with rfl | ⟨ad,h,_⟩
  ·have:news = []:=SV (by simpa using hl)
   subst this
   exact Src.ofNil w hd c
  ·cases h
 | some ad =>
  refine Src.ofSlice w hd ad n c news hl ?_ fun u hu=>by rw [← HQ]; exact h1 u hu
  rcases hn with rfl | ⟨ad',h,hc⟩
  ·have:news = []:=SV (by simpa using hl)
   subst this; intro j u hj; simp at hj
  ·cases h; exact hc
end
end Go.V
namespace Go.V
theorem wrap_u64 (n:Nat) (h:n < 2 ^ 64):IntKind.u64.wrap (n:Int) = n:=by
 have:(n:Int) % (18446744073709551616:Int) = n:=Int.emod_eq_of_lt (by omega) (by omega)
 simp [IntKind.wrap,IntKind.signed,IntKind.bits,this]
theorem vt (n:Nat):BitVec.ofInt 64 (n:Int) = BitVec.ofNat 64 n:=by
 apply BitVec.eq_of_toNat_eq; simp
theorem As {a b:Nat} (ha:a < 2 ^ 64) (hb:b < 2 ^ 64):jy .and .u64 (a:Int) (b:Int) = ((a &&& b:Nat):Int):=by
 show IntKind.u64.wrap (((BitVec.ofInt 64 (a:Int)) &&& (BitVec.ofInt 64 (b:Int))).toNat:Int) = _
 rw [vt,vt,BitVec.toNat_and,BitVec.toNat_ofNat,BitVec.toNat_ofNat,Nat.mod_eq_of_lt ha,Nat.mod_eq_of_lt hb]
 exact wrap_u64 _ (Nat.and_lt_two_pow _ hb)
theorem Ns {a b:Nat} (ha:a < 2 ^ 64) (hb:b < 2 ^ 64):jy .or .u64 (a:Int) (b:Int) = ((a ||| b:Nat):Int):=by
 show IntKind.u64.wrap (((BitVec.ofInt 64 (a:Int)) ||| (BitVec.ofInt 64 (b:Int))).toNat:Int) = _
 rw [vt,vt,BitVec.toNat_or,BitVec.toNat_ofNat,BitVec.toNat_ofNat,Nat.mod_eq_of_lt ha,Nat.mod_eq_of_lt hb]
 exact wrap_u64 _ (Nat.or_lt_two_pow ha hb)
theorem K1 {s:Nat} (h:s < 64):Kz .u64 1 (s:Int) = ((2 ^ s:Nat):Int):=by
 simp only [Kz,IntKind.bits,SJ,Int.one_mul]
 rw [TW (by omega)]
 have h1:((2:Int) ^ s) = ((2 ^ s:Nat):Int):=by simp
 rw [h1,wrap_u64 _ (Nat.pow_lt_pow_right (by omega) h)]
theorem EK {n s:Nat} (h:s < 64):y6 .u64 (n:Int) (s:Int) = ((n / 2 ^ s:Nat):Int):=by
 simp only [y6,IntKind.bits,SJ]
 rw [TW (by omega)]
 have h1:((2:Int) ^ s) = ((2 ^ s:Nat):Int):=by simp
 rw [h1,Int.fdiv_eq_ediv_of_nonneg _ (S_ _)]
 simp
theorem Au (k:Nat):Int.tdiv (k:Int) 64 = ((k / 64:Nat):Int):=by
 rw [Int.tdiv_eq_ediv_of_nonneg (by omega)]; simp
theorem K2 (k:Nat):Int.tmod (k:Int) 64 = ((k % 64:Nat):Int):=by
 rw [Int.tmod_eq_emod_of_nonneg (by omega)]; simp
theorem K3 {n s:Nat} (hn:n < 2 ^ 64) (h:s < 64):(jy .and .u64 (y6 .u64 (n:Int) (s:Int)) 1 == 1) = n.testBit s:=by
 rw [EK h]
 have:(1:Int) = ((1:Nat):Int):=rfl
 rw [this,As (Nat.lt_of_le_of_lt (Nat.div_le_self _ _) hn) (by omega)]
 rw [Nat.testBit_eq_decide_div_mod_eq,Nat.and_one_is_mod]
 by_cases hh:n / 2 ^ s % 2 = 1
 ·simp [hh]
 ·have h0:n / 2 ^ s % 2 = 0:=by omega
  simp [h0]
end Go.V
namespace Go.V
def M (c:Nat):Nat→Nat
 | 0=>0
 | n + 1=>256 * M c n + c
def pc (n x:Nat):Nat:=((List.range n).filter x.testBit).length
def a1 (l:Nat):Nat:=((l / 2 ^ 1) &&& 85) + (l &&& 85)
def a2 (l:Nat):Nat:=((l / 2 ^ 2) &&& 51) + (l &&& 51)
end Go.V
namespace Go.Proofs.YtngdohpikfcifaaGreatDoor
open Go.V
def Pr:List (TypeId × di):=[
 (0,⟨.tuple,1,0,(some (.tuple #[])),[],[],false⟩),
 (1,⟨.func,1,8,(some .nilFunc),[],[],false⟩),
 (2,⟨(.int .i64),1,8,(some (.int .i64 0)),[],[],true⟩),
 (3,⟨(.int .i64),1,8,(some (.int .i64 0)),[],[],true⟩),
 (4,⟨.bool,1,1,(some (.bool false)),[],[],true⟩),
 (5,⟨(.int .u8),1,1,(some (.int .u8 0)),[],[],true⟩),
 (6,⟨(.int .u8),1,1,(some (.int .u8 0)),[],[],true⟩),
 (7,⟨.struct,4,24,(some (.agg #[(.int .i64 0),(.int .i64 0),(.bool false),(.int .u8 0)])),[(0,1,false),(1,1,false),(2,1,false),(3,1,false)],[],true⟩),
 (8,⟨.struct,4,24,(some (.agg #[(.int .i64 0),(.int .i64 0),(.bool false),(.int .u8 0)])),[(0,1,false),(1,1,false),(2,1,false),(3,1,false)],[],true⟩),
 (9,⟨.string,1,16,(some (.string ⟨#[]⟩)),[],[],true⟩),
 (10,⟨.string,1,16,(some (.string ⟨#[]⟩)),[],[],true⟩),
 (11,⟨.string,1,16,(some (.string ⟨#[]⟩)),[],[],true⟩),
 (12,⟨(.int .u64),1,8,(some (.int .u64 0)),[],[],true⟩),
 (13,⟨.struct,2,24,(some (.agg #[(.string ⟨#[]⟩),(.int .u64 0)])),[(0,1,false),(1,1,false)],[],true⟩),
 (14,⟨.struct,2,24,(some (.agg #[(.string ⟨#[]⟩),(.int .u64 0)])),[(0,1,false),(1,1,false)],[],true⟩),
 (15,⟨(.ptr 241),1,8,(some (.pointer none)),[],[],true⟩),
 (16,⟨(.ptr 244),1,8,(some (.pointer none)),[],[],true⟩),
 (17,⟨(.ptr 252),1,8,(some (.pointer none)),[],[],true⟩),
 (18,⟨.struct,1,8,(some (.agg #[(.pointer none)])),[(0,1,false)],[],true⟩),
 (19,⟨.struct,1,8,(some (.agg #[(.pointer none)])),[(0,1,false)],[],true⟩),
 (20,⟨.iface,1,16,(some .nilIface),[],[],true⟩),
 (21,⟨(.int .i32),1,4,(some (.int .i32 0)),[],[],true⟩),
 (22,⟨(.slice 92),1,24,(some (.slice none 0 0)),[],[],false⟩),
 (23,⟨(.slice 9),1,24,(some (.slice none 0 0)),[],[],false⟩),
 (24,⟨(.slice 3),1,24,(some (.slice none 0 0)),[],[],false⟩),
 (25,⟨(.slice 55),1,24,(some (.slice none 0 0)),[],[],false⟩),
 (26,⟨.struct,5,104,(some (.agg #[(.slice none 0 0),(.slice none 0 0),(.slice none 0 0),(.int .i64 0),(.slice none 0 0)])),[(0,1,false),(1,1,false),(2,1,false),(3,1,false),(4,1,false)],[],false⟩),
 (27,⟨.struct,5,104,(some (.agg #[(.slice none 0 0),(.slice none 0 0),(.slice none 0 0),(.int .i64 0),(.slice none 0 0)])),[(0,1,false),(1,1,false),(2,1,false),(3,1,false),(4,1,false)],[],false⟩),
 (28,⟨.func,1,8,(some .nilFunc),[],[],false⟩),
 (29,⟨.func,1,8,(some .nilFunc),[],[],false⟩),
 (30,⟨(.slice 24),1,24,(some (.slice none 0 0)),[],[],false⟩),
 (31,⟨(.int .i64),1,8,(some (.int .i64 0)),[],[],true⟩),
 (32,⟨.tuple,1,0,(some (.tuple #[(.slice none 0 0),(.int .i64 0)])),[],[(.one .slice),(.one (.int .i64))],false⟩),
 (33,⟨.func,1,8,(some .nilFunc),[],[],false⟩),
 (34,⟨.func,1,8,(some .nilFunc),[],[],false⟩),
 (35,⟨.func,1,8,(some .nilFunc),[],[],false⟩),
 (36,⟨.func,1,8,(some .nilFunc),[],[],false⟩),
 (37,⟨(.slice 45),1,24,(some (.slice none 0 0)),[],[],false⟩),
 (38,⟨.tuple,1,0,(some (.tuple #[(.slice none 0 0),(.int .i64 0)])),[],[(.one .slice),(.one (.int .i64))],false⟩),
 (39,⟨.func,1,8,(some .nilFunc),[],[],false⟩),
 (40,⟨(.slice 49),1,24,(some (.slice none 0 0)),[],[],false⟩),
 (41,⟨.tuple,1,0,(some (.tuple #[(.slice none 0 0),(.int .i64 0)])),[],[(.one .slice),(.one (.int .i64))],false⟩),
 (42,⟨.func,1,8,(some .nilFunc),[],[],false⟩),
 (43,⟨.func,1,8,(some .nilFunc),[],[],false⟩),
 (44,⟨.struct,3,40,(some (.agg #[(.int .i64 0),(.int .i64 0),(.slice none 0 0)])),[(0,1,false),(1,1,false),(2,1,false)],[],false⟩),
 (45,⟨.struct,3,40,(some (.agg #[(.int .i64 0),(.int .i64 0),(.slice none 0 0)])),[(0,1,false),(1,1,false),(2,1,false)],[],false⟩),
 (46,⟨.func,1,8,(some .nilFunc),[],[],false⟩),
 (47,⟨.func,1,8,(some .nilFunc),[],[],false⟩),
 (48,⟨.struct,3,40,(some (.agg #[(.int .i64 0),(.int .i64 0),(.slice none 0 0)])),[(0,1,false),(1,1,false),(2,1,false)],[],false⟩),
 (49,⟨.struct,3,40,(some (.agg #[(.int .i64 0),(.int .i64 0),(.slice none 0 0)])),[(0,1,false),(1,1,false),(2,1,false)],[],false⟩),
 (50,⟨(.slice 4),1,24,(some (.slice none 0 0)),[],[],false⟩),
 (51,⟨.tuple,1,0,(some (.tuple #[(.slice none 0 0),(.int .i64 0)])),[],[(.one .slice),(.one (.int .i64))],false⟩),
 (52,⟨.func,1,8,(some .nilFunc),[],[],false⟩),
 (53,⟨.func,1,8,(some .nilFunc),[],[],false⟩),
 (54,⟨.struct,3,40,(some (.agg #[(.int .i64 0),(.slice none 0 0),(.int .i64 0)])),[(0,1,false),(1,1,false),(2,1,false)],[],false⟩),
 (55,⟨.struct,3,40,(some (.agg #[(.int .i64 0),(.slice none 0 0),(.int .i64 0)])),[(0,1,false),(1,1,false),(2,1,false)],[],false⟩),
 (56,⟨.tuple,1,0,(some (.tuple #[(.slice none 0 0),(.bool false),(.int .i64 0)])),[],[(.one .slice),(.one .bool),(.one (.int .i64))],false⟩),
 (57,⟨.func,1,8,(some .nilFunc),[],[],false⟩),
 (58,⟨(.slice 73),1,24,(some (.slice none 0 0)),[],[],false⟩),
 (59,⟨.tuple,1,0,(some (.tuple #[(.slice none 0 0),(.int .i64 0)])),[],[(.one .slice),(.one (.int .i64))],false⟩),
 (60,⟨.func,1,8,(some .nilFunc),[],[],false⟩),
 (61,⟨(.slice 71),1,24,(some (.slice none 0 0)),[],[],false⟩),
 (62,⟨.struct,3,40,(some (.agg #[(.slice none 0 0),(.int .i64 0),(.int .i64 0)])),[(0,1,false),(1,1,false),(2,1,false)],[],false⟩),
 (63,⟨.struct,3,40,(some (.agg #[(.slice none 0 0),(.int .i64 0),(.int .i64 0)])),[(0,1,false),(1,1,false),(2,1,false)],[],false⟩),
 (64,⟨.tuple,1,0,(some (.tuple #[(.agg #[(.slice none 0 0),(.int .i64 0),(.int .i64 0)]),(.int .i64 0)])),[],[(.agg [.slice,(.int .i64),(.int .i64)]),(.one (.int .i64))],false⟩),
 (65,⟨.func,1,8,(some .nilFunc),[],[],false⟩),
 (66,⟨(.slice 76),1,24,(some (.slice none 0 0)),[],[],false⟩),
 (67,⟨.tuple,1,0,(some (.tuple #[(.slice none 0 0),(.int .i64 0)])),[],[(.one .slice),(.one (.int .i64))],false⟩),
 (68,⟨.func,1,8,(some .nilFunc),[],[],false⟩),
 (69,⟨(.slice 101),1,24,(some (.slice none 0 0)),[],[],false⟩),
 (70,⟨.struct,2,48,(some (.agg #[(.slice none 0 0),(.slice none 0 0)])),[(0,1,false),(1,1,false)],[],false⟩),
 (71,⟨.struct,2,48,(some (.agg #[(.slice none 0 0),(.slice none 0 0)])),[(0,1,false),(1,1,false)],[],false⟩),
 (72,⟨.struct,2,16,(some (.agg #[(.int .i64 0),(.int .i64 0)])),[(0,1,false),(1,1,false)],[],true⟩),
 (73,⟨.struct,2,16,(some (.agg #[(.int .i64 0),(.int .i64 0)])),[(0,1,false),(1,1,false)],[],true⟩),
 (74,⟨.func,1,8,(some .nilFunc),[],[],false⟩),
 (75,⟨.struct,2,16,(some (.agg #[(.int .i64 0),(.int .i64 0)])),[(0,1,false),(1,1,false)],[],true⟩),
 (76,⟨.struct,2,16,(some (.agg #[(.int .i64 0),(.int .i64 0)])),[(0,1,false),(1,1,false)],[],true⟩),
 (77,⟨.func,1,8,(some .nilFunc),[],[],false⟩),
 (78,⟨.func,1,8,(some .nilFunc),[],[],false⟩),
 (79,⟨.struct,10,192,(some (.agg #[(.slice none 0 0),(.slice none 0 0),(.slice none 0 0),(.int .i64 0),(.slice none 0 0),(.slice none 0 0),(.int .i64 0),(.int .i64 0),(.slice none 0 0),(.slice none 0 0)])),[(0,5,true),(5,3,true),(8,1,false),(9,1,false)],[],false⟩),
 (80,⟨.struct,10,192,(some (.agg #[(.slice none 0 0),(.slice none 0 0),(.slice none 0 0),(.int .i64 0),(.slice none 0 0),(.slice none 0 0),(.int .i64 0),(.int .i64 0),(.slice none 0 0),(.slice none 0 0)])),[(0,5,true),(5,3,true),(8,1,false),(9,1,false)],[],false⟩),
 (81,⟨.tuple,1,0,(some (.tuple #[(.agg #[(.slice none 0 0),(.slice none 0 0),(.slice none 0 0),(.int .i64 0),(.slice none 0 0),(.slice none 0 0),(.int .i64 0),(.int .i64 0),(.slice none 0 0),(.slice none 0 0)]),(.int .i64 0)])),[],[(.agg [.slice,.slice,.slice,(.int .i64),.slice,.slice,(.int .i64),(.int .i64),.slice,.slice]),(.one (.int .i64))],false⟩),
 (82,⟨.func,1,8,(some .nilFunc),[],[],false⟩),
 (83,⟨.func,1,8,(some .nilFunc),[],[],false⟩),
 (84,⟨(.ptr 80),1,8,(some (.pointer none)),[],[],true⟩),
 (85,⟨.func,1,8,(some .nilFunc),[],[],false⟩),
 (86,⟨.func,1,8,(some .nilFunc),[],[],false⟩),
 (87,⟨.struct,2,16,(some (.agg #[.nilFunc,.nilFunc])),[(0,1,false),(1,1,false)],[],false⟩),
 (88,⟨.struct,2,16,(some (.agg #[.nilFunc,.nilFunc])),[(0,1,false),(1,1,false)],[],false⟩),
 (89,⟨(.slice 88),1,24,(some (.slice none 0 0)),[],[],false⟩),
 (90,⟨.func,1,8,(some .nilFunc),[],[],false⟩),
 (91,⟨.struct,2,24,(some (.agg #[(.string ⟨#[]⟩),(.int .i64 0)])),[(0,1,false),(1,1,false)],[],true⟩),
 (92,⟨.struct,2,24,(some (.agg #[(.string ⟨#[]⟩),(.int .i64 0)])),[(0,1,false),(1,1,false)],[],true⟩),
 (93,⟨(.ptr 99),1,8,(some (.pointer none)),[],[],true⟩),
 (94,⟨.tuple,1,0,(some (.tuple #[(.pointer none),(.int .i64 0)])),[],[(.one .ptr),(.one (.int .i64))],false⟩),
 (95,⟨.func,1,8,(some .nilFunc),[],[],false⟩),
 (96,⟨.func,1,8,(some .nilFunc),[],[],false⟩),
 (97,⟨(.map 73 3),1,8,(some (.map none)),[],[],false⟩),
 (98,⟨.struct,9,152,(some (.agg #[(.slice none 0 0),(.slice none 0 0),(.slice none 0 0),(.int .i64 0),(.slice none 0 0),(.slice none 0 0),(.int .i64 0),(.int .i64 0),(.map none)])),[(0,5,true),(5,3,true),(8,1,false)],[],false⟩),
 (99,⟨.struct,9,152,(some (.agg #[(.slice none 0 0),(.slice none 0 0),(.slice none 0 0),(.int .i64 0),(.slice none 0 0),(.slice none 0 0),(.int .i64 0),(.int .i64 0),(.map none)])),[(0,5,true),(5,3,true),(8,1,false)],[],false⟩),
 (100,⟨.struct,2,16,(some (.agg #[(.int .i64 0),(.int .i64 0)])),[(0,1,false),(1,1,false)],[],true⟩),
 (101,⟨.struct,2,16,(some (.agg #[(.int .i64 0),(.int .i64 0)])),[(0,1,false),(1,1,false)],[],true⟩),
 (102,⟨.func,1,8,(some .nilFunc),[],[],false⟩),
 (103,⟨.func,1,8,(some .nilFunc),[],[],false⟩),
 (104,⟨(.ptr 111),1,8,(some (.pointer none)),[],[],true⟩),
 (105,⟨.tuple,1,0,(some (.tuple #[(.pointer none),(.int .i64 0)])),[],[(.one .ptr),(.one (.int .i64))],false⟩),
 (106,⟨.func,1,8,(some .nilFunc),[],[],false⟩),
 (107,⟨.func,1,8,(some .nilFunc),[],[],false⟩),
 (108,⟨.func,1,8,(some .nilFunc),[],[],false⟩),
 (109,⟨(.map 3 24),1,8,(some (.map none)),[],[],false⟩),
 (110,⟨.struct,13,216,(some (.agg #[(.slice none 0 0),(.slice none 0 0),(.slice none 0 0),(.int .i64 0),(.slice none 0 0),(.slice none 0 0),(.int .i64 0),(.int .i64 0),(.slice none 0 0),(.map none),(.map none),(.slice none 0 0),(.map none)])),[(0,5,true),(5,3,true),(8,1,false),(9,1,false),(10,1,false),(11,1,false),(12,1,false)],[],false⟩),
 (111,⟨.struct,13,216,(some (.agg #[(.slice none 0 0),(.slice none 0 0),(.slice none 0 0),(.int .i64 0),(.slice none 0 0),(.slice none 0 0),(.int .i64 0),(.int .i64 0),(.slice none 0 0),(.map none),(.map none),(.slice none 0 0),(.map none)])),[(0,5,true),(5,3,true),(8,1,false),(9,1,false),(10,1,false),(11,1,false),(12,1,false)],[],false⟩),
 (112,⟨.func,1,8,(some .nilFunc),[],[],false⟩),
 (113,⟨.func,1,8,(some .nilFunc),[],[],false⟩),
 (114,⟨.func,1,8,(some .nilFunc),[],[],false⟩),
 (115,⟨(.map 73 24),1,8,(some (.map none)),[],[],false⟩),
 (116,⟨.func,1,8,(some .nilFunc),[],[],false⟩),
 (117,⟨(.ptr 156),1,8,(some (.pointer none)),[],[],true⟩),
 (118,⟨.func,1,8,(some .nilFunc),[],[],false⟩),
 (119,⟨.func,1,8,(some .nilFunc),[],[],false⟩),
 (120,⟨.func,1,8,(some .nilFunc),[],[],false⟩),
 (121,⟨.func,1,8,(some .nilFunc),[],[],false⟩),
 (122,⟨.func,1,8,(some .nilFunc),[],[],false⟩),
 (123,⟨(.slice 117),1,24,(some (.slice none 0 0)),[],[],false⟩),
 (124,⟨.struct,7,152,(some (.agg #[(.slice none 0 0),(.slice none 0 0),(.slice none 0 0),(.int .i64 0),(.slice none 0 0),(.slice none 0 0),(.slice none 0 0)])),[(0,5,true),(5,1,false),(6,1,false)],[],false⟩),
 (125,⟨.struct,7,152,(some (.agg #[(.slice none 0 0),(.slice none 0 0),(.slice none 0 0),(.int .i64 0),(.slice none 0 0),(.slice none 0 0),(.slice none 0 0)])),[(0,5,true),(5,1,false),(6,1,false)],[],false⟩),
 (126,⟨(.ptr 125),1,8,(some (.pointer none)),[],[],true⟩),
 (127,⟨.func,1,8,(some .nilFunc),[],[],false⟩),
 (128,⟨.tuple,1,0,(some (.tuple #[(.int .i64 0),(.bool false)])),[],[(.one (.int .i64)),(.one .bool)],false⟩),
 (129,⟨.func,1,8,(some .nilFunc),[],[],false⟩),
 (130,⟨(.ptr 169),1,8,(some (.pointer none)),[],[],true⟩),
 (131,⟨.func,1,8,(some .nilFunc),[],[],false⟩),
 (132,⟨(.ptr 135),1,8,(some (.pointer none)),[],[],true⟩),
 (133,⟨(.map 9 3),1,8,(some (.map none)),[],[],false⟩),
 (134,⟨.struct,4,48,(some (.agg #[(.slice none 0 0),(.int .i64 0),(.int .i64 0),(.map none)])),[(0,3,true),(3,1,false)],[],false⟩),
 (135,⟨.struct,4,48,(some (.agg #[(.slice none 0 0),(.int .i64 0),(.int .i64 0),(.map none)])),[(0,3,true),(3,1,false)],[],false⟩),
 (136,⟨.func,1,8,(some .nilFunc),[],[],false⟩),
 (137,⟨(.map 3 66),1,8,(some (.map none)),[],[],false⟩),
 (138,⟨.func,1,8,(some .nilFunc),[],[],false⟩),
 (139,⟨.func,1,8,(some .nilFunc),[],[],false⟩),
 (140,⟨.func,1,8,(some .nilFunc),[],[],false⟩),
 (141,⟨.func,1,8,(some .nilFunc),[],[],false⟩),
 (142,⟨.func,1,8,(some .nilFunc),[],[],false⟩),
 (143,⟨.func,1,8,(some .nilFunc),[],[],false⟩),
 (144,⟨.func,1,8,(some .nilFunc),[],[],false⟩),
 (145,⟨.func,1,8,(some .nilFunc),[],[],false⟩),
 (146,⟨.func,1,8,(some .nilFunc),[],[],false⟩),
 (147,⟨.func,1,8,(some .nilFunc),[],[],false⟩),
 (148,⟨.func,1,8,(some .nilFunc),[],[],false⟩),
 (149,⟨.func,1,8,(some .nilFunc),[],[],false⟩),
 (150,⟨.func,1,8,(some .nilFunc),[],[],false⟩),
 (151,⟨.func,1,8,(some .nilFunc),[],[],false⟩),
 (152,⟨.func,1,8,(some .nilFunc),[],[],false⟩),
 (153,⟨(.slice 187),1,24,(some (.slice none 0 0)),[],[],false⟩),
 (154,⟨(.slice 187),1,24,(some (.slice none 0 0)),[],[],false⟩),
 (155,⟨.struct,2,32,(some (.agg #[(.slice none 0 0),(.int .i64 0)])),[(0,1,false),(1,1,false)],[],false⟩),
 (156,⟨.struct,2,32,(some (.agg #[(.slice none 0 0),(.int .i64 0)])),[(0,1,false),(1,1,false)],[],false⟩),
 (157,⟨.func,1,8,(some .nilFunc),[],[],false⟩),
 (158,⟨.func,1,8,(some .nilFunc),[],[],false⟩),
 (159,⟨.func,1,8,(some .nilFunc),[],[],false⟩),
 (160,⟨.func,1,8,(some .nilFunc),[],[],false⟩),
 (161,⟨.func,1,8,(some .nilFunc),[],[],false⟩),
 (162,⟨.func,1,8,(some .nilFunc),[],[],false⟩),
 (163,⟨.func,1,8,(some .nilFunc),[],[],false⟩),
 (164,⟨.func,1,8,(some .nilFunc),[],[],false⟩),
 (165,⟨.func,1,8,(some .nilFunc),[],[],false⟩),
 (166,⟨.tuple,1,0,(some (.tuple #[(.slice none 0 0),(.bool false)])),[],[(.one .slice),(.one .bool)],false⟩),
 (167,⟨.func,1,8,(some .nilFunc),[],[],false⟩),
 (168,⟨.struct,6,112,(some (.agg #[(.slice none 0 0),(.slice none 0 0),(.slice none 0 0),(.int .i64 0),(.slice none 0 0),(.map none)])),[(0,5,true),(5,1,false)],[],false⟩),
 (169,⟨.struct,6,112,(some (.agg #[(.slice none 0 0),(.slice none 0 0),(.slice none 0 0),(.int .i64 0),(.slice none 0 0),(.map none)])),[(0,5,true),(5,1,false)],[],false⟩),
 (170,⟨.func,1,8,(some .nilFunc),[],[],false⟩),
 (171,⟨.func,1,8,(some .nilFunc),[],[],false⟩),
 (172,⟨.func,1,8,(some .nilFunc),[],[],false⟩),
 (173,⟨.func,1,8,(some .nilFunc),[],[],false⟩),
 (174,⟨(.int .u64),1,8,(some (.int .u64 0)),[],[],true⟩),
 (175,⟨.func,1,8,(some .nilFunc),[],[],false⟩),
 (176,⟨.func,1,8,(some .nilFunc),[],[],false⟩),
 (177,⟨.func,1,8,(some .nilFunc),[],[],false⟩),
 (178,⟨(.map 3 3),1,8,(some (.map none)),[],[],false⟩),
 (179,⟨.func,1,8,(some .nilFunc),[],[],false⟩),
 (180,⟨.func,1,8,(some .nilFunc),[],[],false⟩),
 (181,⟨.func,1,8,(some .nilFunc),[],[],false⟩),
 (182,⟨.func,1,8,(some .nilFunc),[],[],false⟩),
 (183,⟨.func,1,8,(some .nilFunc),[],[],false⟩),
 (184,⟨.func,1,8,(some .nilFunc),[],[],false⟩),
 (185,⟨.func,1,8,(some .nilFunc),[],[],false⟩),
 (186,⟨.func,1,8,(some .nilFunc),[],[],false⟩),
 (187,⟨(.int .u64),1,8,(some (.int .u64 0)),[],[],true⟩),
 (188,⟨.func,1,8,(some .nilFunc),[],[],false⟩),
 (189,⟨.func,1,8,(some .nilFunc),[],[],false⟩),
 (190,⟨.func,1,8,(some .nilFunc),[],[],false⟩),
 (191,⟨.func,1,8,(some .nilFunc),[],[],false⟩),
 (192,⟨.func,1,8,(some .nilFunc),[],[],false⟩),
 (193,⟨.func,1,8,(some .nilFunc),[],[],false⟩),
 (194,⟨.func,1,8,(some .nilFunc),[],[],false⟩),
 (195,⟨(.slice 5),1,24,(some (.slice none 0 0)),[],[],false⟩),
 (196,⟨.func,1,8,(some .nilFunc),[],[],false⟩),
 (197,⟨(.int .i64),1,8,(some (.int .i64 0)),[],[],true⟩),
 (198,⟨.tuple,1,0,(some (.tuple #[(.int .i64 0),(.int .i64 0)])),[],[(.one (.int .i64)),(.one (.int .i64))],false⟩),
 (199,⟨.func,1,8,(some .nilFunc),[],[],false⟩),
 (200,⟨.func,1,8,(some .nilFunc),[],[],false⟩),
 (201,⟨.func,1,8,(some .nilFunc),[],[],false⟩),
 (202,⟨.func,1,8,(some .nilFunc),[],[],false⟩),
 (203,⟨.func,1,8,(some .nilFunc),[],[],false⟩),
 (204,⟨.func,1,8,(some .nilFunc),[],[],false⟩),
 (205,⟨(.int .u32),1,4,(some (.int .u32 0)),[],[],true⟩),
 (206,⟨.func,1,8,(some .nilFunc),[],[],false⟩),
 (207,⟨.func,1,8,(some .nilFunc),[],[],false⟩),
 (208,⟨.func,1,8,(some .nilFunc),[],[],false⟩),
 (209,⟨.func,1,8,(some .nilFunc),[],[],false⟩),
 (210,⟨.func,1,8,(some .nilFunc),[],[],false⟩),
 (211,⟨(.slice 213),1,24,(some (.slice none 0 0)),[],[],false⟩),
 (212,⟨.struct,2,16,(some (.agg #[(.int .i64 0),(.int .i64 0)])),[(0,1,false),(1,1,false)],[],true⟩),
 (213,⟨.struct,2,16,(some (.agg #[(.int .i64 0),(.int .i64 0)])),[(0,1,false),(1,1,false)],[],true⟩),
 (214,⟨(.ptr 213),1,8,(some (.pointer none)),[],[],true⟩),
 (215,⟨(.array 64 5),64,64,(some (.agg #[(.int .u8 0),(.int .u8 0),(.int .u8 0),(.int .u8 0),(.int .u8 0),(.int .u8 0),(.int .u8 0),(.int .u8 0),(.int .u8 0),(.int .u8 0),(.int .u8 0),(.int .u8 0),(.int .u8 0),(.int .u8 0),(.int .u8 0),(.int .u8 0),(.int .u8 0),(.int .u8 0),(.int .u8 0),(.int .u8 0),(.int .u8 0),(.int .u8 0),(.int .u8 0),(.int .u8 0),(.int .u8 0),(.int .u8 0),(.int .u8 0),(.int .u8 0),(.int .u8 0),(.int .u8 0),(.int .u8 0),(.int .u8 0),(.int .u8 0),(.int .u8 0),(.int .u8 0),(.int .u8 0),(.int .u8 0),(.int .u8 0),(.int .u8 0),(.int .u8 0),(.int .u8 0),(.int .u8 0),(.int .u8 0),(.int .u8 0),(.int .u8 0),(.int .u8 0),(.int .u8 0),(.int .u8 0),(.int .u8 0),(.int .u8 0),(.int .u8 0),(.int .u8 0),(.int .u8 0),(.int .u8 0),(.int .u8 0),(.int .u8 0),(.int .u8 0),(.int .u8 0),(.int .u8 0),(.int .u8 0),(.int .u8 0),(.int .u8 0),(.int .u8 0),(.int .u8 0)])),[],[],true⟩),
 (216,⟨.func,1,8,(some .nilFunc),[],[],false⟩),
 (217,⟨.func,1,8,(some .nilFunc),[],[],false⟩),
 (218,⟨.func,1,8,(some .nilFunc),[],[],false⟩),
 (219,⟨.func,1,8,(some .nilFunc),[],[],false⟩),
 (220,⟨(.int .u64),1,8,(some (.int .u64 0)),[],[],true⟩),
 (221,⟨.func,1,8,(some .nilFunc),[],[],false⟩),
 (222,⟨.func,1,8,(some .nilFunc),[],[],false⟩),
 (223,⟨.func,1,8,(some .nilFunc),[],[],false⟩),
 (224,⟨(.ptr 3),1,8,(some (.pointer none)),[],[],true⟩),
 (225,⟨.func,1,8,(some .nilFunc),[],[],false⟩),
 (226,⟨.func,1,8,(some .nilFunc),[],[],false⟩),
 (227,⟨.func,1,8,(some .nilFunc),[],[],false⟩),
 (228,⟨.func,1,8,(some .nilFunc),[],[],false⟩),
 (229,⟨.func,1,8,(some .nilFunc),[],[],false⟩),
 (230,⟨.func,1,8,(some .nilFunc),[],[],false⟩),
 (231,⟨.func,1,8,(some .nilFunc),[],[],false⟩),
 (232,⟨.func,1,8,(some .nilFunc),[],[],false⟩),
 (233,⟨(.ptr 220),1,8,(some (.pointer none)),[],[],true⟩),
 (234,⟨.tuple,1,0,(some (.tuple #[(.int .i64 0),(.int .i64 0)])),[],[(.one (.int .i64)),(.one (.int .i64))],false⟩),
 (235,⟨.func,1,8,(some .nilFunc),[],[],false⟩),
 (236,⟨.func,1,8,(some .nilFunc),[],[],false⟩),
 (237,⟨.func,1,8,(some .nilFunc),[],[],false⟩),
 (238,⟨.func,1,8,(some .nilFunc),[],[],false⟩),
 (239,⟨.func,1,8,(some .nilFunc),[],[],false⟩),
 (240,⟨.struct,4,40,(some (.agg #[(.pointer none),(.pointer none),(.pointer none),(.string ⟨#[]⟩)])),[(0,1,false),(1,1,false),(2,1,false),(3,1,false)],[],true⟩),
 (241,⟨.struct,4,40,(some (.agg #[(.pointer none),(.pointer none),(.pointer none),(.string ⟨#[]⟩)])),[(0,1,false),(1,1,false),(2,1,false),(3,1,false)],[],true⟩),
 (242,⟨(.array 0 16),0,0,(some (.agg #[])),[],[],true⟩),
 (243,⟨.struct,0,0,(some (.agg #[])),[(0,0,true)],[],true⟩),
 (244,⟨.struct,0,0,(some (.agg #[])),[(0,0,true)],[],true⟩),
 (245,⟨(.int .u8),1,1,(some (.int .u8 0)),[],[],true⟩),
 (246,⟨(.int .u8),1,1,(some (.int .u8 0)),[],[],true⟩),
 (247,⟨.func,1,8,(some .nilFunc),[],[],false⟩),
 (248,⟨(.ptr 5),1,8,(some (.pointer none)),[],[],true⟩),
 (249,⟨(.int .i32),1,4,(some (.int .i32 0)),[],[],true⟩),
 (250,⟨(.int .i32),1,4,(some (.int .i32 0)),[],[],true⟩),
 (251,⟨.struct,11,48,(some (.agg #[(.int .u64 0),(.int .u64 0),(.int .u32 0),(.int .u8 0),(.int .u8 0),(.int .u8 0),(.int .u8 0),.nilFunc,(.pointer none),(.int .i32 0),(.int .i32 0)])),[(0,1,false),(1,1,false),(2,1,false),(3,1,false),(4,1,false),(5,1,false),(6,1,false),(7,1,false),(8,1,false),(9,1,false),(10,1,false)],[],false⟩),
 (252,⟨.struct,11,48,(some (.agg #[(.int .u64 0),(.int .u64 0),(.int .u32 0),(.int .u8 0),(.int .u8 0),(.int .u8 0),(.int .u8 0),.nilFunc,(.pointer none),(.int .i32 0),(.int .i32 0)])),[(0,1,false),(1,1,false),(2,1,false),(3,1,false),(4,1,false),(5,1,false),(6,1,false),(7,1,false),(8,1,false),(9,1,false),(10,1,false)],[],false⟩),
 (253,⟨.other,1,8,(some (.pointer none)),[],[],true⟩)]
def Ty:TypeId→Option di:=Ks Pr
theorem aK:dy Tryz.prog Ty:=M7 (by kernel_rfl)
def Fn (g:FuncId):Bool:=Nat.ble 3 g && Nat.ble g 177
theorem QX:vm Tryz.prog Fn:=Ni (by kernel_rfl)
theorem mixed:Tryz.prog.follows .mixedOrders = true:=by kernel_rfl
abbrev rE:=au Tryz.prog Ev
theorem rv {i:FuncId} {fn:Func} (hf:Tryz.prog.funcs[i]? = some fn) (A:bj) {args:List Value} {w:World} {R:Value→World→Prop} {V:Prop} (e:QE Tryz.prog Ty Fn Ev A fn args w R = V) (h:V):aC Tryz.prog i args w R:=Pp aK QX mixed hf A (e ▸ h)
end Go.Proofs.YtngdohpikfcifaaGreatDoor
