/- Texts of this claim, one behind the other. -/
import Derived.RangeFuncIn
import Derived.RangeFuncLeaves
import Derived.TacticsIn
import Derived.Deep.Quiet
import Derived.Laws.Sem
import Derived.Laws.Cells
import Derived.KernelRfl
import Derived.IntWalk
import Derived.Laws.Slices
import Derived.OrdersIn
import Derived.RangeFuncRecord
import Derived.Deep.AppendSrc
set_option linter.unusedVariables false
set_option linter.unusedSectionVars false
set_option maxRecDepth 100000
set_option maxHeartbeats 16000000
abbrev Go.ahr:=Option Go.Addr
abbrev Go.ahs:=Go.World
namespace Go
abbrev afI:=@List.mem_of_getElem?
abbrev afJ:=@List.getElem?_eq_getElem
abbrev afK:=@List.getElem?_eq_some_iff
abbrev afL:=@Nat.zero_le
abbrev afM:=@List.take_add_one
abbrev afN:=@of_decide_eq_false
abbrev afO:=@of_decide_eq_true
abbrev afP:=@List.getD_eq_getElem?_getD
abbrev afQ:=@List.getElem?_map
abbrev afR:=@Nat.le_refl
abbrev afS:=@List.length_append
abbrev afT:=@List.mem_append
abbrev afU:=@Int.toNat_natCast
abbrev afV:=@if_neg
abbrev afW:=@List.mem_map
abbrev afX:=@Bool.and_eq_true
abbrev afY:=@List.eq_nil_of_length_eq_zero
abbrev afZ:=@if_pos
abbrev af0:=@List.append_assoc
abbrev af3:=@List.take_of_length_le
abbrev af4:=@List.length_map
abbrev af5:=@List.getElem?_append_left
abbrev af6:=@List.mem_cons
abbrev af7:=@List.take_length
abbrev af8:=@List.map_append
abbrev af9:=@List.take_append_drop
abbrev af_:=@List.mem_singleton
abbrev aga:=@decide_eq_true_eq
abbrev agb:=@List.getElem?_of_mem
abbrev agc:=@List.append_nil
abbrev agd:=@List.mem_range
abbrev age:=@decide_eq_false
abbrev agf:=@List.getElem?_append_right
abbrev agh:=@List.flatMap_append
abbrev agi:=@List.mem_filter
abbrev agj:=@List.length_take
abbrev agk:=@List.length_cons
abbrev agl:=@List.getElem?_eq_none
abbrev agm:=@List.drop_eq_getElem_cons
abbrev agn:=@Nat.le_trans
abbrev ago:=@List.filter_append
abbrev agp:=@List.length_filter_le
abbrev agq:=@List.ext_getElem?
abbrev agr:=@List.flatMap_cons
abbrev ags:=@List.map_set
abbrev agt:=@decide_eq_true
abbrev agu:=@Int.natCast_nonneg
abbrev agv:=@List.map_cons
abbrev agw:=@List.nodup_append
abbrev agx:=@List.range_succ
abbrev agy:=@Nat.add_sub_cancel_left
abbrev agz:=@List.pairwise_map
abbrev agA:=@Bool.or_eq_true
abbrev agB:=@List.nodup_cons
abbrev agC:=@List.perm_middle
abbrev agD:=@Classical.byContradiction
abbrev agE:=@Nat.mul_one
abbrev agF:=@List.length_set
abbrev agG:=@List.getElem?_drop
abbrev agH:=@List.getElem?_take
abbrev agI:=@List.nodup_iff_pairwise_ne
abbrev agJ:=@List.length_nil
abbrev agK:=@List.length_range
abbrev agL:=@List.pairwise_cons
abbrev agM:=@Bool.eq_iff_iff
abbrev agN:=@List.mem_flatMap
abbrev agO:=@List.mem_cons_of_mem
abbrev agP:=@List.exists_mem_of_ne_nil
abbrev agQ:=@Option.toList_some
abbrev agR:=@List.getElem?_range
abbrev agS:=@List.set_append_right
abbrev agT:=@List.length_replicate
abbrev agU:=@List.pairwise_iff_getElem
abbrev agV:=@List.map_congr_left
abbrev agW:=@List.replicate_succ
abbrev agX:=@Nat.sub_self
abbrev agY:=@List.nil_append
abbrev agZ:=@Nat.pos_of_ne_zero
abbrev ag0:=@Array.ext'
abbrev ag1:=@List.all_eq_true
abbrev ag2:=@Nat.mul_le_mul_right
abbrev ag3:=@List.length_drop
abbrev ag4:=@Array.getElem?_eq_some_iff
abbrev ag5:=@List.length_pos_iff
abbrev ag6:=@Array.getElem?_modify
abbrev ag7:=@Array.getElem?_toList
abbrev ag8:=@List.length_singleton
abbrev ag9:=@Bool.not_eq_true'
abbrev ag_:=@List.filter_congr
abbrev aha:=@Option.map_eq_some_iff
abbrev ahb:=@List.filter_eq_nil_iff
abbrev ahc:=@List.set_eq_take_append_cons_drop
abbrev ahd:=@List.getElem_mem
abbrev ahe:=@Nat.eq_of_beq_eq_true
abbrev ahf:=@List.getLast?_eq_getElem?
abbrev ahg:=@Option.map_some
abbrev ahh:=@Option.isSome_iff_exists
abbrev ahi:=@Nat.succ_mul
abbrev ahj:=@Nat.zero_add
abbrev ahk:=@Nat.min_eq_left
abbrev ahl:=@List.getElem?_set_ne
abbrev ahm:=@Bool.true_and
abbrev ahn:=@List.getElem?_cons_zero
abbrev aho:=@decide_eq_false_iff_not
abbrev ahp:=@List.getElem?_cons_succ
abbrev ahq:=@Array.length_toList
end Go
namespace Go.V
end Go.V
namespace Go.Proofs.YtaoaemnefghnbaaGreatDoor
end Go.Proofs.YtaoaemnefghnbaaGreatDoor
open Go.V Go.Proofs.YtaoaemnefghnbaaGreatDoor
namespace Go.Proofs.YtaoaemnefghnbaaGreatDoor
abbrev ν:=Nat->Value
theorem ω{p:Prop}(h:p:=by omega):p:=h
theorem σ{p:Prop}(h:p:=by simp):p:=h
inductive Cs where
 |int (k:IntKind)|bool|str|slice|ptr|map|fn|val|ifc
 deriving Inhabited
inductive S1 where
 |one (c:Cs)|agg (l:List Cs)
 deriving Inhabited
inductive Sh where
 |s (x:S1)|tup (l:List S1)
 deriving Inhabited
def Cs.ex:Cs->(Value->Prop)->Prop
 |.int k,p=>∃n:Int,p (.int k n)
 |.bool,p=>∃b:Bool,p (.bool b)
 |.str,p=>∃s:ByteArray,p (.string s)
 |.slice,p=>∃(a:ahr)(l c:Nat),p (.slice a l c)
 |.ptr,p=>∃a:ahr,p (.pointer a)
 |.map,p=>∃r:Option Nat,p (.map r)
 |.fn,p=>∃(g:FuncId)(c:List Value),p (.func (.func g) #[] ⟨c⟩)
 |.val,p=>∃v:Value,p v
 |.ifc,p=>∃(t:TypeId)(v:Value),p (.iface t v)
def Cs.all:Cs->(Value->Prop)->Prop
 |.int k,p=>∀n:Int,p (.int k n)
 |.bool,p=>∀b:Bool,p (.bool b)
 |.str,p=>∀s:ByteArray,p (.string s)
 |.slice,p=>∀(a:ahr)(l c:Nat),p (.slice a l c)
 |.ptr,p=>∀a:ahr,p (.pointer a)
 |.map,p=>∀r:Option Nat,p (.map r)
 |.fn,p=>∀(g:FuncId)(c:List Value),p (.func (.func g) #[] ⟨c⟩)
 |.val,p=>∀v:Value,p v
 |.ifc,p=>∀(t:TypeId)(v:Value),p (.iface t v)
def exC:List Cs->(List Value->Prop)->Prop
 |[],p=>p []
 |c::l,p=>c.ex λv=>exC l λvs=>p (v::vs)
def Zo:List Cs->(List Value->Prop)->Prop
 |[],p=>p []
 |c::l,p=>c.all λv=>Zo l λvs=>p (v::vs)
def S1.ex:S1->(Value->Prop)->Prop
 |.one c,p=>c.ex p
 |.agg l,p=>exC l λvs=>p (.agg ⟨vs⟩)
def S1.all:S1->(Value->Prop)->Prop
 |.one c,p=>c.all p
 |.agg l,p=>Zo l λvs=>p (.agg ⟨vs⟩)
def exS:List S1->(List Value->Prop)->Prop
 |[],p=>p []
 |c::l,p=>c.ex λv=>exS l λvs=>p (v::vs)
def Sh.ex:Sh->(Value->Prop)->Prop
 |.s x,p=>x.ex p
 |.tup l,p=>exS l λvs=>p (.tuple ⟨vs⟩)
def Sh.is(sh:Sh)(v:Value)(k:Value->Prop):Prop:=sh.ex λu=>v=u/\k u
theorem Cs.nQ{c:Cs}{p:Value->Prop}(h:c.ex p):∃v,p v:=by
 cases c<;>simp only[Cs.ex] at h
 case slice=>obtain⟨a,l,c,h⟩:=h;exact⟨_,h⟩
 case fn=>obtain⟨a,l,h⟩:=h;exact⟨_,h⟩
 case ifc=>obtain⟨a,l,h⟩:=h;exact⟨_,h⟩
 all_goals (obtain⟨a,h⟩:=h;exact⟨_,h⟩)
theorem GD{l:List Cs}:∀{p:List Value->Prop},exC l p->∃v,v.length=l.length/\p v:=by
 induction l with
 |nil=>exactλh=>⟨[],rfl,h⟩
 |cons c l ih=>intro p h;obtain⟨v,h⟩:=Cs.nQ h;grind
theorem S1.nQ{c:S1}{p:Value->Prop}(h:c.ex p):∃v,p v:=by
 cases c with
 |one c=>exact Cs.nQ h
 |agg l=>obtain⟨vs,_,h⟩:=GD h;grind
theorem Bl{l:List S1}:∀{p:List Value->Prop},exS l p->∃v,p v:=by
 induction l with
 |nil=>exactλh=>⟨[],h⟩
 |cons c l ih=>intro p h;obtain⟨v,h⟩:=S1.nQ h;grind
theorem Sh.nQ{c:Sh}{p:Value->Prop}(h:c.ex p):∃v,p v:=by
 cases c with
 |s c=>exact S1.nQ h
 |tup l=>obtain⟨vs,h⟩:=Bl h;grind
theorem Sh.e_{sh:Sh}{v:Value}{k:Value->Prop}(h:sh.is v k):k v:=by
 obtain⟨u,rfl,h⟩:=Sh.nQ h;exact h
inductive Kd where
 |bool|int (k:IntKind)|string|slice (e:TypeId)|ptr (e:TypeId)|map (k e:TypeId)|struct|array (n:Nat) (e:TypeId)|func|iface|tuple|other
 deriving Inhabited
def ij:TypeDesc->Kd
 |.bool=>.bool|.int k=>.int k|.string=>.string|.slice e=>.slice e|.pointer e=>.ptr e|.map k e=>.map k e
 |.struct _=>.struct|.array n e=>.array n e|.func ..=>.func|.interface _=>.iface|.tuple _=>.tuple|_=>.other
def Cs.of:Value->Cs
 |.int k _=>.int k|.bool _=>.bool|.string _=>.str|.slice ..=>.slice|.pointer _=>.ptr|.map _=>.map|.nilFunc=>.fn|.nilIface=>.ifc|_=>.val
def S1.of:Value->S1
 |.agg cs=>.agg (cs.toList.map Cs.of)
 |v=>.one (Cs.of v)
structure dp where
 kd:Kd
 size:Nat
 bytes:Nat
 zero:Option Value
 flds:List (Nat×Nat×Bool)      --offset,size,is the field's type a struct or an array
 tup:List S1
 cmp:Bool:=false
 deriving Inhabited
def Kd.isAgg:Kd->Bool
 |.struct|.array ..=>true
 |_=>false
def Da(P:Program):TypeDesc->Bool
 |.struct fs=>fs.toList.all λf=>(P.info? f.type).isSome&&(P.underlying f.type).isSome
 |_=>true
def tyi(P:Program)(t:TypeId):Option dp:=
  match P.info? t,P.underlying t with
  |some i,some d=>bif Da P d then some
    { kd:=ij d,size:=i.size,bytes:=i.bytes,zero:=i.zero,cmp:=i.comparable
      flds:=match d with
        |.struct fs=>fs.toList.map λf=>(f.offset,P.cellsOf f.type,match P.underlying f.type with|some (.struct _)|some (.array ..)=>true|_=>false)
        |_=>[]
      tup:=match d with
        |.tuple ts=>ts.toList.map λe=>S1.of (((P.info? e).bind (·.zero)).getD undef)
        |_=>[] } else none
  |_,_=>none
def dY(P:Program)(Ty:TypeId->Option dp):Prop:=∀t i,Ty t=some i->∃c,tyi P t=some { i with cmp:=c }
def TT:List (TypeId×dp)->TypeId->Option dp
 |[],_=>none
 |(t,i)::l,u=>bif Nat.beq t u then some i else TT l u
theorem RW{P:Program}{l:List (TypeId×dp)}(h:l.map (λx=>tyi P x.1)=l.map (λx=>some x.2)):dY P (TT l):=by
 intro t i hi
 induction l with
 |nil=>simp_all[TT]
 |cons x l ih=>
  obtain⟨u,j⟩:=x;simp only[agv,List.cons.injEq] at h;simp only[TT,Bool.cond_eq_ite] at hi
  by_cases hb:Nat.beq u t=true
  ·rw[afZ hb] at hi;cases hi;rw[<-ahe hb];exact⟨i.cmp,h.1⟩
  simp_all
def P4(Ty:TypeId->Option dp)(t:TypeId):Sh:=
 match Ty t with
 |some i=>match i.kd with|.tuple=>.tup i.tup|_=>(match i.zero with|some z=>.s (S1.of z)|none=>.s (.one .val))
 |none=>.s (.one .val)
structure Ev(w w':ahs):Prop where
 os:w'.os=w.os
 tape:w'.tape=w.tape
 output:w'.output=w.output
 size:w.heap.size<=w'.heap.size
 dfr:∀(b:Nat)(d:Option (List Deferred)),w.heap[b]? =some (Obj.deferred d)->w'.heap[b]? =some (Obj.deferred d)
 lop:∀(b:Nat)(d:Loop),w.heap[b]? =some (Obj.loop d)->w'.heap[b]? =some (Obj.loop d)
theorem Ev.refl(w:ahs):Ev w w:=⟨rfl,rfl,rfl,afR _,λ_ _ h=>h,λ_ _ h=>h⟩
theorem Ev.trans{a b c:ahs}(h:Ev a b)(k:Ev b c):Ev a c:=
 ⟨k.os.trans h.os,k.tape.trans h.tape,k.output.trans h.output,agn h.size k.size,λx d u=>k.dfr x d (h.dfr x d u),λx d u=>k.lop x d (h.lop x d u)⟩
theorem Ev.drew(w:ahs)(n:Nat):Ev w { w with drawn:=n }:=⟨rfl,rfl,rfl,afR _,λ_ _ h=>h,λ_ _ h=>h⟩
theorem Ev.push(w:ahs)(o:Obj):Ev w { w with heap:=w.heap.push o }:=by
 refine⟨rfl,rfl,rfl,σ,?_,?_⟩<;>
 ·grind
theorem Ev.setCell(w:ahs)(a:Addr)(v:Value):Ev w (w.setCell a v):=by
 refine⟨rfl,rfl,rfl,σ,?_,?_⟩<;>
 ·simp_all[World.setCell,ag6]
structure Jg(E:ahs->ahs->Prop):Prop where
 trans:∀{a b c:ahs},E a b->E b c->E a c
 ofEv:∀a b:ahs,Ev a b->E a b
 dfr:∀{a b:ahs},E a b->∀(k:Nat)(d:Option (List Deferred)),a.heap[k]? =some (Obj.deferred d)->b.heap[k]? =some (Obj.deferred d)
 size:∀{a b:ahs},E a b->a.heap.size<=b.heap.size
theorem ab5:Jg Ev:=⟨λh k=>h.trans k,λ_ _ h=>h,λh k d u=>h.dfr k d u,λh=>h.size⟩
def iK(P:Program)(E:ahs->ahs->Prop)(f:FuncId)(args:List Value)(w:ahs)(R:Value->ahs->Prop):Prop:=
 Calls P f ⟨args⟩ w λa b=>∃c,a=.returned c/\E w b/\R c b
abbrev aw(P:Program)(f:FuncId)(args:List Value)(w:ahs)(R:Value->ahs->Prop):Prop:=iK P Ev f args w R
theorem aw.mono{P:Program}{f:FuncId}{args:List Value}{w:ahs}{R R':Value->ahs->Prop}(h:aw P f args w R)(hr:∀v w',R v w'->R' v w'):aw P f args w R':=
 Calls.mono h λ_ _ ⟨v,J,O,u⟩=>⟨v,J,O,hr _ _ u⟩
theorem iK.mono{P:Program}{E:ahs->ahs->Prop}{f:FuncId}{args:List Value}{w:ahs}{R R':Value->ahs->Prop}(h:iK P E f args w R)(hr:∀v w',R v w'->R' v w'):iK P E f args w R':=
 Calls.mono h λ_ _ ⟨v,J,O,u⟩=>⟨v,J,O,hr _ _ u⟩
theorem aw.toE{P:Program}{E:ahs->ahs->Prop}(hE:Jg E){f:FuncId}{args:List Value}{w:ahs}{R:Value->ahs->Prop}(h:aw P f args w R):iK P E f args w R:=
 Calls.mono h λ_ _ ⟨v,J,u,O⟩=>⟨v,J,hE.ofEv _ _ u,O⟩
def aX{α:Type}(P:Program)(s:Sem α)(w:ahs)(R:α->ahs->Prop):Prop:=
 ∃v w',s.run P w=.ok v w'/\Ev w w'/\R v w'
theorem aX.mono{α:Type}{P:Program}{s:Sem α}{w:ahs}{R R':α->ahs->Prop}(h:aX P s w R)(hr:∀v w',R v w'->R' v w'):aX P s w R':=
 let⟨v,w',J,u,O⟩:=h;⟨v,w',J,u,hr _ _ O⟩
abbrev Fr:=List (Nat×Value)
def ff:Fr->Nat->Value
 |[],_=>undef
 |(d,v)::l,t=>bif Nat.beq d t then v else ff l t
def put(n:Nat)(fr:Fr):Option Tmp->Value->Fr
 |some d,v=>bif Nat.ble (d+1) n then(d,v)::fr else fr
 |none,_=>fr
def ev(fr:Fr):Operand->Value
 |.tmp t=>ff fr t
 |.const v=>v
 |.global g=>.pointer (some ⟨g,0,none⟩)
 |.func f=>.func (.func f) #[] #[]
def nj(fr:Fr):List Operand->List Value
 |[]=>[]
 |x::l=>ev fr x::nj fr l
theorem Db(fr:Fr):∀l,nj fr l=l.map (ev fr)
 |[]=>rfl
 |x::l=>by simp[nj,Db fr l]
def bf(n:Nat)(fr:Fr)(ds:List Deferred):Act:={ tmps:=⟨(List.range n).map (ff fr)⟩,defers:=ds }
def Fits(n:Nat)(fr:Fr):Prop:=∀t,n<=t->ff fr t=undef
theorem ye(n:Nat)(fr:Fr)(ds:List Deferred)(hf:Fits n fr)(t:Nat):(bf n fr ds).tmps.getD t undef=ff fr t:=by
 by_cases h:t<n
 ·simp[bf,h]
 ·simp[bf,h,hf t ω]
theorem Qc(n:Nat)(fr:Fr)(ds:List Deferred)(hf:Fits n fr)(x:Operand):(bf n fr ds).eval x=ev fr x:=by
 cases x with
 |tmp t=>exact ye n fr ds hf t
 |_=>rfl
theorem F5(n:Nat)(fr:Fr)(ds:List Deferred)(hf:Fits n fr):(bf n fr ds).eval=ev fr:=funext (Qc n fr ds hf)
theorem Dc(d:Nat)(v:Value)(l:Fr)(t:Nat):ff ((d,v)::l) t=if d=t then v else ff l t:=by simp[ff,Bool.cond_eq_ite]
theorem GF(n:Nat)(fr:Fr)(d:Nat)(v:Value):put n fr (some d) v=if d<n then(d,v)::fr else fr:=by
 simp only[put,Bool.cond_eq_ite,Nat.ble_eq];rfl
theorem wm{n:Nat}{fr:Fr}(hf:Fits n fr)(d:Option Tmp)(v:Value):Fits n (put n fr d v):=by
 cases d with
 |none=>exact hf
 |some d=>
  rw[GF]
  split
  ·intro t ht;rw[Dc,afV ω];exact hf t ht
  omega
theorem nR(n:Nat)(fr:Fr)(d:Nat)(v:Value)(t:Nat):ff (put n fr (some d) v) t=if d=t/\d<n then v else ff fr t:=by
 rw[GF]
 by_cases h:d<n
 ·simp_all[Dc]
 grind
theorem F6(n:Nat)(fr:Fr)(ds:List Deferred)(d:Option Tmp)(v:Value):(bf n fr ds).put d v=bf n (put n fr d v) ds:=by
 cases d with
 |none=>rfl
 |some d=>
  simp only[Act.put,bf,Act.mk.injEq,and_true];apply ag0;apply agq
  grind[Array.toList_setIfInBounds,List.length_map,List.length_range,List.getElem?_range,nR,List.getElem?_eq_none]
theorem EK{n:Nat}{fr fr':Fr}(ds:List Deferred)(h:∀t,t<n->ff fr t=ff fr' t):bf n fr ds=bf n fr' ds:=by simp_all[bf,Act.mk.injEq]
def br:Bool->Prop->Prop->Prop
 |true,a,_=>a
 |false,_,b=>b
theorem ae{c:Bool}{a b:Prop}(h1:c=true->a)(h2:c=false->b):br c a b:=by
 cases c
 ·exact h2 rfl
 ·exact h1 rfl
def brV(v:Value)(a b:Prop):Prop:=match v with|.bool c=>br c a b|_=>False
def aeh(c:Bool)(k:Bool->Prop):Prop:=br c (k true) (k false)
theorem TU{c:Bool}{k:Bool->Prop}(h:aeh c k):k c:=by cases c<;>exact h
def nn(a:ahr)(k:Addr->Prop):Prop:=match a with|some x=>k x|none=>False
def aD(z:Int):Prop:=-9223372036854775808<=z/\z<=9223372036854775807
def wrI(z:Int):Int:=IntKind.i64.wrap z
theorem RX{z:Int}(h:aD z):IntKind.i64.wrap z=z:=IntWalk.i64_in z ⟨h.1,h.2⟩
def Qd:List Value->Nat->Value->List Value
 |[],_,_=>[]
 |_::l,0,v=>v::l
 |x::l,n+1,v=>x::Qd l n v
theorem RY:∀(l:List Value)(n:Nat)(v:Value),Qd l n v=l.set n v
 |[],_,_=>rfl
 |_::_,0,_=>rfl
 |x::l,n+1,v=>by simp[Qd,RY l n v]
def rowAt(w:ahs)(a:Addr)(i:Nat):Nat->Option (List Value)
 |0=>some []
 |n+1=>match w.cell? (a.add i),rowAt w a (i+1) n with
  |some v,some vs=>some (v::vs)
  |_,_=>none
def ldv(w:ahs)(a:Addr)(i:dp)(k:Value->Prop):Prop:=
 match i.zero with
 |none=>False
 |some z=>match i.kd.isAgg,S1.of z with
  |true,.agg l=>exC l λvs=>rowAt w a 0 i.size=some vs/\k (.agg ⟨vs⟩)
  |false,.one c=>c.ex λv=>w.cell? a=some v/\k v
  |_,_=>False
def aK:Value->Bool
 |.agg _|.tuple _=>false
 |_=>true
def du(w:ahs)(a:Addr)(i:Nat):List Value->ahs
 |[]=>w
 |v::l=>du (w.setCell (a.add i) v) a (i+1) l
def mE(w:ahs)(a:Addr)(i:Nat):List Value->Prop
 |[]=>True
 |v::l=>aK v=true/\(∃u,w.cell? (a.add i)=some u)/\w.frozen? (a.add i)=false/\mE w a (i+1) l
def st1(w:ahs)(a:Addr)(v:Value)(k:ahs->Prop):Prop:=
 (∃u,w.cell? a=some u)/\w.frozen? a=false/\aK v=true/\∀w',w'=w.setCell a v->k w'
def bC(w:ahs)(a:Addr)(vs:List Value)(k:ahs->Prop):Prop:=
 mE w a 0 vs/\∀w',w'=du w a 0 vs->k w'
def cellsOf:Value->List Value
 |.agg cs=>cs.toList
 |v=>[v]
def EL:List Value->Nat->Bool
 |[],n=>Nat.beq n 0
 |_::l,n=>match n with
  |n+1=>EL l n
  |0=>false
theorem wo:∀(l:List Value)(n:Nat),EL l n=true->l.length=n
 |[],n,h=>by simp_all[EL]
 |_::l,0,h=>by grind[EL]
 |_::l,n+1,h=>by simp[wo l n h]
def leL:List Value->Nat->Bool
 |[],_=>true
 |_::l,n+1=>leL l n
 |_,_=>false
theorem Lk:∀(l:List Value)(n:Nat),leL l n=true->l.length<=n
 |[],_,_=>afL _
 |_::l,n+1,h=>by have:=Lk l n h;simp_all
def geL:Nat->List Value->Bool
 |0,_=>true
 |n+1,_::l=>geL n l
 |_,_=>false
theorem Vy:∀(n:Nat)(l:List Value),geL n l=true->n<=l.length
 |0,_,_=>afL _
 |n+1,_::l,h=>by have:=Vy n l h;simp_all
def stv(w:ahs)(a:Addr)(i:dp)(v:Value)(k:ahs->Prop):Prop:=
 match i.kd.isAgg,v with
 |true,.agg cs=>bif EL cs.toList i.size then bC w a cs.toList k else False
 |false,v=>bif Nat.beq i.size 1 then st1 w a v k else False
 |_,_=>False
def new(w:ahs)(o:Obj)(k:Nat->ahs->Prop):Prop:=∀b w',b=w.heap.size->w'={ w with heap:=w.heap.push o }->k b w'
abbrev Hp:=Nat->Option Obj
abbrev aC:=Hp->Prop
def Qe:Option Obj->Option Obj
 |some (.deferred _)=>none
 |o=>o
theorem rQ{x:Option Obj}{o:Obj}(h:Qe x=some o):x=some o:=by
 unfold Qe at h;grind
def Nh:Obj->Bool
 |.deferred _=>false
 |_=>true
theorem GG{o:Obj}(h:Nh o=true):Qe (some o)=some o:=by cases o<;>first|rfl|cases h
def hp(w:ahs):Hp:=λb=>Qe w.heap[b]?
theorem aei{w:ahs}{b:Nat}(h:w.heap.size<=b):hp w b=none:=by grind[hp,Qe]
def sub(a b:Hp):Prop:=∀k o,a k=some o->b k=some o
def Ll(a b:Hp):Prop:=∀k,a k=none\/b k=none
theorem sub.refl(a:Hp):sub a a:=λ_ _ h=>h
theorem sZZ{h}:sub h h:=sub.refl h
theorem sub.trans{a b c:Hp}(h:sub a b)(k:sub b c):sub a c:=λx o u=>k x o (h x o u)
theorem Ll.symm{a b:Hp}(h:Ll a b):Ll b a:=λk=>(h k).symm
theorem Ll.sub{a b c d:Hp}(h:Ll a b)(h1:sub c a)(h2:sub d b):Ll c d:=by
 intro k
 rcases h k with h|h
 ·left;cases hc:c k with
  |none=>rfl
  |some o=>rw[h1 k o hc] at h;omega
 ·right;cases hc:d k with
  |none=>rfl
  |some o=>rw[h2 k o hc] at h;omega
def Vm(a b:Hp):Hp:=λk=>match a k with|some o=>some o|none=>b k
theorem yf(a b:Hp):sub a (Vm a b):=λk o h=>by grind[Vm]
theorem yg{a b:Hp}(h:Ll a b):sub b (Vm a b):=λk o hb=>by
 rcases h k with h|h
 ·simp_all[Vm]
 simp_all
theorem F7{a b c:Hp}(h1:sub a c)(h2:sub b c):sub (Vm a b) c:=λk o h=>by
 unfold Vm at h;split at h
 ·rename_i o' ho;cases h;exact h1 k _ ho
 ·exact h2 k o h
theorem F8{a b c:Hp}(h1:Ll a c)(h2:Ll b c):Ll (Vm a b) c:=by
 intro k
 rcases h1 k with h|h
 ·rcases h2 k with h'|h'
  ·simp_all[Vm]
  simp_all
 simp_all
def aG:List aC->aC
 |[],_=>True
 |A::L,h=>∃h1 h2,Ll h1 h2/\sub h1 h/\sub h2 h/\A h1/\aG L h2
theorem lT:∀{L:List aC}{h h':Hp},aG L h->sub h h'->aG L h'
 |[],_,_,_,_=>trivial
 |A::L,h,h',⟨h1,h2,d,s1,s2,ha,hl⟩,s=>⟨h1,h2,d,s1.trans s,s2.trans s,ha,hl⟩
theorem tT{A B:aC}{L:List aC}{h:Hp}:aG (A::B::L) h->aG (B::A::L) h
 |⟨h1,h2,d,s1,s2,ha,h3,h4,d',s3,s4,hb,hl⟩=>
  have d14:Ll h1 h4:=d.sub sZZ s4
  ⟨h3,Vm h1 h4,(F8 (d.sub sZZ s3) d'.symm).symm,s3.trans s2,F7 s1 (s4.trans s2),hb,h1,h4,d14,yf _ _,yg d14,ha,hl⟩
theorem wq{A:aC}{L L':List aC}{h:Hp}(hm:∀h,aG L h->aG L' h):aG (A::L) h->aG (A::L') h
 |⟨h1,h2,d,s1,s2,ha,hl⟩=>⟨h1,h2,d,s1,s2,ha,hm _ hl⟩
theorem Qf{A B:aC}{L:List aC}{h:Hp}(hm:∀h,A h->B h):aG (A::L) h->aG (B::L) h
 |⟨h1,h2,d,s1,s2,ha,hl⟩=>⟨h1,h2,d,s1,s2,hm _ ha,hl⟩
theorem aq{A:aC}{L:List aC}{h:Hp}:aG (A::L) h->aG L h
 |⟨h1,h2,d,s1,s2,ha,hl⟩=>lT hl s2
theorem Qg{L L':List aC}(p:L.Perm L'):∀{h:Hp},aG L h->aG L' h:=by
 induction p with
 |nil=>simp
 |cons A p ih=>grind[wq]
 |swap A B l=>simp_all[tT]
 |trans p q ih1 ih2=>simp_all
def aV(M:List aC):aC:=aG M
theorem oK:∀{M L:List aC}{h:Hp},aG (aV M::L) h↔aG (M++L) h
 |[],L,h=>⟨λ⟨h1,h2,d,s1,s2,ha,hl⟩=>lT hl s2,λhl=>⟨λ_=>none,h,λ_=>.inl rfl,λ_ _ h=>(nomatch h),sZZ,trivial,hl⟩⟩
 |A::M,L,h=>by
  constructor
  ·rintro⟨h1,h2,d,s1,s2,⟨h3,h4,d',s3,s4,ha,hm⟩,hl⟩
   have d42:Ll h4 h2:=d.sub s4 sZZ
   exact⟨h3,Vm h4 h2,(F8 d'.symm (d.symm.sub sZZ s3)).symm,s3.trans s1,F7 (s4.trans s1) s2,ha,oK.1 ⟨h4,h2,d42,yf _ _,yg d42,hm,hl⟩⟩
  ·rintro⟨h1,h2,d,s1,s2,ha,hr⟩
   obtain⟨h3,h4,d',s3,s4,hm,hl⟩:=oK.2 hr
   have d13:Ll h1 h3:=d.sub sZZ s3
   exact⟨Vm h1 h3,h4,F8 (d.sub sZZ s4) d',F7 s1 (s3.trans s2),s4.trans s2,⟨h1,h3,d13,yf _ _,yg d13,ha,hm⟩,hl⟩
def ex{α:Type}(A:α->aC):aC:=λh=>∃x,A x h
theorem Vz{α:Type}{A:α->aC}{L:List aC}{h:Hp}:aG (ex A::L) h↔∃x,aG (A x::L) h:=
 ⟨λ⟨J,u,d,s1,s2,⟨x,ha⟩,hl⟩=>⟨x,J,u,d,s1,s2,ha,hl⟩,λ⟨x,J,u,d,s1,s2,ha,hl⟩=>⟨J,u,d,s1,s2,⟨x,ha⟩,hl⟩⟩
def pu(p:Prop):aC:=λ_=>p
theorem VA{p:Prop}{L:List aC}{h:Hp}:aG (pu p::L) h↔p/\aG L h:=
 ⟨λ⟨J,u,d,s1,s2,ha,hl⟩=>⟨ha,lT hl s2⟩,λ⟨hp,hl⟩=>⟨λ_=>none,h,λ_=>.inl rfl,λ_ _ h=>(nomatch h),sZZ,hp,hl⟩⟩
def blk(b:Nat)(o:Obj):aC:=λh=>h b=some o
def one(b:Nat)(o:Obj):Hp:=λk=>if k=b then some o else none
theorem Ni(b:Nat)(o:Obj):one b o b=some o:=by simp[one]
theorem Jh{b:Nat}{o:Obj}{L:List aC}{h:Hp}:aG (blk b o::L) h->h b=some o
 |⟨h1,h2,d,s1,s2,ha,hl⟩=>s1 _ _ ha
theorem qG{b:Nat}{o o':Obj}{L:List aC}{h h':Hp}(hs:aG (blk b o::L) h)(h0:∀k,k≠b->h' k=h k)(h1:h' b=some o'):aG (blk b o'::L) h':=by
  obtain⟨g1,g2,d,s1,s2,ha,hl⟩:=hs
  have hb : g2 b = none := by rcases d b with h|h;· rw[show g1 b=some o from ha] at h;grind
                              omega
  refine⟨one b o',g2,λk=>?_,λk x hk=>?_,λk x hk=>?_,Ni b o',hl⟩
  · grind[one]
  · simp_all[one]
  · have hk':k≠b:=λe=>by simp_all
    rw[h0 k hk'];exact s2 k x hk
theorem Ji{b:Nat}{o:Obj}{L:List aC}{h h':Hp}(hs:aG L h)(hb:h b=none)(h0:∀k,k≠b->h' k=h k)(h1:h' b=some o):aG (blk b o::L) h':=by
 refine⟨one b o,h,λk=>?_,λk x u=>?_,λk x u=>?_,Ni b o,hs⟩
 ·grind[one]
 ·simp_all[one]
 grind
def has(h0:Hp):aC:=λh=>sub h0 h
theorem lU{h0:Hp}{L:List aC}{h:Hp}:aG (has h0::L) h->sub h0 h
 |⟨h1,h2,d,s1,s2,ha,hl⟩=>sub.trans ha s1
def St(w:ahs)(L:List aC):Prop:=aG L (hp w)
def vc:List aC->Nat->aC
 |[],_=>pu True
 |A::_,0=>A
 |_::L,n+1=>vc L n
section
variable{w w':ahs}{L:List aC}{A B:aC}
theorem St.perm{L':List aC}(h:St w L)(p:L.Perm L'):St w L':=Qg p h
theorem St.swap{L:List aC}{A B:aC}(h:St w (A::B::L)):St w (B::A::L):=tT h
theorem St.Nj{L:List aC}{A B C:aC}(h:St w (A::B::C::L)):St w (C::A::B::L):=tT (wq (λ_=>tT) h)
theorem St.tail(h:St w (A::L)):St w L:=aq h
theorem St.head(h:St w (A::L))(hm:∀h,A h->B h):St w (B::L):=Qf hm h
theorem St.flat{M:List aC}:St w (aV M::L)↔St w (M++L):=oK
theorem St.ex{α:Type}{A:α->aC}:St w (Proofs.YtaoaemnefghnbaaGreatDoor.ex A::L)↔∃x,St w (A x::L):=Vz
theorem St.pu{p:Prop}:St w (Proofs.YtaoaemnefghnbaaGreatDoor.pu p::L)↔p/\St w L:=VA
theorem St.get{b:Nat}{o:Obj}(h:St w (blk b o::L)):w.heap[b]? =some o:=rQ (Jh h)
theorem St.has{h0:Hp}(h:St w (Proofs.YtaoaemnefghnbaaGreatDoor.has h0::L)):sub h0 (hp w):=lU h
theorem St.push(h:St w L)(o:Obj)(ho:Nh o=true:=by rfl):St { w with heap:=w.heap.push o } (blk w.heap.size o::L):=
 Ji h (aei (afR _)) (λk u=>by grind[hp]) (by grind[hp,GG])
theorem St.setObj{b:Nat}{o:Obj}(h:St w (blk b o::L))(o':Obj)(ho:Nh o'=true:=by rfl):St { w with heap:=w.heap.setIfInBounds b o' } (blk b o'::L):=by
 have hb:=(ag4.1 h.get).1;exact qG h (λk u=>by simp[hp,Array.getElem?_setIfInBounds_ne (Ne.symm u)]) (by simp_all[hp,GG])
theorem St.eq(h:St w L)(he:hp w'=hp w):St w' L:=by simp_all[St]
theorem St.same(h:St w L)(he:w'.heap=w.heap):St w' L:=h.eq (by grind[hp])
theorem St.setCell{b:Nat}{c:Array Value}{e:TypeId}{fz:Nat×Nat}(h:St w (blk b (.cells c e fz)::L))(i:Nat)(v:Value):
  St (w.setCell ⟨b,i,none⟩ v) (blk b (.cells (c.setIfInBounds i v) e fz)::L):=by
 have J:=h.get
 refine qG h (λk u=>?_) ?_
 ·simp only[hp,World.setCell,ag6];grind
 simp_all[hp,World.setCell,ag6,Qe]
theorem VB(w:ahs)(d:Option (List Deferred)):hp { w with heap:=w.heap.push (.deferred d) }=hp w:=by grind[hp,Qe]
theorem Zp{w:ahs}{D:Nat}{d d':Option (List Deferred)}(h:w.heap[D]? =some (.deferred d)):hp { w with heap:=w.heap.setIfInBounds D (.deferred d') }=hp w:=by
 funext b
 simp only[hp]
 by_cases hb:b=D
 ·subst hb;rw[Array.getElem?_setIfInBounds_self_of_lt (ag4.1 h).1,h];rfl
 grind
theorem cD(h:hp w'=hp w)(a:Addr):w'.cell? a=w.cell? a:=by
 have hb:=congrFun h a.block;simp only[hp] at hb;unfold World.cell?;cases h1:w'.heap[a.block]? with
 |none=>
  rw[h1] at hb;cases h2:w.heap[a.block]? with
  |none=>rfl
  |some o=>rw[h2] at hb;cases o<;>first|rfl|cases hb
 |some o=>
  rw[h1] at hb;cases h2:w.heap[a.block]? with
  |none=>rw[h2] at hb;cases o<;>first|rfl|cases hb
  |some o'=>rw[h2] at hb;cases o<;>cases o'<;>first|rfl|(cases hb;rfl)|cases hb
theorem Nk(h:hp w'=hp w)(a:Addr):∀(n i:Nat),rowAt w' a i n=rowAt w a i n
 |0,i=>rfl
 |n+1,i=>by simp only[rowAt,cD h,Nk h a n]
end
def kx:IntKind->Nat
 |.i8=>0|.i16=>1|.i32=>2|.i64=>3|.u8=>4|.u16=>5|.u32=>6|.u64=>7
theorem VC{a b:IntKind}(h:Nat.beq (kx a) (kx b)=true):a=b:=by
 have:=ahe h;cases a<;>cases b<;>simp_all[kx]
def Nl(wd:Bool)(k:IntKind)(z:Int)(K:Value->Prop):Prop:=
 match k with
 |.i64=>(match wd with|true=>K (.int .i64 (wrI z))|false=>aD z/\K (.int .i64 z))
 |k=>K (.int k (k.wrap z))
def oM(op:BinOp)(k:IntKind)(x y:Int):Int:=
 match op with
 |.and=>k.wrap ((BitVec.ofInt k.bits x)&&& (BitVec.ofInt k.bits y)).toNat
 |.or=>k.wrap ((BitVec.ofInt k.bits x)|||(BitVec.ofInt k.bits y)).toNat
 |.xor=>k.wrap ((BitVec.ofInt k.bits x)^^^(BitVec.ofInt k.bits y)).toNat
 |_=>k.wrap ((BitVec.ofInt k.bits x)&&& ~~~(BitVec.ofInt k.bits y)).toNat
def VD(k:IntKind)(a b:Int):Int:=k.wrap (a*2^(min b.toNat k.bits))
def aZ(k:IntKind)(a b:Int):Int:=a.fdiv (2^(min b.toNat k.bits))
def nz(b:Int):Prop:=b≠0
def ns(b:Int):Prop:=0<=b
def inS(i:Int)(n:Nat):Prop:=0<=i/\i<n
def vd(l c:Int)(b:Nat):Prop:=0<=l/\l=c/\b*l<=140737488355328
def VE(wd:Bool)(op:BinOp)(k:IntKind)(a b:Int)(K:Value->Prop):Prop:=
 match op with
 |.add=>Nl wd k (a+b) K
 |.sub=>Nl wd k (a-b) K
 |.mul=>Nl wd k (a*b) K
 |.quo=>nz b/\Nl false k (a.tdiv b) K
 |.rem=>nz b/\K (.int k (a.tmod b))
 |.and=>K (.int k (oM .and k a b))
 |.or=>K (.int k (oM .or k a b))
 |.xor=>K (.int k (oM .xor k a b))
 |.andNot=>K (.int k (oM .andNot k a b))
 |.eql=>K (.bool (a==b))
 |.neq=>K (.bool (a !=b))
 |.lss=>K (.bool (decide (a<b)))
 |.leq=>K (.bool (decide (a<=b)))
 |.gtr=>K (.bool (decide (b<a)))
 |.geq=>K (.bool (decide (b<=a)))
 |.shl=>ns b/\K (.int k (VD k a b))
 |.shr=>ns b/\K (.int k (aZ k a b))
def Lm:BinOp->Bool
 |.shl|.shr=>true
 |_=>false
def VF(op:BinOp)(x y:ByteArray)(K:Value->Prop):Prop:=
 match op with
 |.add=>(x.size:Int)+y.size<=9223372036854775807/\K (.string (x++y))
 |.eql=>K (.bool (x.toList==y.toList))
 |.neq=>K (.bool (!(x.toList==y.toList)))
 |.lss=>K (.bool (Op.bytesLess x.toList y.toList))
 |.leq=>K (.bool (Op.bytesLess x.toList y.toList||x.toList==y.toList))
 |.gtr=>K (.bool (!(Op.bytesLess x.toList y.toList||x.toList==y.toList)))
 |.geq=>K (.bool (!Op.bytesLess x.toList y.toList))
 |_=>False
def eqB(op:BinOp)(t:Bool)(K:Value->Prop):Prop:=
 match op with
 |.eql=>K (.bool t)
 |.neq=>K (.bool (!t))
 |_=>False
def ai(Ty:TypeId->Option dp)(t:TypeId):Kd:=match Ty t with|some i=>i.kd|none=>.other
def wdT(Ty:TypeId->Option dp)(t:TypeId):Bool:=match Ty t with|some i=>(match i.cmp with|true=>false|false=>true)|none=>false
def J9(Ty:TypeId->Option dp)(t:TypeId):Option Nat:=match Ty t with|some i=>some i.size|none=>none
def abC:Kd->Bool
 |.ptr _=>true
 |_=>false
def RZ:Kd->Bool
 |.slice _=>true
 |_=>false
def abD:Kd->Bool
 |.map ..=>true
 |_=>false
def qH(op:BinOp)(t:TypeId)(xo yo:Operand)(x y:Value):Sem Value:=do eqGuard op t xo yo x y;Go.binOp op t x y
def eqQ(op:BinOp)(t:Bool)(K:Bool->Prop):Prop:=
 match op with
 |.eql=>K t
 |.neq=>K (!t)
 |_=>False
def ab6(Ty:TypeId->Option dp)(rs:Sem Value->(Value->Prop)->Prop)(op:BinOp)(t:TypeId)(xo yo:Operand)(a b:ahr)(K:Bool->Prop):Prop:=
 match b with
 |none=>bif abC (ai Ty t) then eqQ op a.isNone K else False
 |some b=>rs (qH op t xo yo (.pointer a) (.pointer (some b))) λv=>∃q,v=.bool q/\K q
def ab7(Ty:TypeId->Option dp)(rs:Sem Value->(Value->Prop)->Prop)(op:BinOp)(t:TypeId)(xo yo:Operand)(x y:Value)(K:Value->Prop):Prop:=
 match x,y with
 |.int k a,.int k' b=>bif Lm op||Nat.beq (kx k) (kx k') then VE (wdT Ty t) op k a b K else False
 |.string a,.string b=>VF op a b K
 |.bool a,.bool b=>(match ai Ty t with|.bool=>eqB op (a==b) K|_=>False)
 |.pointer a,.pointer b=>ab6 Ty rs op t xo yo a b λq=>K (.bool q)
 |.slice a _ _,.slice none _ _=>bif RZ (ai Ty t) then eqB op a.isNone K else False
 |.func (.func _) _ _,.nilFunc=>(match ai Ty t with|.func=>eqB op false K|_=>False)
 |.map a,.map none=>bif abD (ai Ty t) then eqB op a.isNone K else False
 |x,y=>rs (qH op t xo yo x y) λv=>∃b,v=.bool b/\K (.bool b)
def Nn:List Value->List Value->List Value
 |[],m=>m
 |x::l,m=>x::Nn l m
theorem F9:∀l m,Nn l m=l++m
 |[],_=>rfl
 |x::l,m=>by simp[Nn,F9 l m]
def J_:Nat->List Value->List Value
 |0,_=>[]
 |n+1,z=>Nn z (J_ n z)
def iX:Nat->List Value->List Value
 |0,_=>[]
 |n+1,z=>z++iX n z
def setMany(cells:List Value)(off:Nat):List Value->List Value
 |[]=>cells
 |v::l=>setMany (Qd cells off v) (off+1) l
def Bm(place:Nat->Option (Nat×Nat))(cells:List Value):List (Nat×Value)->Option (List Value)
 |[]=>some cells
 |(i,v)::rest=>
  match place i with
  |none=>none
  |some (off,size)=>bif EL (cellsOf v) size&&geL (off+size) cells then Bm place (setMany cells off (cellsOf v)) rest else none
def VG(o:Option (List Value))(k:List Value->Prop):Prop:=match o with|some l=>k l|none=>False
def EM(fr:Fr):List (Nat×Operand)->List (Nat×Value)
 |[]=>[]
 |(i,x)::l=>(i,ev fr x)::EM fr l
def GH(fs:List (Nat×Nat×Bool))(i:Nat):Option (Nat×Nat):=match fs[i]? with|some (o,s,_)=>some (o,s)|none=>none
def adA(ad:Addr)(n:Nat):Addr:=bif Nat.beq n 0 then ad else ad.add n
theorem ab8(ad:Addr)(n:Nat):adA ad n=ad.add n:=by simp_all[adA,Addr.add]
def eV(i:Nat):Nat->Nat
 |1=>i
 |sz=>i*sz
theorem bg(i sz:Nat):eV i sz=i*sz:=by grind[eV]
def idx(a:ahr)(len:Nat)(i:Int)(sz:Nat)(k:Addr->Prop):Prop:=
 ∃ad,a=some ad/\0<=i/\i<len/\k (ad.add (eV i.toNat sz))
def sb(s:ByteArray)(n:Nat):UInt8:=(s.data[n]?).getD 0
def fE(a:ahr)(l m sz:Nat):ahr:=if m=l then a else a.map (·.add (eV l sz))
def lV(a:ahr)(len cap:Nat)(lo hi mx:Option Int)(sz:Nat)(k:ahr->Nat->Nat->Prop):Prop:=
 let m:Int:=mx.getD cap
 let h:Int:=hi.getD len
 let l:Int:=lo.getD 0
 (mx=none\/(hi≠none/\0<=m/\m<=cap))/\(hi=none\/(0<=h/\h<=m))/\(0<=l/\l<=h)/\
  k (fE a l.toNat m.toNat sz) (h.toNat-l.toNat) (m.toNat-l.toNat)
def aej(s:ByteArray)(lo hi:Option Int)(k:ByteArray->Prop):Prop:=
 let h:Int:=hi.getD s.size
 let l:Int:=lo.getD 0
 (hi=none\/(0<=h/\h<=s.size))/\(0<=l/\l<=h)/\k (s.extract l.toNat h.toNat)
def R3(fr:Fr)(x:Option Operand)(k:Option Int->Prop):Prop:=
 match x with
 |none=>k none
 |some x=>match ev fr x with
  |.int _ n=>k (some n)
  |_=>False
def abE(l c:Int)(i:dp)(e:TypeId)(w:ahs)(k:Value->ahs->Prop):Prop:=
 match i.zero with
 |some z=>vd l c i.bytes/\new w (.cells ⟨iX l.toNat (cellsOf z)⟩ e) λb w'=>k (.slice (some ⟨b,0,none⟩) l.toNat l.toNat) w'
 |none=>False
def yld(P:Program)(E:ahs->ahs->Prop)(l:Nat)(args:List Value)(w:ahs)(R:Value->ahs->Prop):Prop:=
 ∃a b c d,(Instr.yield l ⟨args⟩).run P w=.ok (.round l a b c d) w/\
  RoundIn Fence.wide 0 P l a b c d w λa b=>∃c,a=.returned c/\E w b/\R c b
def abF(v:Value)(i:Nat)(k:Value->Prop):Prop:=
 match v with
 |.tuple vs=>(match vs.toList[i]? with|some u=>k u|none=>False)
 |_=>False
def aek(v:Value)(f:Option (Nat×Nat×Bool))(k:Value->Prop):Prop:=
 match v,f with
 |.agg cs,some (o,s,true)=>k (.agg ⟨(cs.toList.drop o).take s⟩)
 |.agg cs,some (o,_,false)=>(match cs.toList[o]? with|some u=>k u|none=>False)
 |_,_=>False
def abG(v:Value)(sh:Sh)(k:Value->Prop):Prop:=
 (v=.tuple #[.bool false]/\k (.tuple #[.bool false]))\/(match sh with
  |.tup (_::l)=>exS l λus=>v=.tuple ⟨.bool true::us⟩/\k (.tuple ⟨.bool true::us⟩)
  |.tup []=>∃(n:Int)(u:Value),v=.tuple ⟨[.bool true,.int .i64 n,u]⟩/\k (.tuple ⟨[.bool true,.int .i64 n,u]⟩)
  |_=>False)
def ab9(v:Value)(sh:Sh)(k:Value->Prop):Prop:=
 match sh with
 |.tup []=>∃(n:Int)(u:Value),v=.tuple ⟨[.int .i64 n,u]⟩/\k (.tuple ⟨[.int .i64 n,u]⟩)
 |.tup l=>exS l λus=>v=.tuple ⟨us⟩/\k (.tuple ⟨us⟩)
 |_=>False
def Fe(first args cap:List Value):List Value:=Nn first (Nn args cap)
theorem Ln(f a c:List Value):Fe f a c=f++a++c:=by simp[Fe,F9]
def oN:Bool->Prop->Prop
 |true,p=>p
 |false,_=>False
theorem a_{c:Bool}{p:Prop}:oN c p↔c=true/\p:=by cases c<;>simp[oN]
def orX(d c:Bool)(p q:Prop):Prop:=match d with
 |true=>(match c with|true=>p|false=>q)
 |false=>oN c p
def isDir:Operand->Bool
 |.func _=>true
 |_=>false
def ab_(P:Program)(g:FuncId)(args:List Value)(w:ahs)(R:Value->ahs->Prop):Prop:=∃a b,(callFunc g ⟨args⟩).run P w=.ok (.value a) b/\Ev w b/\R a b
def VH(P:Program)(Fn:FuncId->Bool)(E:ahs->ahs->Prop)(f:Value)(args:List Value)(sh:Sh)(w:ahs)(K:Value->ahs->Prop)(d:Bool):Prop:=
 match f with
 |.func (.func g) first cap=>orX d (Fn g) (iK P E g (Fe first.toList args cap.toList) w λv w'=>sh.is v λu=>K u w') (ab_ P g (Fe first.toList args cap.toList) w λv w'=>sh.is v λu=>K u w')
 |.func (.yield l) first _=>yld P E l (Nn first.toList args) w λv w'=>sh.is v λu=>K u w'
 |_=>False
def afj(P:Program)(E:ahs->ahs->Prop)(r:Value)(m:String)(args:List Value)(sh:Sh)(w:ahs)(K:Value->ahs->Prop):Prop:=
 ∃g as,(callMethod r m ⟨args⟩).run P w=.ok (.enter g ⟨as⟩) w/\iK P E g as w λv w'=>sh.is v λu=>K u w'
def rsW(P:Program)(w:ahs)(s:Sem Value)(k:Value->Prop):Prop:=∃v,s.run P w=.ok v w/\k v
def rsC(P:Program)(C:ahs->Prop)(s:Sem Value)(k:Value->Prop):Prop:=∃v,(∀w,C w->s.run P w=.ok v w)/\k v
def ldC(C:ahs->Prop)(a:Addr)(i:dp)(k:Value->Prop):Prop:=
 match i.zero with
 |none=>False
 |some z=>match i.kd.isAgg,S1.of z with
  |true,.agg l=>exC l λvs=>(∀w,C w->rowAt w a 0 i.size=some vs)/\k (.agg ⟨vs⟩)
  |false,.one c=>c.ex λv=>(∀w,C w->w.cell? a=some v)/\k v
  |_,_=>False
def R4:Kd->Bool|.int _=>true|_=>false
def rsN(b:Bool)(rs:Sem Value->(Value->Prop)->Prop):Sem Value->(Value->Prop)->Prop:=match b with|true=>λ_ _=>False|false=>rs
def wu(P:Program)(Ty:TypeId->Option dp)(ld:Addr->dp->(Value->Prop)->Prop)(rs:Sem Value->(Value->Prop)->Prop)(o:Oper)(fr:Fr)(K:Value->Prop):Prop:=
 match o.op with
 |.move x=>K (ev fr x)
 |.assign x=>K (ev fr x)
 |.pick c a b=>(match ev fr c with|.bool t=>K (match t with|true=>ev fr a|false=>ev fr b)|_=>False)
 |.build t ps=>(match Ty t with
  |some i=>(match i.zero,i.kd with
   |some z,.struct=>VG (Bm (GH i.flds) (cellsOf z) (EM fr ps.toList)) λcs=>K (.agg ⟨cs⟩)
   |some z,.array _ e=>(match J9 Ty e with|some s=>VG (Bm (λk=>some (k*s,s)) (cellsOf z) (EM fr ps.toList)) λcs=>K (.agg ⟨cs⟩)|none=>False)
   |_,_=>False)
  |none=>False)
 |.load t x=>(match ev fr x,Ty t with
  |.pointer a,some i=>nn a λad=>ld ad i K
  |_,_=>False)
 |.nilCheck x=>(match ev fr x with
  |.pointer a=>nn a λad=>K (.pointer (some ad))
  |.func (.func f) first cap=>K (.func (.func f) first cap)
  |.func (.yield f) first cap=>K (.func (.yield f) first cap)
  |.iface t v=>K (.iface t v)
  |_=>False)
 |.binOp op t x y _=>ab7 Ty (rsN (R4 (ai Ty t)) rs) op t x y (ev fr x) (ev fr y) K
 |.unOp op _ x=>(match op,ev fr x with
  |.not,.bool b=>K (.bool (!b))
  |.neg,.int k n=>Nl false k (0-n) K
  |.xor,.int k n=>K (.int k (oM .xor k (if k.signed then-1 else k.max) n))
  |_,_=>False)
 |.convert s d x=>(match ai Ty s,ai Ty d,ev fr x with
  |.int _,.int k,.int _ n=>Nl false k n K
  |.string,.string,.string s=>K (.string s)
  |_,_,_=>False)
 |.makeInterface t x=>(match Ty t with|some i=>(match i.kd with|.iface=>False|_=>K (.iface t (ev fr x)))|none=>False)
 |.makeFunc fn first cap=>K (.func fn ⟨nj fr first.toList⟩ ⟨nj fr cap.toList⟩)
 |.slice t x lo hi mx=>(match ai Ty t,ev fr x with
  |.slice e,.slice a len cap=>(match J9 Ty e with
   |some sz=>R3 fr lo λlo=>R3 fr hi λhi=>R3 fr mx λmx=>lV a len cap lo hi mx sz λa l c=>K (.slice a l c)
   |none=>False)
  |.string,.string s=>(match mx with|none=>R3 fr lo λlo=>R3 fr hi λhi=>aej s lo hi λs=>K (.string s)|some _=>False)
  |_,_=>False)
 |.fieldAddr s x f=>(match Ty s,ev fr x with
  |some i,.pointer a=>(match i.kd,i.flds[f]? with
   |.struct,some (off,sz,_)=>bif Nat.ble 1 sz then nn a λad=>K (.pointer (some (adA ad off))) else False
   |_,_=>False)
  |_,_=>False)
 |.field t x f=>(match Ty t with
  |some i=>(match i.kd with|.struct=>aek (ev fr x) (i.flds[f]?) K|_=>False)
  |none=>False)
 |.indexAddr t x ix=>(match ai Ty t,ev fr x,ev fr ix with
  |.slice e,.slice a len cap,.int _ i=>(match J9 Ty e with|some sz=>idx a len i sz λad=>K (.pointer (some ad))|none=>False)
  |.array n e,.pointer a,.int _ i=>(match J9 Ty e with|some sz=>idx a n i sz λad=>K (.pointer (some ad))|none=>False)
  |_,_,_=>False)
 |.index t x ix=>(match ai Ty t,ev fr x,ev fr ix with
  |.string,.string s,.int _ i=>inS i s.size/\K (.int .u8 (sb s i.toNat).toNat)
  |_,x,y=>rs (Instr.index t x y) λv=>(P4 Ty o.type).is v K)
 |.extract t i=>abF (ev fr t) i K
 |.call c=>(match c.callee,nj fr c.args.toList with
  |.builtin .len,[.slice a l cap]=>(match c.argTypes.toList with|t::_=>bif RZ (ai Ty t) then K (.int .i64 l) else False|_=>False)
  |.builtin .len,[.string s]=>(match c.argTypes.toList with|t::_=>(match ai Ty t with|.string=>K (.int .i64 s.size)|_=>False)|_=>False)
  |.builtin .len,args=>rs (Builtin.len_ c.argTypes o.type ⟨args⟩) λv=>(P4 Ty o.type).is v K
  |.builtin .min,[.int k a,.int _ b]=>K (.int k (if b<a then b else a))
  |.builtin .max,[.int k a,.int _ b]=>K (.int k (if a<b then b else a))
  |_,_=>False)
 |_=>False
def gD(Ty:TypeId->Option dp)(o:Oper):Bool:=
 match o.op with
 |.move _|.assign _|.pick .. |.build .. |.load .. |.nilCheck _|.binOp .. |.unOp .. |.makeInterface .. |.makeFunc .. |.slice .. |.fieldAddr .. |.field .. |.indexAddr .. |.index .. |.extract ..=>true
 |.convert s d _=>(match ai Ty s,ai Ty d with
  |.int _,.int _=>true
  |.string,.string=>true
  |_,_=>false)
 |.call c=>(match c.callee with
  |.builtin .len|.builtin .min|.builtin .max=>true
  |_=>false)
 |_=>false
def biV(P:Program)(Ty:TypeId->Option dp)(b:Builtin)(tys:Array TypeId)(ty:TypeId)(args:List Value)(w:ahs)(K:Value->ahs->Prop):Prop:=
 match b with
 |.append=>aX P (Builtin.append_ tys ty ⟨args⟩) w λv w'=>(P4 Ty ty).is v λu=>K u w'
 |.copy=>aX P (Builtin.copy_ tys ty ⟨args⟩) w λv w'=>(P4 Ty ty).is v λu=>K u w'
 |.delete=>aX P (Builtin.delete_ tys ty ⟨args⟩) w λv w'=>K v w'
 |.clear=>aX P (Builtin.clear_ tys ty ⟨args⟩) w λv w'=>K v w'
 |.cap=>aX P (Builtin.cap_ tys ty ⟨args⟩) w λv w'=>(P4 Ty ty).is v λu=>K u w'
 |.unsafeSliceData=>aX P (Builtin.unsafeSliceData_ tys ty ⟨args⟩) w λv w'=>(P4 Ty ty).is v λu=>K u w'
 |.unsafeString=>aX P (Builtin.unsafeString_ tys ty ⟨args⟩) w λv w'=>(P4 Ty ty).is v λu=>K u w'
 |_=>False
def aca(Ty:TypeId->Option dp)(t:TypeId):Sh:=match ai Ty t with
 |.map _ e=>(match P4 Ty e with|.s s=>.tup [s,.one (.int .i64)]|h=>h)
 |_=>.s (.one .val)
def VI(P:Program)(Ty:TypeId->Option dp)(Fn:FuncId->Bool)(E:ahs->ahs->Prop)(o:Oper)(fr:Fr)(w:ahs)(K:Value->ahs->Prop):Prop:=
 match o.op with
 |.alloc t=>(match Ty t with
  |some i=>(match i.zero with|some z=>new w (.cells ⟨cellsOf z⟩ t) λb w'=>K (.pointer (some ⟨b,0,none⟩)) w'|none=>False)
  |none=>False)
 |.box t x=>new w (.cells ⟨cellsOf (ev fr x)⟩ t) λb w'=>K (.pointer (some ⟨b,0,none⟩)) w'
 |.buildSlice t n ps=>(match ai Ty t with
  |.slice e=>(match Ty e with
   |some i=>(match i.zero with
    |some z=>bif EL (cellsOf z) i.size&&(Nat.ble n 4096&&Nat.ble i.size 4096)&&Nat.ble 1 i.size then VG (Bm (λk=>some (k*i.size,i.size)) (J_ n (cellsOf z)) (EM fr ps.toList)) λcs=>new w (.cells ⟨cs⟩ e) λb w'=>K (.slice (some ⟨b,0,none⟩) n n) w' else False
    |none=>False)
   |none=>False)
  |_=>False)
 |.store t a x=>(match ev fr a,Ty t with
  |.pointer a,some i=>nn a λad=>stv w ad i (ev fr x) λw'=>K undef w'
  |_,_=>False)
 |.convert s d x=>aX P (Go.convert s d (ev fr x)) w λv w'=>(P4 Ty d).is v λu=>K u w'
 |.makeMap t none=>new w (.map #[] 0) λb w'=>K (.map (some b)) w'
 |.makeSlice t l c=>(match ai Ty t with
  |.slice e=>(match Ty e,ev fr l,ev fr c with
   |some i,.int _ l,.int _ c=>bif (match i.zero with|some z=>EL (cellsOf z) i.size|none=>false)&&Nat.ble 1 i.bytes&&Nat.ble 1 i.size then abE l c i e w K else False
   |_,_,_=>False)
  |_=>False)
 |.lookup t m k ok=>aX P (Instr.lookup t (ev fr m) (ev fr k) ok) w λv w'=>(P4 Ty o.type).is v λu=>K u w'
 |.mapUpdate t m k x=>aX P (Instr.mapUpdate t (ev fr m) (ev fr k) (ev fr x)) w λ_ w'=>K undef w'
 |.insert t m k x=>aX P (Instr.mapUpdate t (ev fr m) (ev fr k) (ev fr x)) w λ_ w'=>K undef w'
 |.mapEntry t m k=>aX P (Instr.mapEntry t (ev fr m) (ev fr k)) w λv w'=>(aca Ty t).is v λu=>K u w'
 |.entryStore t m s x=>aX P (Instr.entryStore t (ev fr m) (ev fr s) (ev fr x)) w λ_ w'=>K undef w'
 |.range t x=>aX P (Instr.range t (ev fr x)) w λv w'=>(Sh.s (.one .ptr)).is v λu=>K u w'
 |.next it isS=>aX P (Instr.next (ev fr it) isS o.type) w λv w'=>abG v (match isS with|true=>.tup [.one .bool,.one (.int .i64),.one (.int .i32)]|false=>P4 Ty o.type) λu=>K u w'
 |.entry it=>aX P (Instr.entry (ev fr it)) w λv w'=>ab9 v (P4 Ty o.type) λu=>K u w'
 |.typeAssert x t u ok=>aX P (Instr.typeAssert (ev fr x) t u ok) w λv w'=>(P4 Ty o.type).is v λu=>K u w'
 |.call c=>(match c.callee with
  |.builtin b=>biV P Ty b c.argTypes o.type (nj fr c.args.toList) w K
  |.value f=>VH P Fn E (ev fr f) (nj fr c.args.toList) (P4 Ty o.type) w K (isDir f)
  |.invoke r m=>afj P E (ev fr r) m (nj fr c.args.toList) (P4 Ty o.type) w K)
 |_=>False
def Np(P:Program)(Ty:TypeId->Option dp)(Fn:FuncId->Bool)(E:ahs->ahs->Prop)(o:Oper)(fr:Fr)(w:ahs)(K:Value->ahs->Prop):Prop:=
 bif gD Ty o then wu P Ty (ldv w) (rsW P w) o fr λv=>K v w else VI P Ty Fn E o fr w K
def Cs.arr:Cs->Type->Type
 |.int _,β=>Int->β
 |.bool,β=>Bool->β
 |.str,β=>ByteArray->β
 |.slice,β=>ahr->Nat->Nat->β
 |.ptr,β=>ahr->β
 |.map,β=>Option Nat->β
 |.fn,β=>FuncId->List Value->β
 |.val,β=>Value->β
 |.ifc,β=>TypeId->Value->β
def TV:List Cs->Type->Type
 |[],β=>β
 |c::l,β=>c.arr (TV l β)
def S1.arr:S1->Type->Type
 |.one c,β=>c.arr β
 |.agg l,β=>TV l β
def GI:List S1->Type->Type
 |[],β=>β
 |c::l,β=>c.arr (GI l β)
def Cs.Zq:(c:Cs)->{β:Type}->β->c.arr β
 |.int _,_,b=>λ_=>b
 |.bool,_,b=>λ_=>b
 |.str,_,b=>λ_=>b
 |.slice,_,b=>λ_ _ _=>b
 |.ptr,_,b=>λ_=>b
 |.map,_,b=>λ_=>b
 |.fn,_,b=>λ_ _=>b
 |.val,_,b=>λ_=>b
 |.ifc,_,b=>λ_ _=>b
def Qh:(l:List Cs)->{β:Type}->β->TV l β
 |[],_,b=>b
 |c::l,_,b=>c.Zq (Qh l b)
def S1.Zq:(c:S1)->{β:Type}->β->c.arr β
 |.one c,_,b=>c.Zq b
 |.agg l,_,b=>Qh l b
def TW:(l:List S1)->{β:Type}->β->GI l β
 |[],_,b=>b
 |c::l,_,b=>c.Zq (TW l b)
def Cs.ap:(c:Cs)->{β:Type}->c.arr β->Value->β->β
 |.int k,_,f,.int k' n,d=>bif Nat.beq (kx k) (kx k') then f n else d
 |.bool,_,f,.bool b,_=>f b
 |.str,_,f,.string s,_=>f s
 |.slice,_,f,.slice a l c,_=>f a l c
 |.ptr,_,f,.pointer a,_=>f a
 |.map,_,f,.map r,_=>f r
 |.fn,_,f,.func (.func g) ⟨[]⟩ ⟨c⟩,_=>f g c
 |.val,_,f,v,_=>f v
 |.ifc,_,f,.iface t v,_=>f t v
 |_,_,_,_,d=>d
def apC:(l:List Cs)->{β:Type}->TV l β->List Value->β->β
 |[],_,f,[],_=>f
 |c::l,_,f,v::vs,d=>apC l (c.ap f v (Qh l d)) vs d
 |_,_,_,_,d=>d
def S1.ap:(c:S1)->{β:Type}->c.arr β->Value->β->β
 |.one c,_,f,v,d=>c.ap f v d
 |.agg l,_,f,.agg cs,d=>apC l f cs.toList d
 |_,_,_,_,d=>d
def Ka:(l:List S1)->{β:Type}->GI l β->List Value->β->β
 |[],_,f,[],_=>f
 |c::l,_,f,v::vs,d=>Ka l (c.ap f v (TW l d)) vs d
 |_,_,_,_,d=>d
def Nq:List S1->(List Value->Prop)->Prop
 |[],p=>p []
 |c::l,p=>c.all λv=>Nq l λvs=>p (v::vs)
def dstsOf:List Oper->List Nat
 |[]=>[]
 |o::l=>match o.dst with|some d=>d::dstsOf l|none=>dstsOf l
def Qi:List Nat->List Nat->List Nat
 |[],m=>m
 |x::l,m=>x::Qi l m
def rK:Code->List Nat
 |.region _ ops _=>dstsOf ops.toList
 |.seq a b=>Qi (rK a) (rK b)
 |.cond _ a b=>Qi (rK a) (rK b)
 |.block _ a=>rK a
 |.loop a=>rK a
 |.scope a=>rK a
 |_=>[]
def uU(n:Nat)(d:Nat->Value):List Nat->Fr->Fr
 |[],fr=>fr
 |s::l,fr=>uU n d l (put n fr (some s) (d s))
def wv(fr:Fr):List (Nat×S1)->List Value
 |[]=>[]
 |(s,_)::l=>ff fr s::wv fr l
def pR(n:Nat)(fr:Fr):List (Nat×S1)->List Value->Fr
 |(s,_)::l,v::vs=>pR n (put n fr (some s) v) l vs
 |_,_=>fr
def Bh:List (Nat×S1)->List S1
 |[]=>[]
 |(_,s)::l=>s::Bh l
structure aW where
 loops:List (Nat×List (Nat×S1)):=[]
 joins:List (Nat×List (Nat×S1)):=[]
 blocks:List (Nat×List (Nat×S1)):=[]
 rngs:List (Nat×List (Nat×S1)):=[]
def look(k:Nat):List (Nat×List (Nat×S1))->Option (List (Nat×S1))
 |[]=>none
 |(j,x)::l=>bif Nat.beq j k then some x else look k l
def qI:Code->Option Nat
 |.region i _ _=>some i
 |.seq a b=>(match qI a with|some i=>some i|none=>qI b)
 |.cond _ a b=>(match qI a with|some i=>some i|none=>qI b)
 |.block _ a=>qI a
 |.loop a=>qI a
 |.scope a=>qI a
 |_=>none
def VJ(k:Option Nat)(l:List (Nat×List (Nat×S1))):Option (List (Nat×S1)):=match k with|some k=>look k l|none=>none
def VK:List Oper->Nat->Option Oper
 |[],_=>none
 |o::_,0=>some o
 |_::l,n+1=>VK l n
def EN(all:List Oper)(j:Nat):Option Tmp:=match VK all j with|some o=>o.dst|none=>none
def R5:Bool->Bool->Bool
 |true,true=>true
 |false,false=>true
 |_,_=>false
def Nr(all:List Oper)(fr:Fr)(o:Oper)(yes no:Prop):Prop:=
 match o.guard with
 |none=>yes
 |some (j,t)=>match EN all j with
  |some d=>(match ff fr d with|.bool b=>bif R5 b t then yes else no|_=>no)
  |none=>no
def VL:List Oper->Nat->Bool
 |[],_=>false
 |o::l,i=>match o.guard with|some (j,_)=>Nat.beq j i||VL l i|none=>VL l i
def GJ(g:Bool)(v:Value)(k:Value->Prop):Prop:=
 match g,v with
 |true,.bool b=>aeh b λb=>k (.bool b)
 |_,v=>k v
def ael:Op->Bool
 |.entry _=>true
 |_=>false
def Zr(Ty:TypeId->Option dp)(d:Nat)(j:Nat):List Oper->S1
 |[]=>.one .val
 |o::l=>match o.op with
  |.extract (.tmp t) i=>(match Nat.beq t d&&Nat.beq i j with
   |true=>(match P4 Ty o.type with|.s x=>x|_=>.one .val)
   |false=>Zr Ty d j l)
  |_=>Zr Ty d j l
def aem(P:Program)(Ty:TypeId->Option dp)(all:List Oper)(o:Oper)(fr:Fr)(w:ahs)(K:Value->ahs->Prop):Prop:=
 match o.op,o.dst with
 |.entry it,some d=>aX P (Instr.entry (ev fr it)) w λv w'=>exS [Zr Ty d 0 all,Zr Ty d 1 all] λus=>v=.tuple ⟨us⟩/\K (.tuple ⟨us⟩) w'
 |_,_=>False
section
variable(P:Program)(Ty:TypeId->Option dp)(Fn:FuncId->Bool)(E:ahs->ahs->Prop)(N:Nat)
def opK(all:List Oper)(o:Oper)(fr:Fr)(w:ahs)(K:Value->ahs->Prop):Prop:=
 match ael o.op with
 |true=>aem P Ty all o fr w K
 |false=>Np P Ty Fn E o fr w K
def Dd(all:List Oper):Nat->List Oper->Fr->ahs->(Fr->ahs->Prop)->Prop
 |_,[],fr,w,K=>K fr w
 |i,o::l,fr,w,K=>
  Nr all fr o (opK P Ty Fn E all o fr w λv w'=>GJ (VL all i) v λv=>Dd all (i+1) l (put N fr o.dst v) w' K)
   (Dd all (i+1) l (put N fr o.dst undef) w K)
def VM:List Bool->Nat->Bool
 |[],_=>true
 |b::_,0=>b
 |_::l,n+1=>VM l n
def R6:List Bool->Nat->Bool
 |[],_=>false
 |b::_,0=>b
 |_::l,n+1=>R6 l n
def kE:List Bool->Nat->List Bool
 |[],_=>[]
 |_::l,0=>true::l
 |b::l,n+1=>b::kE l n
def GK(ls:List Bool):List Edge->Bool
 |[]=>true
 |e::l=>(match e.ground with|.textOnly _|.gcOnly _=>true|_=>R6 ls e.on)&&GK ls l
def Ns(ls:List Bool)(i:Nat)(o:Oper):Bool:=!VM ls i&&GK ls o.after.toList
def jE(Ty:TypeId->Option dp)(ls:List Bool):Nat->List Oper->Option (Nat×Oper)
 |_,[]=>none
 |i,o::l=>bif gD Ty o&&Ns ls i o then some (i,o) else jE Ty ls (i+1) l
def gm(ls:List Bool):Nat->List Oper->List (Nat×Oper)
 |_,[]=>[]
 |i,o::l=>bif Ns ls i o then(i,o)::gm ls (i+1) l else gm ls (i+1) l
def R7(n:Nat):List Bool:=match n with|0=>[]|n+1=>false::R7 n
def wx(x:Nat):List Nat->Bool
 |[]=>false
 |y::l=>Nat.beq x y||wx x l
def Zs:Option Operand->List Operand->List Operand
 |none,l=>l
 |some x,l=>x::l
def Zt:List Operand->List Operand->List Operand
 |[],m=>m
 |x::l,m=>x::Zt l m
def Zu:List (Nat×Operand)->List Operand
 |[]=>[]
 |(_,x)::l=>x::Zu l
def VN:Op->List Operand
 |.move x|.assign x|.box _ x|.load _ x|.nilCheck x|.unOp _ _ x|.convert _ _ x|.makeInterface _ x|.fieldAddr _ x _|.field _ x _|.range _ x|.next x _|.typeAssert x _ _ _|.extract x _=>[x]
 |.pick c a b=>[c,a,b]
 |.build _ ps|.buildSlice _ _ ps=>Zu ps.toList
 |.store _ a v|.binOp _ _ a v _|.makeSlice _ a v|.indexAddr _ a v|.index _ a v|.lookup _ a v _|.mapEntry _ a v=>[a,v]
 |.makeFunc _ first cap=>Zt first.toList cap.toList
 |.slice _ x l h m=>x::Zs l (Zs h (Zs m []))
 |.mapUpdate _ m k v|.entryStore _ m k v|.insert _ m k v=>[m,k,v]
 |.call c=>(match c.callee with|.value f=>f::c.args.toList|.invoke r _=>r::c.args.toList|.builtin _=>c.args.toList)
 |o=>o.operands.toList
def Kb:List Operand->List Nat->List Nat
 |[],m=>m
 |.tmp t::l,m=>t::Kb l m
 |_::l,m=>Kb l m
def looks(all:List Oper)(o:Oper):List Nat:=
 Kb (VN o.op) (match o.guard with|some (g,_)=>(match EN all g with|some d=>[d]|none=>[])|none=>[])
def Lo(d:Option Tmp)(l:List Nat):Bool:=match d with|some d=>!wx d l|none=>true
def abH(a b:Option Tmp):Bool:=match a,b with|some a,some b=>!Nat.beq a b|_,_=>true
def De(all:List Oper)(x y:Oper):Bool:=Lo x.dst (looks all y)&&abH x.dst y.dst&&Lo y.dst (looks all x)
def waits(i:Nat):List Edge->Bool
 |[]=>false
 |e::l=>(match e.ground with|.textOnly _|.gcOnly _=>false|_=>Nat.beq e.on i)||waits i l
def R8(all:List Oper)(ls:List Bool)(i:Nat)(o:Oper):Nat->List Oper->Bool
 |_,[]=>true
 |j,p::l=>(Nat.beq j i||VM ls j||waits i p.after.toList||De all o p)&&R8 all ls i o (j+1) l
def acb:List (Nat×Oper)->(Nat×Oper->Prop)->Prop
 |[],_=>True
 |[x],f=>f x
 |x::l,f=>f x/\acb l f
def Bn:List Edge->List Nat->List Nat
 |[],m=>m
 |e::l,m=>match e.ground with|.textOnly _|.gcOnly _=>Bn l m|_=>e.on::Bn l m
def clo(all:List Oper):Nat->List Nat->List Nat->List Nat
 |0,_,done=>done
 |_+1,[],done=>done
 |n+1,j::todo,done=>match wx j done with
  |true=>clo all n todo done
  |false=>clo all n (match VK all j with|some o=>Bn o.after.toList todo|none=>todo) (j::done)
def Kc(Ty:TypeId->Option dp)(cl:List Nat):Nat->List Oper->Bool
 |_,[]=>false
 |i,o::l=>(gD Ty o&& !wx i cl)||Kc Ty cl (i+1) l
def aen(Ty:TypeId->Option dp)(all:List Oper)(es:List Edge):Bool:=Kc Ty (clo all 1000 (Bn es []) []) 0 all
def Lp(Ty:TypeId->Option dp)(o:Oper):Bool:=match o.op with|.move _|.assign _|.indexAddr .. |.fieldAddr ..=>true|.binOp _ t _ _ _=>R4 (ai Ty t)|_=>false
def Bo(Ty:TypeId->Option dp)(o:Oper):Bool:=gD Ty o&& !Lp Ty o
def zY(Ty:TypeId->Option dp)(cl:List Nat):Nat->List Oper->Bool
 |_,[]=>false
 |i,o::l=>(Bo Ty o&& !wx i cl)||zY Ty cl (i+1) l
def GM(Ty:TypeId->Option dp)(all:List Oper)(es:List Edge):Bool:=zY Ty (clo all 1000 (Bn es []) []) 0 all
def Ke(Ty:TypeId->Option dp)(all:List Oper)(o:Oper):Bool:=match o.op with|.store ..=>GM Ty all o.after.toList|_=>aen Ty all o.after.toList
def acd(o:Oper):Bool:=match o.op with|.load ..=>true|_=>false
def abI(all:List Oper)(i:Nat):List Oper->Bool
 |[]=>false
 |o::l=>(acd o&&wx i (clo all 1000 (Bn o.after.toList []) []))||abI all i l
def cCs(b s:Bool)(C:ahs->Prop)(w':ahs)(f:(ahs->Prop)->Prop):Prop:=
 match b with
 |true=>(match s with|true=>∃C':ahs->Prop,C' w'/\(∀w,C' w->C w)/\f C'|false=>C w'/\f C)
 |false=>f C
def EO(C:ahs->Prop)(all:List Oper)(K:Fr->ahs->Prop):Nat->List Bool->Fr->ahs->Prop
 |0,ls,fr,w=>(match gm ls 0 all with|[]=>K fr w|_=>False)
 |n+1,ls,fr,w=>
  match jE Ty ls 0 all with
  |some (i,o)=>oN (R8 all ls i o 0 all) (
    Nr all fr o (wu P Ty (ldC C) (rsC P C) o fr λv=>GJ (VL all i) v λv=>EO C all K n (kE ls i) (put N fr o.dst v) w)
     (EO C all K n (kE ls i) (put N fr o.dst undef) w))
  |none=>match gm ls 0 all with
   |[]=>K fr w
   |es=>acb es λx=>
     Nr all fr x.2 (VI P Ty Fn E x.2 fr w λv w'=>GJ (VL all x.1) v λv=>cCs (Ke Ty all x.2) (abI all x.1 all) C w' λC=>EO C all K n (kE ls x.1) (put N fr x.2.dst v) w')
      (EO C all K n (kE ls x.1) (put N fr x.2.dst undef) w)
def R9:List Oper->Bool
 |[]=>true
 |o::l=>(match o.op with|.select ..=>false|_=>true)&&R9 l
def drawn(w w':ahs):Prop:=w'={ w with drawn:=w.drawn+1 }
def Zv(ops:List Oper)(draw:Bool)(fr:Fr)(w:ahs)(K:Fr->ahs->Prop):Prop:=
 match draw with
 |false=>Dd P Ty Fn E N ops 0 ops fr w K
 |true=>oN (R9 ops) (∀w',drawn w w'->∃C:ahs->Prop,C w'/\EO P Ty Fn E N C ops K (lenO ops) (R7 (lenO ops)) fr w')
where
 lenO:List Oper->Nat
  |[]=>0
  |_::l=>Nat.succ (lenO l)
def aeo(n:Nat)(lv:List (Nat×S1))(ws:List Nat)(fr:Fr)(w:ahs)(body:Fr->ahs->(Fr->ahs->Prop)->Prop):Prop:=
 ∃(I:GI (Bh lv) (ahs->Prop))(m:GI (Bh lv) (ahs->Nat)),
  Ka (Bh lv) I (wv fr lv) (λ_=>False) w/\
  ∀(d:Nat->Value),Nq (Bh lv) λvs=>∀w,Ka (Bh lv) I vs (λ_=>False) w->
   body (pR n (uU n d ws fr) lv vs) w λfr' w'=>
    Ka (Bh lv) I (wv fr' lv) (λ_=>False) w'/\Ka (Bh lv) m (wv fr' lv) (λ_=>0) w'<Ka (Bh lv) m vs (λ_=>0) w
def abJ(n:Nat)(lv:List (Nat×S1))(ws:List Nat)(fr:Fr)(a:(Fr->ahs->Prop)->Prop)(b:Fr->ahs->Prop):Prop:=
 ∃J:GI (Bh lv) (ahs->Prop),a (λfr' w'=>Ka (Bh lv) J (wv fr' lv) (λ_=>False) w')/\
  ∀(d:Nat->Value),Nq (Bh lv) λvs=>∀w,Ka (Bh lv) J vs (λ_=>False) w->b (pR n (uU n d ws fr) lv vs) w
def dO:Code->Bool
 |.rangeFunc ..=>true
 |.seq a b=>dO a||dO b
 |.cond _ a b=>dO a||dO b
 |.block _ a=>dO a
 |.loop a=>dO a
 |.scope a=>dO a
 |_=>false
def Nt(M L:List aC):Prop:=∀h,aG M h->aG L h
def Zj(P:Program)(g:FuncId)(first cap:List Value)(D Q:aC)(xs:List (List Value)):Prop:=
 ∀(l:Nat)(E:ahs->ahs->Prop),Jg E->∀(J:Nat->aC)(Jx:aC)(L:List aC)(w0:ahs),St w0 (J 0::D::L)->(∀h,aG L h->Q h)->
  (∀i us,xs[i]? =some us->∀M w,Nt M L->St w (J i::M)->yld P E l us w λv w'=>(v=.bool true/\St w' (J (i+1)::M))\/(v=.bool false/\St w' (Jx::M)))->
  iK P E g (Fe first [.func (.yield l) #[] #[]] cap) w0 λ_ w'=>St w' (J xs.length::D::L)\/St w' (Jx::D::L)
def wy:List Nat->List (Nat×S1)->Bool
 |[],[]=>true
 |a::l,(b,_)::m=>Nat.beq a b&&wy l m
 |_,_=>false
def kF:Code->List Nat
 |.exit i=>[i]
 |.seq a b=>Qi (kF a) (kF b)
 |.cond _ a b=>Qi (kF a) (kF b)
 |.block i a=>delN i (kF a)
 |.loop a=>kF a
 |.scope a=>kF a
 |_=>[]
where delN (i:Nat):List Nat->List Nat
 |[]=>[]
 |j::l=>bif Nat.beq j i||wx j l then delN i l else j::delN i l
def ace:List Nat->(Nat->Prop)->Prop
 |[],_=>True
 |[j],p=>p j
 |j::l,p=>p j/\ace l p
def aep(P:Program)(g:FuncId)(first cap:List Value)(sh:List S1)(exs:List Nat)(w:ahs)
  (asg:List Value->ahs->(Fr->ahs->Prop)->Prop)
  (bd:Fr->ahs->(ahs->Prop)->(ahs->Prop)->(Nat->ahs->Prop)->Prop) (n r:ahs->Prop) (x:Nat->ahs->Prop):Prop:=
 ∃(xs:List (List Value))(D Q:aC)(J:Nat->aC)(Jr:aC)(Jx:Nat->aC)(L:List aC),St w (J 0::D::L)/\(∀h,aG L h->Q h)/\Zj P g first cap D Q xs/\
  (∀us,us∈xs->exS sh λvs=>us=vs)/\
  (∀i,Nq sh λvs=>xs[i]? =some vs->∀L' w,Nt L' L->St w (J i::L')->
   asg vs w λfr1 w1=>∃M:aC,St w1 (M::L')/\∀L' w,Nt L' L->St w (M::L')->
    bd fr1 w (λw'=>St w' (J (i+1)::L')) (λw'=>St w' (Jr::L')) (λj w'=>oN (wx j exs) (St w' (Jx j::L'))))/\
  (∀w',St w' (J xs.length::D::L)->n w')/\(∀w',St w' (Jr::D::L)->r w')/\ace exs λj=>∀w',St w' (Jx j::D::L)->x j w'
def den(A:aW):Code->Fr->ahs->(Fr->ahs->Prop)->(Fr->ahs->Prop)->(Nat->Fr->ahs->Prop)->Prop
 |.skip,fr,w,n,r,x=>n fr w
 |.region _ ops draw,fr,w,n,r,x=>Zv P Ty Fn E N ops.toList draw fr w n
 |.seq a b,fr,w,n,r,x=>
  (match VJ (qI b) A.joins with
  |some lv=>abJ N lv (rK a) fr (λn'=>den A a fr w n' r x) (λfr w=>den A b fr w n r x)
  |none=>den A a fr w (λfr w=>den A b fr w n r x) r x)
 |.cond c a b,fr,w,n,r,x=>brV (ev fr c) (den A a fr w n r x) (den A b fr w n r x)
 |.block i a,fr,w,n,r,x=>
  (match look i A.blocks with
  |some lv=>abJ N lv (rK a) fr (λn'=>den A a fr w n' r λj fr w=>bif Nat.beq j i then n' fr w else x j fr w) n
  |none=>den A a fr w n r λj fr w=>bif Nat.beq j i then n fr w else x j fr w)
 |.loop a,fr,w,n,r,x=>
  (match VJ (qI a) A.loops with
  |some lv=>aeo N lv (rK a) fr w λfr w n'=>den A a fr w n' r x
  |none=>False)
 |.exit i,fr,w,n,r,x=>x i fr w
 |.ret,fr,w,n,r,x=>r fr w
 |.label _,fr,w,n,r,x=>n fr w
 |.scope a,fr,w,n,r,x=>den A a fr w n r x
 |.rangeFunc f ps a b,fr,w,n,r,x=>
  oN (!dO a&& !dO b) (match ev fr f,VJ (qI (.seq a b)) A.rngs with
   |.func (.func g) first cap,some lv=>oN (wy ps.toList lv) (oN (Fn g)
    (aep P g first.toList cap.toList (Bh lv) (kF b) w
     (λvs w K=>den A a (pR N fr lv vs) w K (λ_ _=>False) (λ_ _ _=>False))
     (λfr1 w n' r' x'=>den A b fr1 w (λ_ w=>n' w) (λ_ w=>r' w) (λj _ w=>x' j w)) (n fr) (r fr) (λj=>x j fr)))
   |_,_=>False)
 |_,fr,w,n,r,x=>False
end
def Jj(P:Program)(Ty:TypeId->Option dp)(rs:List ResultVar)(fr:Fr)(w:ahs)(R:Value->Prop):Prop:=
 let rec go:List ResultVar->(List Value->Prop)->Prop
  |[],k=>k []
  |.tmp t::l,k=>go l λvs=>k (ff fr t::vs)
  |.cell a t::l,k=>(match ff fr a,Ty t with
   |.pointer a,some i=>nn a λad=>ldv w ad i λv=>go l λvs=>k (v::vs)
   |_,_=>False)
 go rs λvs=>match vs with|[v]=>R v|vs=>R (.tuple ⟨vs⟩)
def Ff:Nat->List Value->Fr
 |_,[]=>[]
 |i,v::l=>(i,v)::Ff (i+1) l
def Qj(c:Code)(R:Value->ahs->Prop)(v:Value)(w:ahs):Prop:=bif dO c then∀a,hp a=hp w->R v a else R v w
def Zk(P:Program)(Ty:TypeId->Option dp)(Fn:FuncId->Bool)(E:ahs->ahs->Prop)(A:aW)(fn:Func)(args:List Value)(w:ahs)(R:Value->ahs->Prop):Prop:=
 match fn.body with
 |some c=>bif leL args fn.ntmps then
   den P Ty Fn E fn.ntmps A c (Ff 0 args) w (λa b=>Jj P Ty fn.results.toList a b λa=>Qj c R a b) (λa b=>Jj P Ty fn.results.toList a b λa=>Qj c R a b) (λ_ _ _=>False)
  else False
 |none=>False
def Df(P:Program)(E:ahs->ahs->Prop)(o:Oper)(ρ:Operand->Value)(w:ahs)(K:Value->ahs->Prop):Prop:=
 match(execOp ρ o).run P w with
 |.ok (.value v) w'=>E w w'/\K v w'
 |.ok .skip w'=>E w w'/\K undef w'
 |.ok (.enter f args) w'=>E w w'/\Calls P f args w' λe w''=>∃v,e=.returned v/\E w' w''/\K v w''
 |.ok (.round l f tmps assign body) w'=>E w w'/\RoundIn Fence.wide 0 P l f tmps assign body w' λe w''=>∃v,e=.returned v/\E w' w''/\K v w''
 |_=>False
theorem Df.mono{P:Program}{E:ahs->ahs->Prop}{o:Oper}{ρ:Operand->Value}{w:ahs}{K K':Value->ahs->Prop}(h:Df P E o ρ w K)(hk:∀v w',E w w'->K v w'->K' v w')
  (ht:∀{a b c:ahs},E a b->E b c->E a c):Df P E o ρ w K':=by
 unfold Df at*
 split at h
 ·simp_all
 ·simp_all
 ·grind[Calls.mono]
 ·grind[RoundIn.mono]
 omega
def Dg(P:Program):TypeDesc->List (Nat×Nat×Bool)
 |.struct fs=>fs.toList.map λf=>(f.offset,P.cellsOf f.type,match P.underlying f.type with|some (.struct _)|some (.array ..)=>true|_=>false)
 |_=>[]
structure afk(P:Program)(t:TypeId)(i:dp)(info:TypeInfo)(d:TypeDesc):Prop where
 inf:P.info? t=some info
 und:P.underlying t=some d
 kd:i.kd=ij d
 size:i.size=info.size
 bytes:i.bytes=info.bytes
 zero:i.zero=info.zero
 flds:i.flds=Dg P d
 ok:Da P d=true
theorem rU{P:Program}{Ty:TypeId->Option dp}(h:dY P Ty){t:TypeId}{i:dp}(hi:Ty t=some i):∃info d,afk P t i info d:=by
 obtain⟨c,this⟩:=h t i hi;unfold tyi at this
 split at this
 ·rename_i a b ha hb;simp only[Bool.cond_eq_ite] at this
  split at this
  ·rename_i hok;have e:=Option.some.inj this;exact⟨a,b,ha,hb,(congrArg dp.kd e).symm,(congrArg dp.size e).symm,(congrArg dp.bytes e).symm,(congrArg dp.zero e).symm,(congrArg dp.flds e).symm.trans (by rfl),hok⟩
  simp_all
 simp_all
theorem Qk{Ty:TypeId->Option dp}{t:TypeId}{k:Kd}(h:ai Ty t=k)(hk:k≠.other):∃i,Ty t=some i/\i.kd=k:=by grind[ai,absurd]
theorem fh{d:TypeDesc}{e:TypeId}(h:Kd.slice e=ij d):d=.slice e:=by cases d<;>simp[ij] at h;simp_all
theorem Nu{d:TypeDesc}{n:Nat}{e:TypeId}(h:Kd.array n e=ij d):d=.array n e:=by cases d<;>simp[ij] at h;simp_all
theorem Ql{d:TypeDesc}{e:IntKind}(h:Kd.int e=ij d):d=.int e:=by cases d<;>simp[ij] at h;simp_all
theorem rV{d:TypeDesc}(h:Kd.string=ij d):d=.string:=by cases d<;>simp[ij] at h;rfl
theorem Zw{d:TypeDesc}(h:Kd.bool=ij d):d=.bool:=by cases d<;>simp[ij] at h;rfl
theorem Qm{d:TypeDesc}{e:TypeId}(h:Kd.ptr e=ij d):d=.pointer e:=by cases d<;>simp[ij] at h;simp_all
theorem acf{d:TypeDesc}{k e:TypeId}(h:Kd.map k e=ij d):d=.map k e:=by cases d<;>simp[ij] at h;simp_all
theorem Dh{d:TypeDesc}(h:Kd.struct=ij d):∃fs,d=.struct fs:=by cases d<;>simp[ij] at h;simp
theorem Zx{d:TypeDesc}(h:Kd.func=ij d):∃a b c,d=.func a b c:=by cases d<;>simp[ij] at h;simp
theorem dv{P:Program}{Ty:TypeId->Option dp}(h:dY P Ty){t:TypeId}{k:Kd}(hk:ai Ty t=k)(hne:k≠.other):∃d,P.underlying t=some d/\k=ij d:=by
 obtain⟨i,hi,u⟩:=Qk hk hne;obtain⟨J,d,ha⟩:=rU h hi;exact⟨d,ha.und,by rw[<-u,ha.kd]⟩
section
variable{P:Program}{w:ahs}
theorem bm{t:TypeId}{d:TypeDesc}(h:P.underlying t=some d):(underlying t).run P w=.ok d w:=by simp[underlying,h]
theorem Nv{t:TypeId}{i:TypeInfo}(h:P.info? t=some i):(typeInfo t).run P w=.ok i w:=by simp[typeInfo,h]
theorem cR{t:TypeId}{i:TypeInfo}(h:P.info? t=some i):(sizeOf t).run P w=.ok i.size w:=by simp[sizeOf,typeInfo,h]
theorem mF{t:TypeId}{i:TypeInfo}{z:Value}(h:P.info? t=some i)(hz:i.zero=some z):(zeroValue t).run P w=.ok z w:=by simp_all[zeroValue,typeInfo]
theorem lW{t:TypeId}{d:TypeDesc}(h:P.underlying t=some d):(isAgg t).run P w=.ok (ij d).isAgg w:=by
 simp only[isAgg,Sem.run_bind,bm h,Result.andThen_ok];cases d<;>simp[ij,Kd.isAgg]
theorem yh{Ty:TypeId->Option dp}(h:dY P Ty){t:TypeId}{s:Nat}(hs:J9 Ty t=some s):∃info,P.info? t=some info/\info.size=s:=by
 unfold J9 at hs
 split at hs
 ·rename_i i hi;obtain⟨info,d,ha⟩:=rU h hi;cases hs;exact⟨info,ha.inf,ha.size.symm⟩
 simp_all
theorem EP:∀(n i:Nat)(a:Addr)(vs:List Value),rowAt w a i n=some vs->vs.length=n/\∀j v,vs[j]? =some v->w.cell? (a.add (i+j))=some v
 |0,i,a,vs,h=>by simp_all[rowAt]
 |n+1,i,a,vs,h=>by
  unfold rowAt at h
  split at h
  ·rename_i v us hv hus
   cases h
   obtain⟨h1,h2⟩:=EP n (i+1) a us hus
   grind
  simp_all
def qh(w:ahs)(a:Addr)(i:dp)(v:Value):Prop:=
 match i.kd.isAgg with
 |true=>∃vs,rowAt w a 0 i.size=some vs/\v=.agg ⟨vs⟩
 |false=>w.cell? a=some v
theorem Kf{Ty:TypeId->Option dp}(h:dY P Ty){t:TypeId}{i:dp}(hi:Ty t=some i){a:Addr}{v:Value}(hl:qh w a i v):(loadVar t a).run P w=.ok v w:=by
 obtain⟨u,d,ha⟩:=rU h hi;unfold qh at hl;simp only[loadVar,Sem.run_bind,lW ha.und,Result.andThen_ok,<-ha.kd];cases hk:i.kd.isAgg with
 |true=>
  rw[hk] at hl;obtain⟨vs,J,rfl⟩:=hl;obtain⟨O,V⟩:=EP _ _ _ _ J;have U:u.size=vs.length:=by rw[O,ha.size]
  have:=run_loadCells_list (P:=P) w a vs (λj v W=>by simp_all);simp[cR ha.inf,U,this]
 |false=>
  simp_all
theorem Nw{a:Addr}{i:dp}{k:Value->Prop}(h:ldv w a i k):∃v,qh w a i v/\k v:=by
 unfold ldv at h
 split at h
 ·simp_all
 ·split at h
  ·rename_i hk _;obtain⟨vs,_,J,u⟩:=GD h;exact⟨_,by unfold qh;simp_all,u⟩
  ·rename_i hk _;obtain⟨v,O,u⟩:=Cs.nQ h
   simp_all[qh]
  simp_all
theorem VO{C:ahs->Prop}{a:Addr}{i:dp}{k:Value->Prop}(h:ldC C a i k):∃v,(∀w,C w->qh w a i v)/\k v:=by
 unfold ldC at h
 split at h
 ·simp_all
 ·split at h
  ·rename_i hk _;obtain⟨vs,_,J,u⟩:=GD h;exact⟨_,λw U=>by unfold qh;simp_all,u⟩
  ·rename_i hk _;obtain⟨v,O,u⟩:=Cs.nQ h
   grind[qh]
  simp_all
end
section
variable{P:Program}{Ty:TypeId->Option dp}
theorem oD{wd:Bool}{k:IntKind}{z:Int}{K:Value->Prop}(h:Nl wd k z K):K (.int k (k.wrap z)):=by
 unfold Nl at h
 split at h
 ·split at h
  ·exact h
  ·rw[RX h.1];exact h.2
 ·exact h
theorem TX{wd:Bool}{op:BinOp}{k k':IntKind}{a b:Int}{t:TypeId}{K:Value->Prop}(hk:(Lm op||Nat.beq (kx k) (kx k'))=true)(h:VE wd op k a b K):
  ∃v,(∀w,(Go.binOp op t (.int k a) (.int k' b)).run P w=.ok v w)/\K v:=by
 have u:Lm op=false->k=k':=λJ=>VC (by simp_all);unfold VE at h;cases op<;>dsimp only at h
 case add=>refine⟨_,λw=>?_,oD h⟩;simp[Go.binOp,<-u rfl,Op.intArith]
 case sub=>refine⟨_,λw=>?_,oD h⟩;simp[Go.binOp,<-u rfl,Op.intArith]
 case mul=>refine⟨_,λw=>?_,oD h⟩;simp[Go.binOp,<-u rfl,Op.intArith]
 case quo=>refine⟨_,λw=>?_,oD h.2⟩;simp[Go.binOp,<-u rfl,Op.intDiv,show¬b=0 from h.1]
 case rem=>refine⟨_,λw=>?_,h.2⟩;simp[Go.binOp,<-u rfl,Op.intDiv,show¬b=0 from h.1]
 case and=>refine⟨_,λw=>?_,h⟩;simp[Go.binOp,<-u rfl,Op.intBits,oM]
 case or=>refine⟨_,λw=>?_,h⟩;simp[Go.binOp,<-u rfl,Op.intBits,oM]
 case xor=>refine⟨_,λw=>?_,h⟩;simp[Go.binOp,<-u rfl,Op.intBits,oM]
 case andNot=>refine⟨_,λw=>?_,h⟩;simp[Go.binOp,<-u rfl,Op.intBits,oM]
 case eql=>refine⟨_,λw=>?_,h⟩;simp[Go.binOp,<-u rfl,Op.intCmp]
 case neq=>refine⟨_,λw=>?_,h⟩;simp[Go.binOp,<-u rfl,Op.intCmp]
 case lss=>refine⟨_,λw=>?_,h⟩;simp[Go.binOp,<-u rfl,Op.intCmp]
 case leq=>refine⟨_,λw=>?_,h⟩;simp[Go.binOp,<-u rfl,Op.intCmp]
 case gtr=>refine⟨_,λw=>?_,h⟩;simp[Go.binOp,<-u rfl,Op.intCmp]
 case geq=>refine⟨_,λw=>?_,h⟩;simp[Go.binOp,<-u rfl,Op.intCmp]
 case shl=>refine⟨_,λw=>?_,h.2⟩;simp[Go.binOp,Op.shift,VD,Int.not_lt.2 h.1]
 case shr=>refine⟨_,λw=>?_,h.2⟩;simp[Go.binOp,Op.shift,aZ,Int.not_lt.2 h.1]
theorem TY{op:BinOp}{a b:ByteArray}{t:TypeId}{K:Value->Prop}(h:VF op a b K):
  ∃v,(∀w,(Go.binOp op t (.string a) (.string b)).run P w=.ok v w)/\K v:=by
 unfold VF at h;cases op<;>dsimp only at h<;>first|exact h.elim|skip
 case add=>
  refine⟨_,λw=>?_,h.2⟩
  simp_all[Go.binOp,Op.stringOp]
 all_goals simp_all[Go.binOp,Op.stringOp]
theorem GN{op:BinOp}{t:TypeId}{xo yo:Operand}{x y:Value}{w:ahs}(h:∀a b,¬(x=.agg a/\y=.agg b))(h2:¬(x=.nilIface/\y=.nilIface)):
  (eqGuard op t xo yo x y).run P w=.ok () w:=by simp_all[eqGuard]
theorem Bp{op:BinOp}{t:TypeId}{x y:Value}{r:Bool}{K:Value->Prop}(he:∀w,(Op.equal t x y).run P w=.ok r w)
  (hb:∀op,(op=.eql\/op=.neq)->Go.binOp op t x y=(match op with|.eql=>(do pure (.bool (<-Op.equal t x y)))|_=>(do pure (.bool (!(<-Op.equal t x y)))))) (h:eqB op r K):
  ∃v,(∀w,(Go.binOp op t x y).run P w=.ok v w)/\K v:=by
 unfold eqB at h;cases op<;>dsimp only at h<;>first|exact h.elim|skip
 case eql=>simp_all
 simp_all
theorem fi{c:Bool}{p:Prop}(h:bif c then p else False):c=true/\p:=by simp_all
theorem TZ(d:Nat){t:TypeId}(h:P.underlying t=some .bool)(a b:Bool)(w:ahs):(Op.equalIn (d+1) t (.bool a) (.bool b)).run P w=.ok (a==b) w:=by
 simp[Op.equalIn,bm h]
theorem Qn{t:TypeId}(h:P.underlying t=some .bool)(a b:Bool)(w:ahs):(Op.equal t (.bool a) (.bool b)).run P w=.ok (a==b) w:=TZ 9999 h a b w
theorem Lr(d:Nat){t e:TypeId}(h:P.underlying t=some (.pointer e))(a:ahr)(w:ahs):(Op.equalIn (d+1) t (.pointer a) (.pointer none)).run P w=.ok a.isNone w:=by
 cases a<;>simp[Op.equalIn,bm h]
theorem Jk{t e:TypeId}(h:P.underlying t=some (.pointer e))(a:ahr)(w:ahs):(Op.equal t (.pointer a) (.pointer none)).run P w=.ok a.isNone w:=Lr 9999 h a w
theorem GO(d:Nat){t e:TypeId}(h:P.underlying t=some (.slice e))(a:ahr)(l c l' c':Nat)(w:ahs):(Op.equalIn (d+1) t (.slice a l c) (.slice none l' c')).run P w=.ok a.isNone w:=by
 cases a<;>simp[Op.equalIn,bm h]
theorem Fg{t e:TypeId}(h:P.underlying t=some (.slice e))(a:ahr)(l c l' c':Nat)(w:ahs):(Op.equal t (.slice a l c) (.slice none l' c')).run P w=.ok a.isNone w:=GO 9999 h a l c l' c' w
theorem Lt(d:Nat){t k e:TypeId}(h:P.underlying t=some (.map k e))(a:Option Nat)(w:ahs):(Op.equalIn (d+1) t (.map a) (.map none)).run P w=.ok a.isNone w:=by
 cases a<;>simp[Op.equalIn,bm h]
theorem Jl{t k e:TypeId}(h:P.underlying t=some (.map k e))(a:Option Nat)(w:ahs):(Op.equal t (.map a) (.map none)).run P w=.ok a.isNone w:=Lt 9999 h a w
theorem Jm(d:Nat){t:TypeId}{a b:Array TypeId}{c:Bool}(h:P.underlying t=some (.func a b c))(f:Fn)(x y:Array Value)(w:ahs):(Op.equalIn (d+1) t (.func f x y) .nilFunc).run P w=.ok false w:=by
 simp[Op.equalIn,bm h]
theorem GP{t:TypeId}{a b:Array TypeId}{c:Bool}(h:P.underlying t=some (.func a b c))(f:Fn)(x y:Array Value)(w:ahs):(Op.equal t (.func f x y) .nilFunc).run P w=.ok false w:=Jm 9999 h f x y w
theorem lX{op:BinOp}{t:TypeId}{xo yo:Operand}{x y:Value}{K:Value->Prop}(h1:∀a b,¬(x=.agg a/\y=.agg b))(h2:¬(x=.nilIface/\y=.nilIface))
  (h:∃v,(∀w,(Go.binOp op t x y).run P w=.ok v w)/\K v):∃v,(∀w,(do eqGuard op t xo yo x y;Go.binOp op t x y:Sem Value).run P w=.ok v w)/\K v:=by simp_all[GN]
theorem Zy{op:BinOp}{t:Bool}{K:Value->Prop}(h:eqQ op t λq=>K (.bool q)):eqB op t K:=by simp_all[eqQ,eqB]
theorem VP(hT:dY P Ty){C:ahs->Prop}{rs:Sem Value->(Value->Prop)->Prop}(hrs:∀s k,rs s k->∃v,(∀w,C w->s.run P w=.ok v w)/\k v)
  {op:BinOp} {t:TypeId} {xo yo:Operand} {x y:Value} {K:Value->Prop} (h:ab7 Ty rs op t xo yo x y K):
  ∃v,(∀w,C w->(do eqGuard op t xo yo x y;Go.binOp op t x y:Sem Value).run P w=.ok v w)/\K v:=by
 have all:(∃v,(∀w,(do eqGuard op t xo yo x y;Go.binOp op t x y:Sem Value).run P w=.ok v w)/\K v)->∃v,(∀w,C w->(do eqGuard op t xo yo x y;Go.binOp op t x y:Sem Value).run P w=.ok v w)/\K v:=
  λ⟨v,a,b⟩=>⟨v,λw _=>a w,b⟩
 unfold ab7 at h
 split at h
 ·obtain⟨hc,h⟩:=fi h;exact all (lX σ σ (TX hc h))
 ·exact all (lX σ σ (TY h))
 ·split at h
  ·rename_i hk;obtain⟨d,J,u⟩:=dv hT hk σ;rw[Zw u] at J;exact all (lX σ σ (Bp (Qn J _ _) (λop O=>by rcases O with rfl|rfl<;>simp[Go.binOp]) h))
  simp_all
 ·unfold ab6 at h
  split at h
  ·obtain⟨hc,h⟩:=fi h;cases hk:ai Ty t<;>rw[hk] at hc<;>simp[abC] at hc;obtain⟨d,J,u⟩:=dv hT hk σ;rw[Qm u] at J;exact all (lX σ σ (Bp (Jk J _) (λop O=>by rcases O with rfl|rfl<;>simp[Go.binOp]) (Zy h)))
  ·obtain⟨v,V,b,rfl,U⟩:=hrs _ _ h;exact⟨_,V,U⟩
 ·obtain⟨hc,h⟩:=fi h;cases hk:ai Ty t<;>rw[hk] at hc<;>simp[RZ] at hc;obtain⟨d,J,u⟩:=dv hT hk σ;rw[fh u] at J;exact all (lX σ σ (Bp (Fg J _ _ _ _ _) (λop O=>by rcases O with rfl|rfl<;>simp[Go.binOp]) h))
 ·split at h
  ·rename_i hk;obtain⟨d,J,u⟩:=dv hT hk σ;obtain⟨_,_,_,W⟩:=Zx u;rw[W] at J;exact all (lX σ σ (Bp (GP J _ _ _) (λop O=>by rcases O with rfl|rfl<;>simp[Go.binOp]) h))
  simp_all
 ·obtain⟨hc,h⟩:=fi h;cases hk:ai Ty t<;>rw[hk] at hc<;>simp[abD] at hc;obtain⟨d,J,u⟩:=dv hT hk σ;rw[acf u] at J;exact all (lX σ σ (Bp (Jl J _) (λop O=>by rcases O with rfl|rfl<;>simp[Go.binOp]) h))
 ·obtain⟨v,V,b,rfl,U⟩:=hrs _ _ h;exact⟨_,V,U⟩
end
section
variable{P:Program}{Ty:TypeId->Option dp}
theorem dP(v:Value):cellsOf v=v.cells.toList:=by cases v<;>rfl
theorem Nx:∀(vs:List Value)(off k:Nat)(cs:List Value),
  (vs.zipIdx k).foldl (λ(a:Array Value)(x:Value×Nat)=>a.setIfInBounds (off+x.2) x.1) ⟨cs⟩=⟨setMany cs (off+k) vs⟩
 |[],_,_,_=>rfl
 |v::vs,off,k,cs=>by
  simp only[List.zipIdx_cons,List.foldl_cons]
  have:=Nx vs off (k+1) (Qd cs (off+k) v)
  simp_all[Nat.add_assoc,setMany,RY]
theorem fill_eq{pl:Nat->Option (Nat×Nat)}:∀(ps:List (Nat×Value))(cs out:List Value),Bm pl cs ps=some out->Instr.fill pl ⟨cs⟩ ps=some ⟨out⟩
 |[],cs,out,h=>by simp[Bm] at h;subst h;rfl
 |(i,v)::ps,cs,out,h=>by
  unfold Bm at h
  unfold Instr.fill
  cases hp:pl i with
  |none=>simp_all
  |some os=>
   obtain⟨off,size⟩:=os
   rw[hp] at h
   simp only[Bool.cond_eq_ite] at h
   split at h
   ·rename_i hc
    simp only[afX] at hc
    have h1:=wo _ _ hc.1
    have h2:=Vy _ _ hc.2
    rw[dP] at h1
    have h1':v.cells.size=size:=ω
    have h2':off+v.cells.size<=cs.length:=ω
    have ih:=fill_eq ps _ out h
    simp only[h1',ne_eq,not_true_eq_false,List.size_toArray,decide_false,Bool.false_or]
    rw[afV (by simp_all)]
    rw[<-ih]
    congr 1
    have:=Nx v.cells.toList off 0 cs
    rw[dP,show off=off+0 from rfl,<-this]
    grind[Array.toList_zipIdx]
   simp_all
theorem Ny(fr:Fr):∀l,EM fr l=l.map λ(i,x)=>(i,ev fr x)
 |[]=>rfl
 |(i,x)::l=>by simp[EM,Ny fr l]
theorem Di{o:Option (List Value)}{k:List Value->Prop}(h:VG o k):∃l,o=some l/\k l:=by
 unfold VG at h;grind
theorem Bq{a:ahr}{k:Addr->Prop}(h:nn a k):∃x,a=some x/\k x:=by
 unfold nn at h;grind
theorem parts_eq(fr:Fr)(ps:Array (Nat×Operand)):(ps.map λ(i,x)=>(i,ev fr x)).toList=EM fr ps.toList:=by simp[Ny]
theorem Kg{α β:Type}(f:α->Sem β)(g:α->β)(w:ahs):∀(l:List α),(∀x∈l,(f x).run P w=.ok (g x) w)->(l.mapM f).run P w=.ok (l.map g) w
 |[],_=>σ
 |x::l,h=>by
  simp only[List.mapM_cons,Sem.run_bind,h x σ,Result.andThen_ok,Kg f g w l (λy hy=>h y (by grind)),Sem.run_pure,agv]
theorem VQ{α β:Type}(f:α->Sem β)(g:α->β)(w:ahs)(a:Array α)(h:∀x∈a.toList,(f x).run P w=.ok (g x) w):(a.mapM f).run P w=.ok (a.map g) w:=by
 rw[Array.mapM_eq_mapM_toList];simp only[Sem.run_map,Kg f g w a.toList h,Result.andThen_ok];congr 1
 grind
theorem run_places(fs:Array Go.Field)(w:ahs)(hsz:∀f∈fs.toList,∃i,P.info? f.type=some i):
  (fs.mapM λf=>do pure (f.offset,<-sizeOf f.type):Sem (Array (Nat×Nat))).run P w=.ok (fs.map λf=>(f.offset,P.cellsOf f.type)) w:=by
 refine VQ _ _ w fs λf hf=>?_;obtain⟨i,hi⟩:=hsz f hf
 simp_all[cR,Program.cellsOf]
theorem wz{fs:Array Go.Field}(h:Da P (.struct fs)=true):∀f∈fs.toList,∃i,P.info? f.type=some i:=by
 intro f hf;simp only[Da,ag1] at h
 simp_all[ahh]
theorem GQ{fs:Array Go.Field}(h:Da P (.struct fs)=true):∀f∈fs.toList,∃i,P.underlying f.type=some i:=by
 intro f hf;simp only[Da,ag1] at h
 simp_all[ahh]
theorem Qo{p q:Nat->Option (Nat×Nat)}(h:∀i,p i=q i):∀(ps:List (Nat×Value))(cs:List Value),Bm p cs ps=Bm q cs ps:=by
 have:p=q:=funext h
 simp_all
theorem Nz(fs:Array Go.Field)(i:Nat):GH (Dg P (.struct fs)) i=(fs.map λf=>(f.offset,P.cellsOf f.type))[i]?:=by grind[GH,Dg]
theorem VR{fr:Fr}{x:Option Operand}{k:Option Int->Prop}(h:R3 fr x k):(x=none/\k none)\/∃y kk n,x=some y/\ev fr y=.int kk n/\k (some n):=by
 unfold R3 at h
 grind
theorem dJ{k:IntKind}{n:Int}{y:Nat}{c:BoundsCode}{w:ahs}(h:0<=n/\n<=y):(Instr.sliceBound (.int k n) y c).run P w=.ok n.toNat w:=by
 simp[Instr.sliceBound,asIntOf,h]
end
section
variable{P:Program}{Ty:TypeId->Option dp}
theorem iY{fr:Fr}{x:Operand}{k:Option Int->Prop}(h:R3 fr (some x) k):∃kk n,ev fr x=.int kk n/\k (some n):=by grind[VR]
theorem iZ{fr:Fr}{k:Option Int->Prop}(h:R3 fr none k):k none:=h
theorem Jn{t e:TypeId}{info:TypeInfo}(hu:P.underlying t=some (.slice e))(hin:P.info? e=some info){a:ahr}{len cap:Nat}{fr:Fr}{lo hi mx:Option Operand}{K:Value->Prop}
  (h:R3 fr lo λlo=>R3 fr hi λhi=>R3 fr mx λmx=>lV a len cap lo hi mx info.size λa l c=>K (.slice a l c)):
  ∃v,(∀w,(Instr.sliceAt t (.slice a len cap) (lo.map (ev fr)) (hi.map (ev fr)) (mx.map (ev fr))).run P w=.ok v w)/\K v:=by
 cases lo with
 |none=>
  have h:=iZ h;cases hi with
  |none=>
   have h:=iZ h;cases mx with
   |none=>
    have h:=iZ h;obtain⟨_,_,_,h⟩:=h;refine⟨_,λw=>?_,h⟩;simp[Instr.sliceAt,Instr.slice,Instr.sliceBounds,bm hu,cR hin,fE,bg]
   |some mx=>
    obtain⟨k3,m,U,h⟩:=iY h;obtain⟨J,_⟩:=h
    simp_all
  |some hi=>
   obtain⟨k2,u,O,h⟩:=iY h;cases mx with
   |none=>
    have h:=iZ h;obtain⟨_,J,_,h⟩:=h;have J:0<=u/\u<=(cap:Int):=by simp_all
    refine⟨_,λw=>?_,h⟩;simp[Instr.sliceAt,Instr.slice,Instr.sliceBounds,bm hu,cR hin,fE,bg,O,dJ J]
   |some mx=>
    obtain⟨k3,m,U,h⟩:=iY h;obtain⟨J,V,_,h⟩:=h;have J:0<=m/\m<=(cap:Int):=by simp_all
    have V:0<=u/\u<=m:=by simp_all
    refine⟨_,λw=>?_,h⟩;simp[Instr.sliceAt,Instr.slice,Instr.sliceBounds,bm hu,cR hin,fE,bg,O,U,dJ J,dJ (y:=m.toNat) (show 0<=u/\u<=(m.toNat:Nat) by omega)]
 |some lo=>
  obtain⟨Y,l,W,h⟩:=iY h;cases hi with
  |none=>
   have h:=iZ h;cases mx with
   |none=>
    have h:=iZ h;obtain⟨_,_,V,h⟩:=h;have V:0<=l/\l<=(len:Int):=by simp_all
    refine⟨_,λw=>?_,h⟩;simp[Instr.sliceAt,Instr.slice,Instr.sliceBounds,bm hu,cR hin,fE,bg,W,dJ V]
   |some mx=>
    obtain⟨k3,m,U,h⟩:=iY h;obtain⟨J,_⟩:=h
    simp_all
  |some hi=>
   obtain⟨k2,u,O,h⟩:=iY h;cases mx with
   |none=>
    have h:=iZ h;obtain⟨_,J,V,h⟩:=h;have J:0<=u/\u<=(cap:Int):=by simp_all
    have V:0<=l/\l<=u:=by simp_all
    refine⟨_,λw=>?_,h⟩;simp[Instr.sliceAt,Instr.slice,Instr.sliceBounds,bm hu,cR hin,fE,bg,W,O,dJ J,dJ (y:=u.toNat) (show 0<=l/\l<=(u.toNat:Nat) by omega)]
   |some mx=>
    obtain⟨k3,m,U,h⟩:=iY h;obtain⟨J,V,X,h⟩:=h;have J:0<=m/\m<=(cap:Int):=by simp_all
    have V:0<=u/\u<=m:=by simp_all
    have X:0<=l/\l<=u:=by simp_all
    refine⟨_,λw=>?_,h⟩;simp[Instr.sliceAt,Instr.slice,Instr.sliceBounds,bm hu,cR hin,fE,bg,W,O,U,dJ J,dJ (y:=m.toNat) (show 0<=u/\u<=(m.toNat:Nat) by omega),dJ (y:=u.toNat) (show 0<=l/\l<=(u.toNat:Nat) by omega)]
theorem Jo{t:TypeId}(hu:P.underlying t=some .string){s:ByteArray}{fr:Fr}{lo hi:Option Operand}{K:Value->Prop}
  (h:R3 fr lo λlo=>R3 fr hi λhi=>aej s lo hi λs=>K (.string s)):
  ∃v,(∀w,(Instr.sliceAt t (.string s) (lo.map (ev fr)) (hi.map (ev fr)) none).run P w=.ok v w)/\K v:=by
 cases lo with
 |none=>
  have h:=iZ h;cases hi with
  |none=>
   have h:=iZ h;obtain⟨_,_,h⟩:=h
   simp_all[Instr.sliceAt,Instr.slice,Instr.sliceBounds,bm]
  |some hi=>
   obtain⟨k2,u,J,h⟩:=iY h;obtain⟨U,_,h⟩:=h
   simp_all[Instr.sliceAt,Instr.slice,Instr.sliceBounds,bm,dJ]
 |some lo=>
  obtain⟨W,l,O,h⟩:=iY h;cases hi with
  |none=>
   have h:=iZ h;obtain⟨_,V,h⟩:=h
   simp_all[Instr.sliceAt,Instr.slice,Instr.sliceBounds,bm,dJ]
  |some hi=>
   obtain⟨k2,u,J,h⟩:=iY h;obtain⟨U,V,h⟩:=h;have U:0<=u/\u<=(s.size:Int):=by simp_all
   have V:0<=l/\l<=u:=by simp_all
   refine⟨_,λw=>?_,h⟩;simp[Instr.sliceAt,Instr.slice,Instr.sliceBounds,bm hu,O,J,dJ U,dJ (y:=u.toNat) (show 0<=l/\l<=(u.toNat:Nat) by omega)]
theorem wA(hT:dY P Ty){C:ahs->Prop}{ld:Addr->dp->(Value->Prop)->Prop}{rs:Sem Value->(Value->Prop)->Prop}
  (hld:∀ad i k,ld ad i k->∃v,(∀w,C w->qh w ad i v)/\k v) (hrs:∀s k,rs s k->∃v,(∀w,C w->s.run P w=.ok v w)/\k v)
  {o:Oper} {fr:Fr} {K:Value->Prop} (h:wu P Ty ld rs o fr K):∃v,(∀w,C w->(execOp (ev fr) o).run P w=.ok (.value v) w)/\K v:=by
 obtain⟨ba,op,b8,pos,b7,b6⟩:=o;unfold wu at h;cases op<;>dsimp only at h<;>first|exact h.elim|skip
 case move x=>exact⟨_,λw _=>rfl,h⟩
 case assign x=>exact⟨_,λw _=>rfl,h⟩
 case pick c a b=>
  split at h
  ·rename_i t ht;refine⟨_,λw _=>?_,h⟩;simp only[execOp,Sem.run_bind,ht,asBool,Sem.run_pure,Result.andThen_ok];cases t<;>simp
  ·exact h.elim
 case build t ps=>
  split at h
  ·rename_i i hi;obtain⟨Y,d,ha⟩:=rU hT hi
   split at h
   ·rename_i z hz hk;obtain⟨fs,rfl⟩:=Dh (hk▸ha.kd);obtain⟨cs,hc,hK⟩:=Di h;refine⟨_,λw _=>?_,hK⟩;rw[ha.flds,Qo (Nz fs)] at hc;have al:Y.zero=some z:=by rw[<-ha.zero,hz]
    have hf:=fill_eq _ _ _ hc;rw[dP] at hf;have hf:Instr.fill _ z.cells _=_:=hf;have b4:=run_places (P:=P) fs w (wz ha.ok);simp only[execOp,Instr.build,Sem.run_bind,mF ha.inf al,bm ha.und,Result.andThen_ok,b4,parts_eq];simp only[hf,Sem.run_pure,Result.andThen_ok]
   ·rename_i z n e hz hk;have he:=Nu (hk▸ha.kd);subst he
    split at h
    ·rename_i s hs;obtain⟨ie,Z,b3⟩:=yh hT hs;obtain⟨cs,hc,hK⟩:=Di h;refine⟨_,λw _=>?_,hK⟩;have al:Y.zero=some z:=by rw[<-ha.zero,hz]
     have hf:=fill_eq _ _ _ hc;rw[dP] at hf;have hf:Instr.fill _ z.cells _=_:=hf;simp only[execOp,Instr.build,Sem.run_bind,mF ha.inf al,bm ha.und,Result.andThen_ok,cR Z,b3,parts_eq];simp only[hf,Sem.run_pure,Result.andThen_ok]
    ·exact h.elim
   ·exact h.elim
  ·exact h.elim
 case load t x=>
  split at h
  ·rename_i a i hx hi;obtain⟨ad,rfl,h⟩:=Bq h;obtain⟨v,U,hK⟩:=hld _ _ _ h;refine⟨v,λw hw=>?_,hK⟩;simp[execOp,Instr.loadAt,hx,Instr.sureAddr,Kf hT hi (U w hw)]
  ·exact h.elim
 case nilCheck x=>
  split at h
  ·rename_i a hx;obtain⟨ad,rfl,h⟩:=Bq h;exact⟨_,λw _=>by simp[execOp,hx],h⟩
  ·rename_i hx;exact⟨_,λw _=>by simp[execOp,hx],h⟩
  ·rename_i hx;exact⟨_,λw _=>by simp[execOp,hx],h⟩
  ·rename_i hx;exact⟨_,λw _=>by simp[execOp,hx],h⟩
  ·exact h.elim
 case binOp op t x y yt=>
  obtain⟨v,U,hK⟩:=VP hT (rs:=rsN (R4 (ai Ty t)) rs) (λs k h=>by
   cases hb:R4 (ai Ty t) with
   |true=>rw[hb] at h;exact h.elim
   |false=>rw[hb] at h;exact hrs s k h) h
  refine⟨v,λw hw=>?_,hK⟩;have:=U w hw;simp only[execOp,Sem.run_bind] at this ⊢;rw[this];rfl
 case unOp op t x=>
  split at h
  ·rename_i hx;exact⟨_,λw _=>by simp[execOp,hx,Op.unary],h⟩
  ·rename_i hx;exact⟨_,λw _=>by simp[execOp,hx,Op.unary,Op.intArith],oD h⟩
  ·rename_i hx;exact⟨_,λw _=>by simp[execOp,hx,Op.unary,Op.intBits,oM],h⟩
  ·exact h.elim
 case convert s d x=>
  split at h
  ·rename_i k1 k2 k3 n W h2 hx;obtain⟨d1,J,O⟩:=dv hT W σ;obtain⟨d2,a7,a0⟩:=dv hT h2 σ;rw[Ql O] at J;rw[Ql a0] at a7;exact⟨_,λw _=>by simp[execOp,hx,Go.convert,bm J,bm a7,Conv.intToInt],oD h⟩
  ·rename_i s W h2 hx;obtain⟨d1,J,O⟩:=dv hT W σ;obtain⟨d2,a7,a0⟩:=dv hT h2 σ;rw[rV O] at J;rw[rV a0] at a7;exact⟨_,λw _=>by simp[execOp,hx,Go.convert,bm J,bm a7],h⟩
  ·exact h.elim
 case makeInterface t x=>
  split at h
  ·rename_i i hi;obtain⟨Y,d,ha⟩:=rU hT hi
   split at h
   ·exact h.elim
   ·rename_i hk;refine⟨_,λw _=>?_,h⟩;simp only[execOp,Instr.makeInterface,Sem.run_bind,bm ha.und,Result.andThen_ok];cases d<;>simp_all[ha.kd,ij]
  ·exact h.elim
 case makeFunc fn first cap=>
  refine⟨_,λw _=>?_,h⟩;have e:∀a:Array Operand,a.map (ev fr)=⟨a.toList.map (ev fr)⟩:=λa=>by apply ag0;simp
  simp[execOp,Instr.makeFunc,Db,e]
 case slice t x lo hi mx=>
  split at h
  ·rename_i e a len cap W hx;obtain⟨d1,J,O⟩:=dv hT W σ;rw[fh O] at J
   split at h
   ·rename_i sz X;obtain⟨ie,Z,rfl⟩:=yh hT X;obtain⟨v,U,hK⟩:=Jn J Z h;exact⟨v,λw _=>by simp[execOp,hx,U w],hK⟩
   ·exact h.elim
  ·rename_i s W hx;obtain⟨d1,J,O⟩:=dv hT W σ;rw[rV O] at J
   split at h
   ·obtain⟨v,U,hK⟩:=Jo J h;exact⟨v,λw _=>by simp[execOp,hx,U w],hK⟩
   ·exact h.elim
  ·exact h.elim
 case fieldAddr s x f=>
  split at h
  ·rename_i i a hi hx;obtain⟨Y,d,ha⟩:=rU hT hi
   split at h
   ·rename_i off sz g hk hf;obtain⟨fs,rfl⟩:=Dh (hk▸ha.kd);obtain⟨hc,h⟩:=fi h;obtain⟨ad,rfl,h⟩:=Bq h;refine⟨_,λw _=>?_,h⟩;rw[ha.flds] at hf;simp only[Dg,afQ,aha,Prod.mk.injEq] at hf;obtain⟨F,hF,rfl,X,_⟩:=hf;obtain⟨iF,a5⟩:=wz ha.ok F (afI hF)
    have b5:iF.size≠0:=by
     have:P.cellsOf F.type=iF.size:=by simp[Program.cellsOf,a5]
     rw[<-this,X];have:=Nat.le_of_ble_eq_true hc;omega
    have a4:fs[f]? =some F:=by simpa using hF
    simp[execOp,hx,Instr.fieldAt,bm ha.und,a4,Instr.sureAddr,fieldPlace,cR a5,b5,ab8]
   ·exact h.elim
  ·exact h.elim
 case field t x f=>
  split at h
  ·rename_i i hi;obtain⟨Y,d,ha⟩:=rU hT hi
   split at h
   ·rename_i hk;obtain⟨fs,rfl⟩:=Dh (hk▸ha.kd);unfold aek at h
    split at h
    ·rename_i cs off sz hx hf;rw[ha.flds] at hf;simp only[Dg,afQ,aha,Prod.mk.injEq] at hf;obtain⟨F,hF,rfl,rfl,am⟩:=hf;obtain⟨iF,a5⟩:=wz ha.ok F (afI hF);obtain⟨dF,a8⟩:=GQ ha.ok F (afI hF);have a4:fs[f]? =some F:=by simpa using hF
     have a6:(ij dF).isAgg=true:=by rw[a8] at am;cases dF<;>simp_all[ij,Kd.isAgg]
     have X:P.cellsOf F.type=iF.size:=by simp[Program.cellsOf,a5]
     refine⟨_,λw _=>?_,h⟩;simp only[execOp,hx,Instr.field,Sem.run_bind,bm ha.und,a4,asAgg,Sem.run_pure,Result.andThen_ok,part,lW a8,a6,if_true,cR a5,X];congr 3;apply ag0;simp[List.extract_eq_take_drop]
    ·rename_i cs off sz hx hf;rw[ha.flds] at hf;simp only[Dg,afQ,aha,Prod.mk.injEq] at hf;obtain⟨F,hF,rfl,rfl,am⟩:=hf;obtain⟨dF,a8⟩:=GQ ha.ok F (afI hF);have a4:fs[f]? =some F:=by simpa using hF
     have a6:(ij dF).isAgg=false:=by rw[a8] at am;cases dF<;>simp_all[ij,Kd.isAgg]
     split at h
     ·rename_i u hu;refine⟨_,λw _=>?_,h⟩;have aa:cs[F.offset]? =some u:=by simpa using hu
      simp[execOp,hx,Instr.field,bm ha.und,a4,asAgg,part,lW a8,a6,aa]
     ·exact h.elim
    ·exact h.elim
   ·exact h.elim
  ·exact h.elim
 case indexAddr t x ix=>
  split at h
  ·rename_i e a len cap kk n W hx hix;obtain⟨d1,J,O⟩:=dv hT W σ;rw[fh O] at J
   split at h
   ·rename_i sz X;obtain⟨ie,Z,rfl⟩:=yh hT X;obtain⟨ad,rfl,W,h2,h⟩:=h;refine⟨_,λw _=>?_,h⟩;simp[execOp,hx,hix,Instr.indexAt,asIntOf,bm J,cR Z,W,h2,bg]
   ·exact h.elim
  ·rename_i m e a kk n W hx hix;obtain⟨d1,J,O⟩:=dv hT W σ;rw[Nu O] at J
   split at h
   ·rename_i sz X;obtain⟨ie,Z,rfl⟩:=yh hT X;obtain⟨ad,rfl,W,h2,h⟩:=h;refine⟨_,λw _=>?_,h⟩;simp[execOp,hx,hix,Instr.indexAt,asIntOf,bm J,cR Z,W,h2,bg,Instr.sureAddr]
   ·exact h.elim
  ·exact h.elim
 case index t x ix=>
  split at h
  ·rename_i s kk n W hx hix;obtain⟨d1,J,O⟩:=dv hT W σ;rw[rV O] at J;obtain⟨⟨W,h2⟩,h⟩:=h;refine⟨_,λw _=>?_,h⟩;have av:n.toNat<s.size:=ω
   have b1:n.toNat<s.data.size:=av
   have e:s[n.toNat]? =some (sb s n.toNat):=by
    rw[getElem?_pos s n.toNat av];simp only[sb,b1,Array.getElem?_eq_getElem,Option.getD_some];rfl
   simp[execOp,hx,hix,Instr.index,asIntOf,bm J,W,e]
  ·obtain⟨v,U,hK⟩:=hrs _ _ h;exact⟨v,λw hw=>by simp only[execOp,Sem.run_bind,U w hw];rfl,Sh.e_ hK⟩
 case extract t i=>
  unfold abF at h
  split at h
  ·rename_i vs hx
   split at h
   ·rename_i u hu;refine⟨u,λw _=>?_,h⟩;have aa:vs[i]? =some u:=by simpa using hu
    simp[execOp,hx,Instr.extract,aa]
   ·exact h.elim
  ·exact h.elim
 case call c=>
  obtain⟨b2,a9,V⟩:=c;have ha:a9.map (ev fr)=⟨nj fr a9.toList⟩:=by rw[Db];apply ag0;simp
  split at h
  ·rename_i a l cap hc U;dsimp only at hc U;subst hc
   split at h
   ·rename_i t ts hts;obtain⟨hk,h⟩:=fi h;cases hkk:ai Ty t<;>rw[hkk] at hk<;>simp[RZ] at hk;obtain⟨d1,J,O⟩:=dv hT hkk σ;rw[fh O] at J;refine⟨_,λw _=>?_,h⟩;have ht:V[0]? =some t:=by rw[<-ag7,hts];rfl
    simp[execOp,resolve,invoke,builtin,Builtin.len_,ha,U,ht,bm J,goInt]
   ·exact h.elim
  ·rename_i s hc U;dsimp only at hc U;subst hc
   split at h
   ·rename_i t ts hts
    split at h
    ·rename_i hkk;obtain⟨d1,J,O⟩:=dv hT hkk σ;rw[rV O] at J;refine⟨_,λw _=>?_,h⟩;have ht:V[0]? =some t:=by rw[<-ag7,hts];rfl
     simp[execOp,resolve,invoke,builtin,Builtin.len_,ha,U,ht,bm J,goInt]
    ·exact h.elim
   ·exact h.elim
  ·rename_i hc _ _;dsimp only at hc;subst hc;obtain⟨v,U,hK⟩:=hrs _ _ h;refine⟨v,λw hw=>?_,Sh.e_ hK⟩;have:=U w hw;simp only[execOp,resolve,invoke,builtin,Sem.run_bind,Sem.run_pure,Result.andThen_ok,ha,this]
  ·rename_i k a k' b hc U;dsimp only at hc U;subst hc;refine⟨_,λw _=>?_,h⟩;simp[execOp,resolve,invoke,builtin,Builtin.min_,ha,U,Builtin.min2]
  ·rename_i k a k' b hc U;dsimp only at hc U;subst hc;refine⟨_,λw _=>?_,h⟩;simp[execOp,resolve,invoke,builtin,Builtin.max_,ha,U,Builtin.max2]
  ·exact h.elim
end
def rX(P:Program)(Fn:FuncId->Bool):Prop:=∀g,Fn g=true->∃fn,P.funcs[g]? =some fn/\fn.body.isNone=false/\(fn.name=="runtime.NumGoroutine")=false
def VS(P:Program)(g:FuncId):Bool:=match P.funcs[g]? with|some fn=> !fn.body.isNone&& !(fn.name=="runtime.NumGoroutine")|none=>false
def R_(P:Program)(lo:Nat):Nat->Bool
 |0=>true
 |n+1=>VS P (lo+n)&&R_ P lo n
theorem NA{P:Program}{lo:Nat}:∀{n:Nat},R_ P lo n=true->∀g,lo<=g->g<lo+n->VS P g=true
 |0,_,g,h1,h2=>ω
 |n+1,h,g,h1,h2=>by
  simp only[R_,afX] at h
  by_cases hg:g=lo+n
  ·simp_all
  ·exact NA h.2 g h1 ω
theorem Br{P:Program}{lo hi:Nat}(h:R_ P lo (hi+1-lo)=true):rX P λg=>Nat.ble lo g&&Nat.ble g hi:=by
 intro g u;simp only[afX,Nat.ble_eq] at u;have:=NA h g u.1 ω;unfold VS at this
 grind
section
variable{P:Program}{Ty:TypeId->Option dp}{Fn:FuncId->Bool}{E:ahs->ahs->Prop}
theorem ik{o:Oper}{ρ:Operand->Value}{w w':ahs}{K:Value->ahs->Prop}{v:Value}(h:(execOp ρ o).run P w=.ok (.value v) w')(hE:E w w')(hK:K v w'):Df P E o ρ w K:=by simp_all[Df]
theorem NB{o:Oper}{ρ:Operand->Value}{w w':ahs}{K:Value->ahs->Prop}(h:(execOp ρ o).run P w=.ok .skip w')(hE:E w w')(hK:K undef w'):Df P E o ρ w K:=by simp_all[Df]
theorem Ev.du(w0:ahs):∀(vs:List Value)(w:ahs)(a:Addr)(i:Nat),Ev w0 w->Ev w0 (du w a i vs)
 |[],_,_,_,h=>h
 |v::vs,w,a,i,h=>Ev.du w0 vs _ a (i+1) (h.trans (Ev.setCell _ _ _))
theorem Lu(v:Value):aK v=v.oneCell':=by rfl
theorem Bt{w:ahs}{a b:Addr}{v u:Value}(h:w.cell? b=some u):∃u',(w.setCell a v).cell? b=some u':=by
 unfold World.cell? World.setCell at*
 grind
theorem rY{w:ahs}{b:Addr}{x:Value}(a:Addr):∀(vs:List Value)(i:Nat),mE w a i vs->mE (w.setCell b x) a i vs
 |[],_,_=>trivial
 |v::vs,i,⟨h1,⟨u,h2⟩,h3,h4⟩=>⟨h1,Bt h2,by simp_all,rY a vs (i+1) h4⟩
theorem kH(a:Addr):∀(vs:List Value)(w:ahs)(i:Nat),mE w a i vs->(storeCells a vs i).run P w=.ok () (du w a i vs)
 |[],w,i,_=>by rfl
 |v::vs,w,i,⟨h1,⟨u,h2⟩,h3,h4⟩=>by
  have ih:=kH a vs (w.setCell (a.add i) v) (i+1) (rY a vs (i+1) h4)
  simp_all[run_store,Lu,storeCells,Sem.run_bind,du]
theorem add_zero'(a:Addr):a.add 0=a:=by rfl
theorem Zz(hT:dY P Ty){t:TypeId}{i:dp}(hi:Ty t=some i){w:ahs}{ad:Addr}{v:Value}{k:ahs->Prop}(h:stv w ad i v k):
  ∃w',(storeVar t ad v).run P w=.ok () w'/\Ev w w'/\k w':=by
 obtain⟨O,d,ha⟩:=rU hT hi;unfold stv at h;cases hk:i.kd.isAgg with
 |true=>
  rw[hk] at h;cases v<;>dsimp only at h<;>first|exact h.elim|skip
  rename_i cs;obtain⟨hc,W,V⟩:=fi h;have hl:=wo _ _ hc;refine⟨_,?_,Ev.du w _ _ _ _ (Ev.refl _),V _ rfl⟩;have U:cs.size=O.size:=by rw[<-ha.size,<-hl];simp
  simp[storeVar,cR ha.inf,Value.cells,U,kH _ _ _ _ W]
 |false=>
  rw[hk] at h;have h':bif Nat.beq i.size 1 then st1 w ad v k else False:=ω
  obtain⟨hc,⟨u,W⟩,V,X,Y⟩:=fi h';have U:O.size=1:=by rw[<-ha.size];simp_all
  refine⟨_,?_,Ev.setCell _ _ _,Y _ rfl⟩;have J:v.cells=#[v]:=by cases v<;>first|rfl|cases X
  have:=kH (P:=P) ad [v] w 0 ⟨X,⟨u,by simp_all[add_zero']⟩,by simp_all[add_zero'],trivial⟩;simp only[du,add_zero'] at this;simp[storeVar,cR ha.inf,J,U,this]
theorem GR(z:List Value):∀n,((Array.range (n*z.length)).map λk=>(⟨z⟩:Array Value)[k%z.length]!)=⟨(List.replicate n z).flatten⟩:=by
 intro n;apply ag0;simp only[Array.toList_map,Array.toList_range]
 induction n with
 |zero=>simp
 |succ n ih=>
  rw[ahi,List.range_add,af8,List.replicate_succ',List.flatten_append,ih];congr 1;simp only[List.map_map,List.flatten_cons,List.flatten_nil,agc]
  apply List.ext_getElem
  ·simp
  simp_all[Nat.mod_eq_of_lt]
theorem Sa(z:List Value):∀n,iX n z=(List.replicate n z).flatten
 |0=>rfl
 |n+1=>by simp[iX,Sa z n,agW]
theorem NC(z:List Value):∀n,J_ n z=(List.replicate n z).flatten
 |0=>rfl
 |n+1=>by simp[J_,F9,NC z n,agW]
theorem dQ(hE:∀a b,Ev a b->E a b){o:Oper}{ρ:Operand->Value}{w:ahs}{K:Value->ahs->Prop}{s:Sem Value}(he:execOp ρ o=(do pure (.value (<-s)))){R:Value->ahs->Prop}(h:aX P s w R)(hR:∀v w',R v w'->K v w'):Df P E o ρ w K:=by
 obtain⟨v,w',O,u,J⟩:=h;refine ik (v:=v) (w':=w') ?_ (hE _ _ u) (hR _ _ J)
 simp_all
theorem GS(hE:∀a b,Ev a b->E a b){o:Oper}{ρ:Operand->Value}{w:ahs}{K:Value->ahs->Prop}{s:Sem Unit}(he:execOp ρ o=(do s;pure .skip)){R:Unit->ahs->Prop}(h:aX P s w R)(hR:∀v w',R v w'->K undef w'):Df P E o ρ w K:=by
 obtain⟨v,w',O,u,J⟩:=h;refine NB (w':=w') ?_ (hE _ _ u) (hR _ _ J)
 simp_all
theorem T0{v:Value}{sh:Sh}{k:Value->Prop}(h:ab9 v sh k):k v:=by
 unfold ab9 at h
 split at h
 ·obtain⟨n,u,rfl,h⟩:=h;exact h
 ·obtain⟨us,rfl,J⟩:=Bl h;exact J
 ·exact h.elim
theorem Qp{v:Value}{sh:Sh}{k:Value->Prop}(h:abG v sh k):k v:=by
 rcases h with⟨rfl,h⟩|h
 ·exact h
 ·split at h
  ·obtain⟨us,O,J⟩:=Bl h;rw[O];exact J
  ·obtain⟨n,u,O,J⟩:=h;rw[O];exact J
  ·exact h.elim
theorem tU(hF:rX P Fn){g:FuncId}(hg:Fn g=true)(args:Array Value)(w:ahs):(callFunc g args).run P w=.ok (.enter g args) w:=by
 obtain⟨fn,U,O,V⟩:=hF g hg;have u:fn.name≠"runtime.NumGoroutine":=by simp_all
 have J:fn.body≠none:=λe=>by simp_all
 simp_all[callFunc]
theorem Qq(hF:rX P Fn)(hE:∀a b,Ev a b->E a b){o:Oper}{fr:Fr}{w:ahs}{K:Value->ahs->Prop}{f:Operand}{args:Array Operand}{tys:Array TypeId}{sh:Sh}
  (ho:o.op=.call { callee:=.value f,args:=args,argTypes:=tys }) {d:Bool} (h:VH P Fn E (ev fr f) (nj fr args.toList) sh w K d):Df P E o (ev fr) w K:=by
 obtain⟨dst,op,type,pos,after,guard⟩:=o;dsimp only at ho;subst ho;have ha:args.map (ev fr)=⟨nj fr args.toList⟩:=by grind[Db,Array.ext']
 unfold VH at h
 split at h
 ·rename_i g first cap hv
  unfold orX at h;cases hg:Fn g with
  |false=>
   rw[hg] at h;cases d with
   |false=>exact h.elim
   |true=>
   obtain⟨v,w',X,V,W⟩:=h;refine ik (v:=v) (w':=w') ?_ (hE _ _ V) (Sh.e_ W);have Z:first++(⟨nj fr args.toList⟩:Array Value)++cap=⟨Fe first.toList (nj fr args.toList) cap.toList⟩:=by simp[Ln]
   grind[execOp,resolve,Deferred.ofValue,invoke,Sem.run_bind,Sem.run_pure,Result.andThen_ok]
  |true=>
  rw[hg] at h;have h:=(by cases d<;>exact h:iK P E g (Fe first.toList (nj fr args.toList) cap.toList) w λv w'=>sh.is v λu=>K u w')
  have Y:(execOp (ev fr) { dst:=dst,op:=.call { callee:=.value f,args:=args,argTypes:=tys },type:=type,pos:=pos,after:=after,guard:=guard }).run P w
    =.ok (.enter g ⟨Fe first.toList (nj fr args.toList) cap.toList⟩) w:=by
   have Z:first++(⟨nj fr args.toList⟩:Array Value)++cap=⟨Fe first.toList (nj fr args.toList) cap.toList⟩:=by simp[Ln]
   grind[execOp,resolve,Deferred.ofValue,invoke,Sem.run_bind,Sem.run_pure,Result.andThen_ok,tU]
  unfold Df;rw[Y];refine⟨hE _ _ (Ev.refl _),?_⟩;exact Calls.mono h λe w' ⟨v,X,V,W⟩=>⟨v,X,V,Sh.e_ W⟩
 ·rename_i l first cap hv
  obtain⟨f',O,J,U,hy,hr⟩:=h
  have Y:(execOp (ev fr) { dst:=dst,op:=.call { callee:=.value f,args:=args,argTypes:=tys },type:=type,pos:=pos,after:=after,guard:=guard }).run P w
    =.ok (.round l f' O J U) w:=by
   have Z:first++(⟨nj fr args.toList⟩:Array Value)=⟨Nn first.toList (nj fr args.toList)⟩:=by simp[F9]
   grind[execOp,resolve,Deferred.ofValue,invoke,Sem.run_bind,Sem.run_pure,Result.andThen_ok]
  grind[Df,Ev.refl,RoundIn.mono,Sh.e_]
 simp_all
theorem Kh(hT:dY P Ty)(hF:rX P Fn)(hE:∀a b,Ev a b->E a b){o:Oper}{fr:Fr}{w:ahs}{K:Value->ahs->Prop}(h:VI P Ty Fn E o fr w K):Df P E o (ev fr) w K:=by
 have h0:=h;obtain⟨dst,op,type,pos,after,guard⟩:=o;unfold VI at h;cases op<;>dsimp only at h<;>first|exact h.elim|skip
 case alloc t=>
  split at h
  ·rename_i i hi;obtain⟨J,d,ha⟩:=rU hT hi
   split at h
   ·rename_i z hz;have W:J.zero=some z:=by rw[<-ha.zero,hz]
    refine ik (w':={ w with heap:=w.heap.push (.cells ⟨cellsOf z⟩ t) }) ?_ (hE _ _ (Ev.push _ _)) (h _ _ rfl rfl);have e:z.cells=⟨cellsOf z⟩:=by rw[dP]
    simp[execOp,Instr.alloc,mF ha.inf W,newVar,newRow,e]
   ·exact h.elim
  ·exact h.elim
 case box t x=>
  refine ik (w':={ w with heap:=w.heap.push (.cells ⟨cellsOf (ev fr x)⟩ t) }) ?_ (hE _ _ (Ev.push _ _)) (h _ _ rfl rfl);have e:(ev fr x).cells=⟨cellsOf (ev fr x)⟩:=by rw[dP]
  simp[execOp,Instr.box,newVar,newRow,e]
 case buildSlice t n ps=>
  split at h
  ·rename_i e hk;obtain⟨d1,O,Z⟩:=dv hT hk σ;rw[fh Z] at O
   split at h
   ·rename_i i hi;obtain⟨J,d,ha⟩:=rU hT hi
    split at h
    ·rename_i z hz;have W:J.zero=some z:=by rw[<-ha.zero,hz]
     obtain⟨hc,h⟩:=fi h;simp only[afX,Nat.ble_eq] at hc;obtain⟨⟨hl,a5,am⟩,hs⟩:=hc;have hl:=wo _ _ hl;obtain⟨cs,av,h⟩:=Di h;refine ik (w':={ w with heap:=w.heap.push (.cells ⟨cs⟩ e) }) ?_ (hE _ _ (Ev.push _ _)) (h _ _ rfl rfl);have hf:=fill_eq _ _ _ av;have a4:z.cells=⟨cellsOf z⟩:=by rw[dP]
     have U:J.size=(cellsOf z).length:=by rw[hl,ha.size]
     have b3:n*J.size<=16777216:=by
      have:n*J.size<=4096*4096:=Nat.mul_le_mul a5 (by rw[<-ha.size];exact am);omega
     have a0:∀hh:n*J.size=0,n=0:=λhh=>by
      rcases Nat.mul_eq_zero.1 hh with h|h
      ·exact h
      ·rw[<-ha.size] at h;omega
     simp only[execOp,Instr.buildSlice,Sem.run_bind,bm O,cR ha.inf,Result.andThen_ok,parts_eq];rw[afV ω];have aa:(λk=>some (k*i.size,i.size))=(λk=>some (k*J.size,J.size)):=by rw[ha.size]
     rw[aa] at hf
     by_cases V:n*J.size=0
     ·have:=a0 V;subst this
      have a7:Instr.fill (λi=>some (i*J.size,J.size)) ((Array.range 0).map λ_=>default) (EM fr ps.toList)=some ⟨cs⟩:=by
       rw[show((Array.range 0).map λ_=>(default:Value))=(⟨J_ 0 (cellsOf z)⟩:Array Value) from by simp[J_]];exact hf
      simp[a7,newRow]
     ·simp only[V,if_false,Sem.run_bind,mF ha.inf W,Result.andThen_ok,Sem.run_pure,a4];have Y:=GR (cellsOf z) n;rw[<-U] at Y;have:(⟨cellsOf z⟩:Array Value).size=J.size:=by simp[U]
      rw[this,Y,<-NC,hf];simp[newRow]
    ·exact h.elim
   ·exact h.elim
  ·exact h.elim
 case store t a x=>
  split at h
  ·rename_i p i ha hi;obtain⟨ad,rfl,h⟩:=Bq h;obtain⟨w',hr,a8,hK⟩:=Zz hT hi h;refine NB (w':=w') ?_ (hE _ _ a8) hK;simp[execOp,Instr.storeAt,ha,Instr.sureAddr,hr]
  ·exact h.elim
 case convert s d x=>exact dQ hE rfl h λv w' h=>Sh.e_ h
 case makeMap t r=>
  cases r with
  |some r=>exact h.elim
  |none=>
   refine ik (w':={ w with heap:=w.heap.push (.map #[] 0) }) ?_ (hE _ _ (Ev.push _ _)) (h _ _ rfl rfl);simp[execOp,Instr.makeMap]
 case makeSlice t l c=>
  split at h
  ·rename_i e hk;obtain⟨d1,O,Z⟩:=dv hT hk σ;rw[fh Z] at O
   split at h
   ·rename_i i k1 n1 k2 n2 hi hl hc;obtain⟨J,d,ha⟩:=rU hT hi;obtain⟨hb,h⟩:=fi h;unfold abE at h
    split at h
    ·rename_i z hz;rw[hz] at hb;simp only[afX,Nat.ble_eq] at hb;obtain⟨⟨X,b2⟩,hs⟩:=hb;have X:=wo _ _ X;obtain⟨⟨h1,rfl,h3⟩,hK⟩:=h;have W:J.zero=some z:=by rw[<-ha.zero,hz]
     have a4:z.cells=⟨cellsOf z⟩:=by rw[dP]
     have U:J.size=(cellsOf z).length:=by rw[X,ha.size]
     refine ik (w':={ w with heap:=w.heap.push (.cells ⟨iX n1.toNat (cellsOf z)⟩ e) }) ?_ (hE _ _ (Ev.push _ _)) (hK _ _ rfl rfl);have a6:(1:Int)<=i.bytes:=ω
     have a5:n1<=140737488355328:=Int.le_trans (by have:=Int.mul_le_mul_of_nonneg_right a6 h1;omega) h3;have hw:IntKind.i64.wrap n1=n1:=RX ⟨ω,ω⟩;have b4:(J.bytes:Int)*n1<=140737488355328:=by rw[<-ha.bytes];exact h3
     have hA:¬n1<0:=ω
     have hB:¬(281474976710656:Int)<J.bytes*n1:=ω
     have Y:=GR (cellsOf z) n1.toNat;rw[<-U] at Y;have b1:(⟨cellsOf z⟩:Array Value).size=J.size:=by simp[U]
     have a0:n1.toNat*J.size=0->n1.toNat=0:=λhh=>by
      rcases Nat.mul_eq_zero.1 hh with h|h
      ·exact h
      ·rw[<-ha.size] at h;omega
     have e0:∀f:Nat->Value,(Array.range 0).map f=#[]:=λ_=>σ
     have al:Array.map (λx=>(cellsOf z)[x%(cellsOf z).length]?.getD default) (Array.range (n1.toNat*J.size))=⟨(List.replicate n1.toNat (cellsOf z)).flatten⟩:=by
      rw[<-Y,U];congr 1;funext k;simp
     by_cases V:n1.toNat*J.size=0
     ·have a9:=a0 V;simp[execOp,Instr.makeSlice,bm O,hl,hc,asInt,asIntOf,Nv ha.inf,cR ha.inf,hw,hA,hB,a9,iX,newRow,e0]
     ·simp[execOp,Instr.makeSlice,bm O,hl,hc,asInt,asIntOf,Nv ha.inf,cR ha.inf,hw,hA,hB,newRow,V,mF ha.inf W,a4,Sa];rw[al]
    ·exact h.elim
   ·exact h.elim
  ·exact h.elim
 case lookup t m k ok=>exact dQ hE rfl h λv w' h=>Sh.e_ h
 case mapUpdate t m k x=>exact GS hE rfl h λv w' h=>h
 case insert t m k x=>exact GS hE rfl h λv w' h=>h
 case mapEntry t m k=>exact dQ hE rfl h λv w' h=>Sh.e_ h
 case entryStore t m s x=>exact GS hE rfl h λv w' h=>h
 case range t x=>exact dQ hE rfl h λv w' h=>Sh.e_ h
 case next it isS=>exact dQ hE rfl h λv w' h=>Qp h
 case entry it=>exact dQ hE rfl h λv w' h=>T0 h
 case typeAssert x t u ok=>exact dQ hE rfl h λv w' h=>Sh.e_ h
 case call c=>
  obtain⟨callee,args,argTypes⟩:=c;have ha:args.map (ev fr)=⟨nj fr args.toList⟩:=by rw[Db];apply ag0;simp
  cases callee with
  |value f=>exact Qq hF hE rfl h
  |invoke r m=>
   obtain⟨g,as,h1,h2⟩:=h
   have he:(execOp (ev fr) { dst:=dst,op:=.call { callee:=.invoke r m,args:=args,argTypes:=argTypes },type:=type,pos:=pos,after:=after,guard:=guard }).run P w=.ok (.enter g ⟨as⟩) w:=by
    have e2:(#[ev fr r]++(⟨nj fr args.toList⟩:Array Value))[0]? =some (ev fr r):=σ
    have e3:(#[ev fr r]++(⟨nj fr args.toList⟩:Array Value)).extract 1 (#[ev fr r]++(⟨nj fr args.toList⟩:Array Value)).size=⟨nj fr args.toList⟩:=by
     apply ag0;simp
    simp only[execOp,resolve,ha,invoke,Sem.run_bind,Sem.run_pure,Result.andThen_ok,e2,e3,h1]
   unfold Df;rw[he];refine⟨hE _ _ (Ev.refl _),?_⟩;exact Calls.mono h2 λe w' ⟨v,h1,h2,h3⟩=>⟨v,h1,h2,Sh.e_ h3⟩
  |builtin b=>
   dsimp only at h;unfold biV at h;cases b<;>dsimp only at h<;>first|exact h.elim|skip
   case append=>exact dQ (s:=Builtin.append_ argTypes type ⟨nj fr args.toList⟩) hE (by simp only[execOp,resolve,invoke,builtin,ha];rfl) h λv w' h=>Sh.e_ h
   case copy=>exact dQ (s:=Builtin.copy_ argTypes type ⟨nj fr args.toList⟩) hE (by simp only[execOp,resolve,invoke,builtin,ha];rfl) h λv w' h=>Sh.e_ h
   case delete=>exact dQ (s:=Builtin.delete_ argTypes type ⟨nj fr args.toList⟩) hE (by simp only[execOp,resolve,invoke,builtin,ha];rfl) h λv w' h=>h
   case clear=>exact dQ (s:=Builtin.clear_ argTypes type ⟨nj fr args.toList⟩) hE (by simp only[execOp,resolve,invoke,builtin,ha];rfl) h λv w' h=>h
   case cap=>exact dQ (s:=Builtin.cap_ argTypes type ⟨nj fr args.toList⟩) hE (by simp only[execOp,resolve,invoke,builtin,ha];rfl) h λv w' h=>Sh.e_ h
   case unsafeSliceData=>exact dQ (s:=Builtin.unsafeSliceData_ argTypes type ⟨nj fr args.toList⟩) hE (by simp only[execOp,resolve,invoke,builtin,ha];rfl) h λv w' h=>Sh.e_ h
   case unsafeString=>exact dQ (s:=Builtin.unsafeString_ argTypes type ⟨nj fr args.toList⟩) hE (by simp only[execOp,resolve,invoke,builtin,ha];rfl) h λv w' h=>Sh.e_ h
theorem VT{w:ahs}:∀(ad:Addr)(i:dp)(k:Value->Prop),ldv w ad i k->∃v,(∀w',w'=w->qh w' ad i v)/\k v:=
 λ_ _ _ h=>let⟨v,J,u⟩:=Nw h;⟨v,λ_ e=>e▸J,u⟩
theorem VU{w:ahs}:∀(s:Sem Value)(k:Value->Prop),rsW P w s k->∃v,(∀w',w'=w->s.run P w'=.ok v w')/\k v:=
 λ_ _ ⟨v,J,u⟩=>⟨v,λ_ e=>by simp_all,u⟩
theorem T1(hT:dY P Ty)(hF:rX P Fn)(hE:∀a b,Ev a b->E a b){all:List Oper}{o:Oper}{fr:Fr}{w:ahs}{K:Value->ahs->Prop}(hd:Np P Ty Fn E o fr w K->Df P E o (ev fr) w K)(h:opK P Ty Fn E all o fr w K):Df P E o (ev fr) w K:=by
 unfold opK at h
 split at h
 ·unfold aem at h
  split at h
  ·rename_i it d ho hdst;obtain⟨V,op,O,pos,J,u⟩:=o;dsimp only at ho hdst h;subst ho;refine dQ hE rfl h λv w' h=>?_;obtain⟨us,rfl,U⟩:=Bl h;exact U
  ·exact h.elim
 ·exact hd h
theorem VV(hT:dY P Ty)(hF:rX P Fn)(hE:∀a b,Ev a b->E a b){o:Oper}{fr:Fr}{w:ahs}{K:Value->ahs->Prop}(h:Np P Ty Fn E o fr w K):Df P E o (ev fr) w K:=by
 cases hs:gD Ty o with
 |true=>
  have h':wu P Ty (ldv w) (rsW P w) o fr (λv=>K v w):=by simp_all[Np,cond_true]
  obtain⟨v,J,u⟩:=wA hT VT VU (C:=λw'=>w'=w) h';exact ik (J w rfl) (hE _ _ (Ev.refl _)) u
 |false=>
  have h':VI P Ty Fn E o fr w K:=by simp_all[Np,cond_false]
  grind[Kh]
end
def wf(r:Option Nat):Fence:={ fn:=λ_=>True,depth:=none,alive:=false,round:=r }
def qj(ws:List Nat)(fr fr':Fr):Prop:=∀t,t∉ws->ff fr' t=ff fr t
theorem qj.refl(ws:List Nat)(fr:Fr):qj ws fr fr:=λ_ _=>rfl
theorem qj.mono{ws ws':List Nat}{a b:Fr}(h:qj ws a b)(hs:∀x∈ws,x∈ws'):qj ws' a b:=λt ht=>h t λu=>ht (hs t u)
theorem qj.trans{ws:List Nat}{a b c:Fr}(h:qj ws a b)(k:qj ws b c):qj ws a c:=λt ht=>(k t ht).trans (h t ht)
theorem qj.put{ws:List Nat}{N:Nat}{a b:Fr}(h:qj ws a b){d:Option Tmp}(v:Value)(hd:∀x,d=some x->x∈ws):qj ws a (Proofs.YtaoaemnefghnbaaGreatDoor.put N b d v):=by
 intro t ht;cases d with
 |none=>exact h t ht
 |some x=>rw[nR,afV (λ(e:x=t/\x<N)=>ht (e.1▸hd x rfl))];exact h t ht
section
variable{P:Program}{Ty:TypeId->Option dp}{Fn:FuncId->Bool}{E:ahs->ahs->Prop}
theorem semAt_eq{r:Option Nat}{ρ:Operand->Value}{o:Oper}(h:∀c,o.op≠.defer c):o.semAt r ρ=execOp ρ o:=by
 cases r with
 |none=>rfl
 |some l=>simp_all[Oper.semAt_some]
theorem ND{o:Oper}{ρ:Operand->Value}{w:ahs}{K:Value->ahs->Prop}(h:Df P E o ρ w K):∀c,o.op≠.defer c:=by
 intro c hc;unfold Df at h;simp only[execOp,hc,Sem.run_bind] at h;cases hr:(resolve ρ c o.type).run P w with
 |ok d w'=>simp_all
 |halt x w'=>simp_all
theorem NF{r:Option Nat}{n:Nat}{o:Oper}{a:Act}{w:ahs}{next:Act->ahs->Prop}{Q:Exit->Act->ahs->Prop}(h:Df P E o a.eval w λv w'=>next (a.put o.dst v) w'):o.wpIn (wf r) n P a w next Q:=by
 refine⟨λ_ _=>trivial,?_⟩;have J:o.semAt (wf r).round a.eval=execOp a.eval o:=semAt_eq (ND h);rw[J];unfold Df at h
 split at h
 ·rename_i v w' hr;rw[hr];exact h.2
 ·rename_i w' hr;rw[hr];exact h.2
 ·rename_i f args w' hr;rw[hr];refine⟨λh=>(by cases h),?_⟩;have hc:CallsIn Fence.wide (n-1) P f args w' λe u=>∃v,e=.returned v/\E w' u/\next (a.put o.dst v) u:=callsIn_wide.2 h.2
  exact CallsIn.mono (F:=wf r) hc λe u ⟨v,J,_,O⟩=>by simp_all
 ·rename_i l f tmps assign body w' hr;rw[hr];refine⟨λh=>(by cases h),trivial,λc cs _=>?_⟩;obtain⟨e,u,⟨v,rfl,_,O⟩,U⟩:=h.2.2 c cs (room_wide _);exact⟨.returned v,u,O,U⟩
 simp_all
def j8(all:List Oper)(fr:Fr)(o:Oper):Bool:=
 match o.guard with
 |none=>true
 |some (j,t)=>match EN all j with
  |some d=>(match ff fr d with|.bool b=>R5 b t|_=>false)
  |none=>false
theorem Dj{all:List Oper}{fr:Fr}{o:Oper}{yes no:Prop}:Nr all fr o yes no↔(if j8 all fr o=true then yes else no):=by grind[Nr,j8,EN,ff,bool,R5]
theorem Lv:∀(l:List Oper)(n:Nat),VK l n=l[n]?
 |[],n=>by rfl
 |o::l,0=>by rfl
 |o::l,n+1=>by simp[VK,Lv l n]
theorem VW(a b:Bool):R5 a b=(a==b):=by cases a<;>cases b<;>rfl
theorem Ki{N:Nat}{fr:Fr}(hf:Fits N fr)(ds:List Deferred)(all:List Oper)(o:Oper):Region.wanted o (yielded ⟨all⟩ (bf N fr ds).tmps)=j8 all fr o:=by
 unfold Region.wanted j8;cases hg:o.guard with
 |none=>rfl
 |some g=>
  obtain⟨j,t⟩:=g;have J:EN all j=((⟨all⟩:Array Oper)[j]?).bind (·.dst):=by grind[EN,Lv]
  simp only[yielded,<-J];cases hdj:EN all j with
  |none=>rfl
  |some d=>
   simp only[Option.bind_some];have u:(bf N fr ds).tmps[d]? =if d<N then some (ff fr d) else none:=by grind[bf]
   rw[u]
   by_cases h:d<N
   ·rw[afZ h]
    grind[ff,VW]
   ·rw[afV h,hf d (Nat.le_of_not_lt h)];rfl
theorem qk{g:Bool}{v:Value}{k:Value->Prop}(h:GJ g v k):k v:=by
 unfold GJ at h
 split at h
 ·exact TU h
 ·exact h
theorem Kj(hT:dY P Ty)(hF:rX P Fn)(hE:Jg E){N:Nat}{r:Option Nat}{n:Nat}{all:List Oper}{ds:List Deferred}{K:Fr->ahs->Prop}{Q:Exit->Act->ahs->Prop}:
  ∀(l:List Oper)(i:Nat)(fr:Fr)(w:ahs),Dd P Ty Fn E N all i l fr w K->Fits N fr->
   (∀fr' w',Fits N fr'->qj (dstsOf l) fr fr'->E w w'->K fr' w'->Q .normal (bf N fr' ds) w')->wpListIn (wf r) n P ⟨all⟩ Q l (bf N fr ds) w
 |[],i,fr,w,h,hf,hQ=>hQ fr w hf (qj.refl _ _) (hE.ofEv _ _ (Ev.refl w)) h
 |o::l,i,fr,w,h,hf,hQ=>by
  have sub:∀x,o.dst=some x->x∈dstsOf (o::l):=λx hx=>by simp[dstsOf,hx]
  have subl:∀x∈dstsOf l,x∈dstsOf (o::l):=λx hx=>by
   unfold dstsOf;cases o.dst<;>simp[hx]
  have next:∀v w',E w w'->Dd P Ty Fn E N all (i+1) l (put N fr o.dst v) w' K->wpListIn (wf r) n P ⟨all⟩ Q l ((bf N fr ds).put o.dst v) w':=λv w' hew hd=>by
   rw[F6]
   exact Kj hT hF hE l (i+1) _ w' hd (wm hf _ _) λfr' w'' h1 h2 h3 h4=>
    hQ fr' w'' h1 (((qj.refl _ fr).put v sub).trans (h2.mono subl)) (hE.trans hew h3) h4
  simp only[Dd] at h
  rw[Dj] at h
  simp only[wpListIn,Ki hf]
  by_cases hw:j8 all fr o=true
  ·rw[afZ hw] at h ⊢
   have hs:=T1 hT hF hE.ofEv (VV hT hF hE.ofEv) h
   refine NF (E:=E) ?_
   rw[F5 N fr ds hf]
   exact hs.mono (λv w' hew hk=>next v w' hew (qk hk)) hE.trans
  ·rw[afV hw] at h ⊢
   exact⟨λ_ _=>trivial,next undef w (hE.ofEv _ _ (Ev.refl w)) h⟩
end
def ar(ls:List Bool):Array Bool:=⟨ls⟩
theorem Lw:∀(ls:List Bool)(i:Nat),VM ls i=(ar ls).getD i true
 |[],i=>by rfl
 |b::l,0=>by rfl
 |b::l,n+1=>by
  have:=Lw l n
  simp_all[VM,ar]
theorem NG:∀(ls:List Bool)(i:Nat),R6 ls i=(ar ls).getD i false
 |[],i=>by rfl
 |b::l,0=>by rfl
 |b::l,n+1=>by
  have:=NG l n
  simp_all[R6,ar]
theorem GU:∀(ls:List Bool)(i:Nat),kE ls i=ls.set i true
 |[],i=>by rfl
 |b::l,0=>by rfl
 |b::l,n+1=>by simp[kE,GU l n]
theorem yi(ls:List Bool)(i:Nat):ar (kE ls i)=(ar ls).setIfInBounds i true:=by simp[GU,ar]
theorem T3(ls:List Bool)(i j:Nat):kE (kE ls i) j=kE (kE ls j) i:=by grind[GU,List.set_comm]
theorem GV{ls:List Bool}:∀{es:List Edge},GK ls es=true↔∀e∈es,Region.binds .any e=true->(ar ls).getD e.on false=true
 |[]=>by simp[GK]
 |e::l=>by
  have ih:=GV (ls:=ls) (es:=l)
  simp only[GK,afX,ih,af6,forall_eq_or_imp]
  grind[Region.binds,NG]
theorem Kk{i:Nat}:∀{es:List Edge},waits i es=true↔∃e∈es,Region.binds .any e=true/\e.on=i
 |[]=>by simp[waits]
 |e::l=>by
  have ih:=Kk (i:=i) (es:=l)
  simp only[waits,agA,ih,af6,exists_eq_or_imp]
  cases hg:e.ground<;>simp[Region.binds,hg]
theorem nS{ls:List Bool}{i:Nat}{o:Oper}:Ns ls i o=true↔(ar ls).getD i true=false/\∀e∈o.after,Region.binds .any e=true->(ar ls).getD e.on false=true:=by simp[Ns,GV,Lw]
theorem GW{ls:List Bool}:∀{l:List Oper}{i:Nat}{x:Nat×Oper},x∈gm ls i l↔∃k,x.1=i+k/\l[k]? =some x.2/\Ns ls x.1 x.2=true
 |[],i,x=>by simp[gm]
 |o::l,i,x=>by
  have ih:=GW (ls:=ls) (l:=l) (i:=i+1) (x:=x)
  have:x∈gm ls i (o::l)↔(x=(i,o)/\Ns ls i o=true)\/x∈gm ls (i+1) l:=by grind[gm,Ns]
  rw[this,ih]
  constructor
  ·rintro(⟨rfl,h⟩|⟨k,h1,h2,h3⟩)
   ·simp_all
   ·exact⟨k+1,ω,by simp_all,h3⟩
  grind
theorem i_{ls:List Bool}{l:List Oper}{x:Nat×Oper}:x∈gm ls 0 l↔l[x.1]? =some x.2/\Ns ls x.1 x.2=true:=by simp[GW]
theorem qJ{ls:List Bool}{l:List Oper}{j:Nat}:j∈Region.ready .any ⟨l⟩ (ar ls)↔∃o,(j,o)∈gm ls 0 l:=by
 rw[mem_ready]
 constructor
 ·simp_all[i_,nS]
 simp_all[i_,nS]
theorem GX{ls:List Bool}{i j:Nat}{o:Oper}(h:Ns ls j o=true)(hne:j≠i):Ns (kE ls i) j o=true:=by
 rw[nS] at*;rw[yi];exact⟨by simp_all[Ne.symm],λe u hb=>getD_set_true (h.2 e u hb)⟩
theorem Sb:∀l m,Zt l m=l++m
 |[],_=>rfl
 |x::l,m=>by simp[Zt,Sb l m]
theorem Lx:∀l,Zu l=l.map (·.2)
 |[]=>rfl
 |(a,x)::l=>by simp[Zu,Lx l]
theorem VX(o:Op):∀x,x∈VN o↔x∈o.operands:=by
 intro x;cases o<;>simp only[VN,Op.operands]<;>try (simp;done)
 case build t ps=>simp[Lx]
 case buildSlice t n ps=>simp[Lx]
 case makeFunc fn a b=>simp[Sb]
 case slice t y l h m=>cases l<;>cases h<;>cases m<;>simp[Zs]
 grind[Call.operands]
theorem Dk{t:Nat}:∀{l:List Operand}{m:List Nat},t∈Kb l m↔Operand.tmp t∈l\/t∈m
 |[],m=>by simp[Kb]
 |x::l,m=>by
  have ih:=Dk (t:=t) (l:=l) (m:=m)
  cases x<;>simp[Kb,ih,or_assoc]
theorem wB{x:Nat}:∀{l:List Nat},wx x l=true↔x∈l
 |[]=>by simp[wx]
 |y::l=>by simp[wx,wB (l:=l)]
theorem T4{all:List Oper}{x y:Oper}(h:De all x y=true):
  (∀d,x.dst=some d->d∉looks all y)/\(∀d,x.dst=some d->y.dst≠some d)/\(∀d,y.dst=some d->d∉looks all x):=by
 simp only[De,afX] at h;obtain⟨⟨O,J⟩,V⟩:=h
 refine⟨λd u=>?_,λd u U=>?_,λd u=>?_⟩
 ·grind[Lo,Bool.not_eq_true',wB]
 ·simp_all[abH]
 grind[Lo,Bool.not_eq_true',wB]
theorem Kl{all:List Oper}{ls:List Bool}{i:Nat}{o:Oper}:∀{l:List Oper}{j:Nat},R8 all ls i o j l=true->∀k p,l[k]? =some p->j+k≠i->(ar ls).getD (j+k) true=false->waits i p.after.toList=false->De all o p=true
 |[],j,h,k,p,hk,_,_,_=>by simp_all
 |q::l,j,h,k,p,hk,hne,hb,hw=>by
  simp only[R8,afX,agA,Nat.beq_eq] at h
  cases k with
  |zero=>
   simp_all[Option.some.injEq,Nat.add_zero,Lw]
  |succ k=>
   exact Kl h.2 k p (by simp_all) ω (by grind) hw
def ext(a b:Fr):Prop:=∀t,ff a t=ff b t
theorem Se{N:Nat}{a b:Fr}(h:ext a b)(d:Option Tmp)(v:Value):ext (put N a d v) (put N b d v):=by
 intro t;cases d with
 |none=>exact h t
 |some d=>rw[nR,nR,h t]
theorem put_comm{N:Nat}{a:Fr}{x y:Option Tmp}{v u:Value}(h:∀d,x=some d->y≠some d):ext (put N (put N a x v) y u) (put N (put N a y u) x v):=by
 intro t;cases x with
 |none=>rfl
 |some d=>
  cases y with
  |none=>rfl
  |some e=>
   have J:d≠e:=λO=>h d rfl (by grind);simp only[nR]
   grind
theorem acg{a b:Fr}(h:ext a b):ev a=ev b:=by
 funext x;cases x<;>simp[ev,h _]
theorem T5{all:List Oper}{a b:Fr}(h:ext a b)(o:Oper):j8 all a o=j8 all b o:=by
 unfold j8;simp only[h _]
theorem Qr{all:List Oper}{o:Oper}{t:Nat}(h:Operand.tmp t∈o.op.operands):t∈looks all o:=
 Dk.2 (.inl ((VX o.op _).2 h))
theorem NH{all:List Oper}{N:Nat}{fr:Fr}{o:Oper}(hs:∀cs b,o.op≠.select cs b){d:Option Tmp}{v:Value}(h:∀x,d=some x->x∉looks all o):execOp (ev (put N fr d v)) o=execOp (ev fr) o:=by
 refine execOp_congr o hs λx u=>?_;cases x with
 |tmp t=>
  cases d with
  |none=>rfl
  |some e=>
   simp only[ev,nR];rw[afV];rintro⟨rfl,_⟩;exact h e rfl (Qr u)
 |_=>rfl
theorem NI{all:List Oper}{N:Nat}{fr:Fr}{o:Oper}{d:Option Tmp}{v:Value}(h:∀x,d=some x->x∉looks all o):j8 all (put N fr d v) o=j8 all fr o:=by
 cases d with
 |none=>rfl
 |some e=>
  unfold j8;cases hg:o.guard with
  |none=>rfl
  |some g=>
   obtain⟨j,t⟩:=g;dsimp only;cases hd:EN all j with
   |none=>rfl
   |some d=>
    have u:d∈looks all o:=by simp_all[looks,Dk]
    simp only[nR]
    grind
section
variable{P:Program}{Ty:TypeId->Option dp}{Fn:FuncId->Bool}{E:ahs->ahs->Prop}{N:Nat}{C:ahs->Prop}{all:List Oper}{Kend:Fr->ahs->Prop}
theorem VY{o:Oper}{ρ ρ':Operand->Value}{w:ahs}{K:Value->ahs->Prop}(he:execOp ρ o=execOp ρ' o)(h:Df P E o ρ w K):Df P E o ρ' w K:=by simp_all[Df]
def cS(Ty:TypeId->Option dp)(all:List Oper)(C:ahs->Prop)(o:Oper)(w w':ahs):Prop:=(gD Ty o=true->w'=w)/\(gD Ty o=false->GM Ty all o.after.toList=true->C w')
def wC(P:Program)(Ty:TypeId->Option dp)(E:ahs->ahs->Prop)(N:Nat)(C:ahs->Prop)(all:List Oper)(Kend:Fr->ahs->Prop):Nat->List Bool->Fr->ahs->Prop
 |0,ls,fr,w=>gm ls 0 all=[]/\Kend fr w
 |n+1,ls,fr,w=>(gm ls 0 all=[]->Kend fr w)/\∀x∈gm ls 0 all,
   if j8 all fr x.2=true then Df P E x.2 (ev fr) w λv w'=>cS Ty all C x.2 w w'/\wC P Ty E N C all Kend n (kE ls x.1) (put N fr x.2.dst v) w'
   else wC P Ty E N C all Kend n (kE ls x.1) (put N fr x.2.dst undef) w
theorem GY(hE:Jg E)(hK:∀a b w,ext a b->Kend a w->Kend b w):∀(n:Nat)(ls:List Bool)(a b:Fr)(w:ahs),ext a b->wC P Ty E N C all Kend n ls a w->wC P Ty E N C all Kend n ls b w
 |0,ls,a,b,w,he,h=>⟨h.1,hK a b w he h.2⟩
 |n+1,ls,a,b,w,he,h=>by
  refine⟨λh0=>hK a b w he (h.1 h0),λx hx=>?_⟩
  have:=h.2 x hx
  rw[T5 he] at this
  split
  ·rename_i hw
   rw[afZ hw] at this
   rw[<-acg he]
   exact this.mono (λv w' _ hk=>⟨hk.1,GY hE hK n _ _ _ w' (Se he _ _) hk.2⟩) hE.trans
  ·rename_i hw
   rw[afV hw] at this
   exact GY hE hK n _ _ _ w (Se he _ _) this
def Cl(all:List Oper)(ls:List Bool):Prop:=∀j o,all[j]? =some o->(ar ls).getD j false=true->∀e∈o.after,Region.binds .any e=true->(ar ls).getD e.on false=true
theorem Dl{i:Nat}:∀{es:List Edge}{m:List Nat},i∈Bn es m↔(∃e∈es,Region.binds .any e=true/\e.on=i)\/i∈m
 |[],m=>by simp[Bn]
 |e::l,m=>by
  have ih:=Dl (i:=i) (es:=l) (m:=m)
  have e1:(∃x∈e::l,Region.binds .any x=true/\x.on=i)↔(Region.binds .any e=true/\e.on=i)\/∃x∈l,Region.binds .any x=true/\x.on=i:=σ
  rw[e1,or_assoc,<-ih]
  have hb:Region.binds .any e=(match e.ground with|.textOnly _|.gcOnly _=>false|_=>true):=by rfl
  rw[hb]
  conv=>lhs;unfold Bn
  grind
theorem zZ{ls:List Bool}(hcl:Cl all ls):∀(n:Nat)(todo done:List Nat),(∀j∈todo,(ar ls).getD j false=true)->(∀j∈done,(ar ls).getD j false=true)->∀j∈clo all n todo done,(ar ls).getD j false=true
 |0,_,done,_,h2,j,hj=>h2 j hj
 |n+1,[],done,_,h2,j,hj=>h2 j hj
 |n+1,k::todo,done,h1,h2,j,hj=>by
  unfold clo at hj
  have hk:=h1 k σ
  split at hj
  ·exact zZ hcl n todo done (λj hj=>h1 j (by grind)) h2 j hj
  ·refine zZ hcl n _ _ (λj hj=>?_) (λj hj=>?_) j hj
   ·split at hj
    ·rename_i o ho
     rw[Lv] at ho
     rcases Dl.1 hj with⟨e,he,hb,rfl⟩|hj
     ·exact hcl k o ho hk e (by simp_all) hb
     simp_all
    simp_all
   grind
theorem NJ{cl:List Nat}:∀{l:List Oper}{j:Nat},Kc Ty cl j l=false->∀k o,l[k]? =some o->gD Ty o=true->j+k∈cl
 |[],j,_,k,o,hk,_=>by simp at hk
 |q::l,j,h,k,o,hk,hs=>by
  simp only[Kc,Bool.or_eq_false_iff,Bool.and_eq_false_iff,Bool.not_eq_false'] at h
  cases k with
  |zero=>
   simp only[ahn,Option.some.injEq] at hk
   subst hk
   rcases h.1 with h1|h1
   ·rw[hs] at h1;cases h1
   ·exact wB.1 h1
  |succ k=>have:=NJ h.2 k o (by simpa using hk) hs;rwa [show j+1+k=j+(k+1) by omega] at this
theorem Bu{cl:List Nat}:∀{l:List Oper}{j:Nat},zY Ty cl j l=false->∀(k:Nat)(o:Oper),l[k]? =some o->Bo Ty o=true->j+k∈cl
 |[],j,_,k,o,hk,_=>by simp_all
 |p::l,j,h,k,o,hk,hs=>by
  simp only[zY,Bool.or_eq_false_iff,Bool.and_eq_false_iff,Bool.not_eq_false'] at h
  cases k with
  |zero=>
   simp_all[Option.some.injEq,wB]
  |succ k=>have:=Bu h.2 k o (by simp_all) hs;grind
theorem ER{ls:List Bool}{i:Nat}{oi:Oper}(hcl:Cl all ls)(hr:Ns ls i oi=true)(h:GM Ty all oi.after.toList=false)(k:Nat)(o:Oper)(hk:all[k]? =some o)(hs:Bo Ty o=true):(ar ls).getD k false=true:=by
 have J:=Bu h k o hk hs;rw[ahj] at J;refine zZ hcl _ _ _ (λj u=>?_) (λj u=>by grind) k J
 rcases Dl.1 u with⟨e,O,hb,rfl⟩|u
 ·simp_all[nS]
 simp_all
theorem Km{cl:List Nat}:∀{l:List Oper}{j:Nat},zY Ty cl j l=true->Kc Ty cl j l=true
 |[],j,h=>by grind[zY]
 |p::l,j,h=>by
  simp only[zY,agA,afX] at h
  simp only[Kc,agA,afX]
  rcases h with⟨h1,h2⟩|h
  ·simp_all[Bo]
  ·exact .inr (Km h)
theorem NK{o:Oper}(h:GM Ty all o.after.toList=true):Ke Ty all o=true:=by
 unfold Ke
 split
 ·omega
 ·exact Km h
theorem NL{ls:List Bool}{i:Nat}{oi:Oper}(hcl:Cl all ls)(hr:Ns ls i oi=true)(h:Ke Ty all oi=false)(k:Nat)(o:Oper)(hk:all[k]? =some o)(hs:Bo Ty o=true):(ar ls).getD k false=true:=by grind[ER,GM,NK]
theorem Cl.set{ls:List Bool}{i:Nat}{oi:Oper}(hcl:Cl all ls)(hi:all[i]? =some oi)(hr:Ns ls i oi=true):Cl all (kE ls i):=by
 intro j o O hl e J hb;rw[yi] at hl ⊢
 by_cases u:i=j
 ·grind[getD_set_true,nS]
 ·rw[getD_set_ne false u] at hl;exact getD_set_true (hcl j o O hl e J hb)
theorem T6{ls:List Bool}{i j:Nat}{oj:Oper}(hi:(ar ls).getD i true=false)(hj:Ns ls j oj=true):waits i oj.after.toList=false:=by
 cases hw:waits i oj.after.toList with
 |false=>rfl
 |true=>
  obtain⟨e,u,hb,rfl⟩:=Kk.1 hw
  grind[nS,Nat.lt_or_ge,ar,Array.getElem?_eq_none]
theorem z6(hE:Jg E)(hK:∀a b w,ext a b->Kend a w->Kend b w)(hsel:∀(k:Nat)(o:Oper) cs b,all[k]? =some o->o.op≠.select cs b)
  {i:Nat} {oi:Oper} {v:Value} {D:ahs->Prop} (hi:all[i]? =some oi) (hst:gD Ty oi=true) (hD:(∀w,D w)\/(Bo Ty oi=true/\∀w,C w->D w)):∀(n:Nat)(ls:List Bool)(fr:Fr)(w:ahs),Cl all ls->
   (∀j oj,all[j]? =some oj->j≠i->(ar ls).getD j true=false->waits i oj.after.toList=false->De all oi oj=true)->
   Ns ls i oi=true->((j8 all fr oi=true/\∀w,D w->(execOp (ev fr) oi).run P w=.ok (.value v) w)\/(j8 all fr oi=false/\v=undef))->(Bo Ty oi=true->C w)->
   wC P Ty E N C all Kend n (kE ls i) (put N fr oi.dst v) w->wC P Ty E N C all Kend (n+1) ls fr w:=by
 have al:∀w,(Bo Ty oi=true->C w)->D w:=λw h=>by
  rcases hD with hD|⟨Y,h2⟩
  ·exact hD w
  ·exact h2 w (h Y)
 have same:∀(n:Nat)(ls:List Bool)(fr:Fr)(w:ahs),((j8 all fr oi=true/\∀w,D w->(execOp (ev fr) oi).run P w=.ok (.value v) w)\/(j8 all fr oi=false/\v=undef))->D w->
   wC P Ty E N C all Kend n (kE ls i) (put N fr oi.dst v) w->
   (if j8 all fr oi=true then Df P E oi (ev fr) w λv w'=>cS Ty all C oi w w'/\wC P Ty E N C all Kend n (kE ls i) (put N fr oi.dst v) w'
    else wC P Ty E N C all Kend n (kE ls i) (put N fr oi.dst undef) w):=by
  intro n ls fr w hy a7 H
  rcases hy with⟨hw,hv⟩|⟨hw,rfl⟩
  ·rw[afZ hw];exact ik (hv w a7) (hE.ofEv _ _ (Ev.refl w)) ⟨⟨λ_=>rfl,λh=>by rw[hst] at h;cases h⟩,H⟩
  simp_all
 intro n
 induction n with
 |zero=>
  intro ls fr w a4 O hr hy hC H;have J:(i,oi)∈gm ls 0 all:=i_.2 ⟨hi,hr⟩;refine⟨λh=>(by rw[h] at J;cases J),λx hx=>?_⟩;obtain⟨U,V⟩:=i_.1 hx
  by_cases W:x.1=i
  ·grind
  ·have:x∈gm (kE ls i) 0 all:=i_.2 ⟨U,GX V W⟩;rw[H.1] at this;simp_all
 |succ n ih=>
  intro ls fr w a4 O hr hy hC H;have J:(i,oi)∈gm ls 0 all:=i_.2 ⟨hi,hr⟩;refine⟨λh=>(by rw[h] at J;cases J),λx hx=>?_⟩;obtain⟨U,V⟩:=i_.1 hx
  by_cases W:x.1=i
  ·grind
  ·have Y:=H.2 x (i_.2 ⟨U,GX V W⟩);have a8:(ar ls).getD i true=false:=(nS.1 hr).1;have a9:=T6 a8 V;have a6:=O x.1 x.2 U W (nS.1 V).1 a9;obtain⟨a1,a2,a3⟩:=T4 a6;have a0:Bo Ty oi=true->GM Ty all x.2.after.toList=true:=λZ=>by grind[GM,ER,Nat.lt_or_ge,ar,Array.getElem?_eq_none]
   have a5:∀u,((j8 all (put N fr x.2.dst u) oi=true/\∀w,D w->(execOp (ev (put N fr x.2.dst u)) oi).run P w=.ok (.value v) w)\/(j8 all (put N fr x.2.dst u) oi=false/\v=undef)):=λu=>by
    rw[NI a3,NH (all:=all) (hsel i oi · · hi) a3];omega
   have X:∀j oj,all[j]? =some oj->j≠i->(ar (kE ls x.1)).getD j true=false->waits i oj.after.toList=false->De all oi oj=true:=λj oj Y h2 h3 h4=>by
    refine O j oj Y h2 ?_ h4;rw[yi] at h3
    by_cases ad:x.1=j
    ·simp_all
    simp_all
   have go:∀u w',(Bo Ty oi=true->C w')->wC P Ty E N C all Kend n (kE (kE ls i) x.1) (put N (put N fr oi.dst v) x.2.dst u) w'->wC P Ty E N C all Kend (n+1) (kE ls x.1) (put N fr x.2.dst u) w':=λu w' aa hA=>by
    refine ih (kE ls x.1) (put N fr x.2.dst u) w' (a4.set U V) X (GX hr (Ne.symm W)) (a5 u) aa ?_;rw[T3];exact GY hE hK n _ _ _ w' (put_comm a2) hA
   rw[NI a1] at Y
   split
   ·rename_i hw;rw[afZ hw] at Y;have h2:=VY (NH (all:=all) (hsel x.1 x.2 · · U) a1) Y;refine h2.mono (λu w' _ hk=>⟨hk.1,go u w' (λZ=>?_) hk.2⟩) hE.trans;cases hs:gD Ty x.2 with
    |true=>rw[hk.1.1 hs];exact hC Z
    |false=>exact hk.1.2 hs (a0 Z)
   grind
theorem uV{ls:List Bool}:∀{l:List Oper}{i:Nat}{x:Nat×Oper},jE Ty ls i l=some x->∃k,x.1=i+k/\l[k]? =some x.2/\gD Ty x.2=true/\Ns ls x.1 x.2=true
 |[],i,x,h=>by grind[jE]
 |o::l,i,x,h=>by
  simp only[jE,Bool.cond_eq_ite] at h
  split at h
  ·rename_i hc
   cases h
   simp_all
  ·obtain⟨k,h1,h2,h3⟩:=uV h
   exact⟨k+1,ω,by simp_all,h3⟩
theorem NM{f:Nat×Oper->Prop}:∀{l:List (Nat×Oper)},acb l f->∀x∈l,f x
 |[],_,x,hx=>by cases hx
 |[y],h,x,hx=>by simp at hx;rw[hx];exact h
 |y::z::l,h,x,hx=>by
  obtain⟨h1,h2⟩:=h
  rcases af6.1 hx with rfl|hx
  ·exact h1
  ·exact NM h2 x hx
theorem Ly(hE:Jg E){C C':ahs->Prop}(hC:∀w,C' w->C w):∀(n:Nat)(ls:List Bool)(fr:Fr)(w:ahs),wC P Ty E N C' all Kend n ls fr w->wC P Ty E N C all Kend n ls fr w
 |0,ls,fr,w,h=>by simp_all[wC]
 |n+1,ls,fr,w,h=>by
  refine⟨h.1,λx hx=>?_⟩
  have h1:=h.2 x hx
  split
  ·rename_i hw
   rw[afZ hw] at h1
   exact h1.mono (λv w' _ hk=>⟨⟨hk.1.1,λh1 h2=>hC _ (hk.1.2 h1 h2)⟩,Ly hE hC n _ _ w' hk.2⟩) hE.trans
  ·rename_i hw
   rw[afV hw] at h1
   exact Ly hE hC n _ _ w h1
theorem Qs{ld ld':Addr->dp->(Value->Prop)->Prop}{rs rs':Sem Value->(Value->Prop)->Prop}{o:Oper}{fr:Fr}{K:Value->Prop}(hp:Lp Ty o=true)(h:wu P Ty ld rs o fr K):wu P Ty ld' rs' o fr K:=by
 obtain⟨U,op,O,pos,J,u⟩:=o;cases op<;>simp only[Lp,Bool.false_eq_true] at hp
 case binOp op t x y yt=>
  unfold wu at h ⊢;dsimp only at h ⊢;rw[hp] at h ⊢;exact h
 all_goals exact h
theorem uW{ls:List Bool}:∀{l:List Oper}{i:Nat},jE Ty ls i l=none->∀(k:Nat)(o:Oper),l[k]? =some o->Ns ls (i+k) o=true->gD Ty o=false
 |[],i,_,k,o,hk,_=>by simp_all
 |p::l,i,h,k,o,hk,hr=>by
  simp only[jE,Bool.cond_eq_ite] at h
  split at h
  ·grind
  ·rename_i hc
   cases k with
   |zero=>
    simp_all
   |succ k=>exact uW h k o (by simp_all) (by grind)
theorem j9(hT:dY P Ty)(hF:rX P Fn)(hE:Jg E){K0:Fr->ahs->Prop}(hsub:∀fr w,K0 fr w->Kend fr w)(hK:∀a b w,ext a b->Kend a w->Kend b w)(hsel:∀(k:Nat)(o:Oper) cs b,all[k]? =some o->o.op≠.select cs b):
  ∀(n:Nat)(C:ahs->Prop)(ls:List Bool)(fr:Fr)(w:ahs),Cl all ls->(C w\/∀k o,all[k]? =some o->Bo Ty o=true->(ar ls).getD k true=true)->EO P Ty Fn E N C all K0 n ls fr w->wC P Ty E N C all Kend n ls fr w
 |0,C,ls,fr,w,_,_,h=>by
  unfold EO at h
  split at h
  ·rename_i h0;exact⟨h0,hsub _ _ h⟩
  simp_all
 |n+1,C,ls,fr,w,hcl,hinv,h=>by
  have listed:∀j,(C w\/∀k o,all[k]? =some o->Bo Ty o=true->(ar (kE ls j)).getD k true=true):=λj=>by
   rcases hinv with h|h
   ·simp_all
   ·refine .inr λk o hk hs=>?_
    rw[yi]
    by_cases hjk:j=k
    ·simp_all
    simp_all
  unfold EO at h
  split at h
  ·rename_i i o hfs
   obtain⟨k,hk1,hk2,hst,hr⟩:=uV hfs
   rw[ahj] at hk1
   dsimp only at hk1 hk2 hst hr
   subst hk1
   obtain⟨hfr,h⟩:=a_.1 h
   have hC:Bo Ty o=true->C w:=λhrd=>hinv.resolve_right λh=>by simp_all[nS]
   have hfree:=λj oj h1 h2 h3 h4=>Kl hfr j oj h1 (by rw[ahj];exact h2) (by rw[ahj];exact h3) h4
   rw[Dj] at h
   by_cases hw:j8 all fr o=true
   ·rw[afZ hw] at h
    by_cases hp:Lp Ty o=true
    ·obtain⟨v,h1,h2⟩:=wA hT (C:=λ_=>True) (ld:=λad i k=>∃v,(∀w,True->qh w ad i v)/\k v) (rs:=λs k=>∃v,(∀w,True->s.run P w=.ok v w)/\k v) (λ_ _ _ h=>h) (λ_ _ h=>h) (Qs hp h)
     exact z6 hE hK hsel hk2 hst (D:=λ_=>True) (.inl λ_=>trivial) n ls fr w hcl hfree hr (.inl ⟨hw,h1⟩) hC (j9 hT hF hE hsub hK hsel n _ _ _ w (hcl.set hk2 hr) (listed i) (qk h2))
    ·obtain⟨v,h1,h2⟩:=wA hT (C:=C) (λ_ _ _ h=>VO h) (λ_ _ h=>h) h
     exact z6 hE hK hsel hk2 hst (D:=C) (.inr ⟨by simp_all[Bo],λ_ h=>h⟩) n ls fr w hcl hfree hr (.inl ⟨hw,h1⟩) hC (j9 hT hF hE hsub hK hsel n _ _ _ w (hcl.set hk2 hr) (listed i) (qk h2))
   ·rw[afV hw] at h
    exact z6 hE hK hsel hk2 hst (D:=λ_=>True) (.inl λ_=>trivial) n ls fr w hcl hfree hr (.inr ⟨by simp_all,rfl⟩) hC (j9 hT hF hE hsub hK hsel n _ _ _ w (hcl.set hk2 hr) (listed i) h)
  ·rename_i hfs
   split at h
   ·rename_i h0
    exact⟨λ_=>hsub _ _ h,λx hx=>by simp_all⟩
   ·rename_i es hne
    refine⟨λh0=>absurd h0 hne,λx hx=>?_⟩
    have h1:=NM h x hx
    rw[Dj] at h1
    obtain⟨hx1,hx2⟩:=i_.1 hx
    split
    ·rename_i hw
     rw[afZ hw] at h1
     refine(Kh hT hF hE.ofEv h1).mono (λv w' _ hk=>?_) hE.trans
     have hk:=qk hk
     have eff:∀{X:ahs->Prop},(Ke Ty all x.2=true->X w')->gD Ty x.2=false->cS Ty all X x.2 w w':=λhX hs=>⟨λh=>(by simp_all),λ_ hn=>hX (NK hn)⟩
     have hes:gD Ty x.2=false:=uW hfs x.1 x.2 hx1 (by simp_all)
     cases hn:Ke Ty all x.2 with
     |true=>
      rw[hn] at hk
      unfold cCs at hk
      dsimp only at hk
      split at hk
      ·obtain⟨C',k1,k2,k3⟩:=hk
       exact⟨eff (λ_=>k2 _ k1) hes,Ly hE k2 n _ _ w' (j9 hT hF hE hsub hK hsel n C' _ _ w' (hcl.set hx1 hx2) (.inl k1) k3)⟩
      ·exact⟨eff (λ_=>hk.1) hes,j9 hT hF hE hsub hK hsel n _ _ _ w' (hcl.set hx1 hx2) (.inl hk.1) hk.2⟩
     |false=>
      rw[hn] at hk
      refine⟨eff (λh=>(by rw[hn] at h;cases h)) hes,j9 hT hF hE hsub hK hsel n _ _ _ w' (hcl.set hx1 hx2) (.inr λk o hk' hs=>?_) hk⟩
      grind[NL,ar,kE,yi,getD_set_true,Nat.lt_or_ge,Array.getElem?_eq_none]
    ·rename_i hw
     rw[afV hw] at h1
     exact j9 hT hF hE hsub hK hsel n _ _ _ w (hcl.set hx1 hx2) (listed _) h1
end
def Vn(D:Nat):Deferred:={ target:=.collected D,args:=#[] }
def Mk(rf:Bool)(w0 w:ahs)(ds:List Deferred):Prop:=(rf=false->ds=[])/\∃Ds:List Nat,ds=Ds.map Vn/\Ds.Nodup/\∀D∈Ds,w0.heap.size<=D/\w.heap[D]? =some (Obj.deferred (some []))
theorem Mk.nil{rf:Bool}(w0 w:ahs):Mk rf w0 w []:=⟨λ_=>rfl,[],rfl,List.nodup_nil,λ_ h=>by grind⟩
section
variable{P:Program}{Ty:TypeId->Option dp}{Fn:FuncId->Bool}{E:ahs->ahs->Prop}{rf:Bool}
theorem Mk.trans(hE:Jg E){w0 w1 w2:ahs}{d1 d2:List Deferred}(h0:E w0 w1)(h12:E w1 w2)(h1:Mk rf w0 w1 d1)(h2:Mk rf w1 w2 d2):Mk rf w0 w2 (d2++d1):=by
 obtain⟨X,U,rfl,n1,J⟩:=h1;obtain⟨W,V,rfl,n2,u⟩:=h2
 refine⟨λh=>(by simp_all),V++U,σ,?_,?_⟩
 ·grind
 ·intro D O
  rcases afT.1 O with h|h
  ·exact⟨agn (hE.size h0) (u D h).1,(u D h).2⟩
  ·exact⟨(J D h).1,hE.dfr h12 _ _ (J D h).2⟩
def QN(rf:Bool)(E:ahs->ahs->Prop)(N:Nat)(ws:List Nat)(fr0:Fr)(w0:ahs)(ds:List Deferred)(n r:Fr->ahs->Prop)(x:Nat->Fr->ahs->Prop):Exit->Act->ahs->Prop
 |.normal,a,w=>∃fr ds',a=bf N fr (ds'++ds)/\Fits N fr/\qj ws fr0 fr/\E w0 w/\Mk rf w0 w ds'/\n fr w
 |.ret,a,w=>∃fr ds',a=bf N fr (ds'++ds)/\Fits N fr/\qj ws fr0 fr/\E w0 w/\Mk rf w0 w ds'/\r fr w
 |.exit i,a,w=>∃fr ds',a=bf N fr (ds'++ds)/\Fits N fr/\qj ws fr0 fr/\E w0 w/\Mk rf w0 w ds'/\x i fr w
 |_,_,_=>False
theorem QN.mono{N:Nat}{ws ws':List Nat}{fr0:Fr}{w0:ahs}{ds:List Deferred}{n r n' r':Fr->ahs->Prop}{x x':Nat->Fr->ahs->Prop}
  (hs:∀t∈ws,t∈ws') (hn:∀fr w,qj ws fr0 fr->E w0 w->n fr w->n' fr w) (hr:∀fr w,r fr w->r' fr w) (hx:∀i fr w,x i fr w->x' i fr w) {e:Exit} {a:Act} {w:ahs}
  (h:QN rf E N ws fr0 w0 ds n r x e a w):QN rf E N ws' fr0 w0 ds n' r' x' e a w:=by
 cases e<;>try exact h.elim
 all_goals (obtain⟨fr,u,W,U,J,O,X,V⟩:=h)
 ·exact⟨fr,u,W,U,J.mono hs,O,X,hn fr w J O V⟩
 ·exact⟨fr,u,W,U,J.mono hs,O,X,hx _ fr w V⟩
 ·exact⟨fr,u,W,U,J.mono hs,O,X,hr fr w V⟩
theorem QN.later(hE:Jg E){N:Nat}{ws ws':List Nat}{fr0 fr1:Fr}{w0 w1:ahs}{ds d1:List Deferred}{n r:Fr->ahs->Prop}{x:Nat->Fr->ahs->Prop}
  (hs:∀t∈ws',t∈ws) (ha:qj ws fr0 fr1) (he:E w0 w1) (hm:Mk rf w0 w1 d1) {e:Exit} {a:Act} {w:ahs}
  (h:QN rf E N ws' fr1 w1 (d1++ds) n r x e a w):QN rf E N ws fr0 w0 ds n r x e a w:=by
 cases e<;>try exact h.elim
 all_goals
  obtain⟨fr,u,X,O,V,J,W,U⟩:=h;exact⟨fr,u++d1,by simp_all,O,ha.trans (V.mono hs),hE.trans he J,Mk.trans hE he J hm W,U⟩
theorem Lz:∀l m,Qi l m=l++m
 |[],_=>rfl
 |x::l,m=>by simp[Qi,Lz l m]
theorem Sf(a b:Code):rK (.seq a b)=rK a++rK b:=by simp[rK,Lz]
theorem NN(c:Operand)(a b:Code):rK (.cond c a b)=rK a++rK b:=by simp[rK,Lz]
def VZ(c:Cs)(v:Value):Prop:=∀f:Value->Prop,c.all f->f v
theorem Cs.LA{β:Type}(c:Cs)(b:β)(v:Value):c.ap (c.Zq b) v b=b:=by
 cases c<;>cases v<;>simp only[Cs.ap,Cs.Zq]<;>try rfl
 ·simp
 ·rename_i fn first u;cases fn<;>try rfl
  obtain⟨first⟩:=first;obtain⟨u⟩:=u;cases first<;>rfl
theorem Cs.Bv{β:Type}{c:Cs}{g:c.arr β}{v:Value}{d:β}(D:β->Prop)(hd:¬D d)(h:D (c.ap g v d)):VZ c v:=by
 intro f ha;cases c<;>cases v<;>simp only[Cs.ap] at h<;>try exact absurd h hd
 case int.int k k' n=>
  cases hb:Nat.beq (kx k) (kx k')<;>rw[hb] at h
  ·exact absurd h hd
  ·rw[<-VC hb];exact ha n
 case fn.func fn first u=>
  cases fn<;>try exact absurd h hd
  obtain⟨first⟩:=first
  obtain⟨u⟩:=u
  cases first
  ·exact ha _ _
  ·exact absurd h hd
 all_goals (first|exact ha _|exact ha _ _|exact ha _ _ _)
theorem LB{β:Type}(d:β):∀(l:List Cs)(vs:List Value),apC l (Qh l d) vs d=d
 |[],[]=>rfl
 |[],_::_=>rfl
 |c::l,[]=>rfl
 |c::l,v::vs=>by
  show apC l (c.ap (c.Zq (Qh l d)) v (Qh l d)) vs d=d
  rw[Cs.LA];exact LB d l vs
theorem Kn{β:Type}(d:β)(D:β->Prop)(hd:¬D d):∀{l:List Cs}{g:TV l β}{vs:List Value},D (apC l g vs d)->∀f:List Value->Prop,Zo l f->f vs
 |[],g,[],_=>λf ha=>ha
 |[],g,v::vs,h=>absurd h hd
 |c::l,g,[],h=>absurd h hd
 |c::l,g,v::vs,h=>λf ha=>by
  have h1:VZ c v:=Cs.Bv (β:=TV l β) (g:=g) (d:=Qh l d) (λk=>D (apC l k vs d)) (by simp_all[LB]) h
  exact Kn d D hd (l:=l) h (λvs=>f (v::vs)) (h1 _ ha)
theorem S1.LA{β:Type}(c:S1)(b:β)(v:Value):c.ap (c.Zq b) v b=b:=by
 cases c with
 |one c=>cases v<;>exact Cs.LA c b _
 |agg l=>cases v<;>first|exact LB b l _|rfl
theorem S1.Bv{β:Type}{c:S1}{g:c.arr β}{v:Value}{d:β}(D:β->Prop)(hd:¬D d)(h:D (c.ap g v d)):∀f:Value->Prop,c.all f->f v:=by
 cases c with
 |one c=>exact Cs.Bv D hd (by cases v<;>exact h)
 |agg l=>
  cases v<;>try exact absurd h hd
  rename_i cs;intro f ha;obtain⟨cs⟩:=cs;exact Kn d D hd (l:=l) h (λvs=>f (.agg ⟨vs⟩)) ha
theorem Sg{β:Type}(d:β):∀(l:List S1)(vs:List Value),Ka l (TW l d) vs d=d
 |[],[]=>rfl
 |[],_::_=>rfl
 |c::l,[]=>rfl
 |c::l,v::vs=>by
  show Ka l (c.ap (c.Zq (TW l d)) v (TW l d)) vs d=d
  rw[S1.LA];exact Sg d l vs
theorem Dm{β:Type}(d:β)(D:β->Prop)(hd:¬D d):∀{l:List S1}{g:GI l β}{vs:List Value},D (Ka l g vs d)->∀f:List Value->Prop,Nq l f->f vs
 |[],g,[],_=>λf ha=>ha
 |[],g,v::vs,h=>absurd h hd
 |c::l,g,[],h=>absurd h hd
 |c::l,g,v::vs,h=>λf ha=>by
  have h1:=S1.Bv (β:=GI l β) (c:=c) (g:=g) (v:=v) (d:=TW l d) (λk=>D (Ka l k vs d)) (by simp_all[Sg]) h
  exact Dm d D hd (l:=l) h (λvs=>f (v::vs)) (h1 _ ha)
theorem Dn{N:Nat}{d:Nat->Value}(t:Nat)(ht:t<N):∀(ws:List Nat)(fr:Fr),(∀s,ff fr s=d s\/s∉ws)\/True->ff (uU N d ws fr) t=if t∈ws then d t else ff fr t
 |[],fr,_=>by rfl
 |s::ws,fr,_=>by
  rw[uU,Dn t ht ws _ (.inr trivial)]
  by_cases h:t∈ws
  ·grind
  ·rw[afV h,nR]
   grind
theorem GZ{N:Nat}(t:Nat)(ht:t<N)(fr2:Fr):∀(lv:List (Nat×S1))(fr:Fr),ff (pR N fr lv (wv fr2 lv)) t=if t∈lv.map (·.1) then ff fr2 t else ff fr t
 |[],fr=>by rfl
 |(s,c)::lv,fr=>by
  rw[wv,pR,GZ t ht fr2 lv]
  by_cases h:t∈lv.map (·.1)
  ·simp_all
  ·rw[afV h,nR]
   grind
theorem oO{N:Nat}{d:Nat->Value}:∀(ws:List Nat){fr:Fr},Fits N fr->Fits N (uU N d ws fr)
 |[],_,h=>h
 |s::ws,_,h=>oO ws (wm h _ _)
theorem oE{N:Nat}:∀(lv:List (Nat×S1))(vs:List Value){fr:Fr},Fits N fr->Fits N (pR N fr lv vs)
 |[],_,_,h=>h
 |(s,c)::lv,[],_,h=>h
 |(s,c)::lv,v::vs,_,h=>oE lv vs (wm h _ _)
theorem G0{N:Nat}{ws:List Nat}{fr fr2:Fr}(lv:List (Nat×S1))(ds:List Deferred)(ha:qj ws fr fr2):
  bf N (pR N (uU N (ff fr2) ws fr) lv (wv fr2 lv)) ds=bf N fr2 ds:=by
 refine EK ds λt ht=>?_;rw[GZ t ht]
 split
 ·rfl
 ·rw[Dn t ht ws fr (.inr trivial)]
  split
  ·rfl
  ·rename_i h;exact(ha t h).symm
end
section
variable{P:Program}{Ty:TypeId->Option dp}{Fn:FuncId->Bool}{E:ahs->ahs->Prop}{N:Nat}{ro:Option Nat}{k:Nat}
theorem Dp{ws:List Nat}{fr fr2:Fr}(lv:List (Nat×S1))(hf:Fits N fr)(ha:qj ws fr fr2):qj ws fr (pR N (uU N (ff fr2) ws fr) lv (wv fr2 lv)):=by
 intro t ht
 by_cases hN:t<N
 ·rw[GZ t hN]
  split
  ·exact ha t ht
  simp_all[Dn]
 ·rw[oE lv _ (oO ws hf) t (Nat.le_of_not_lt hN),hf t (Nat.le_of_not_lt hN)]
theorem Ko(hE:Jg E){C:ahs->Prop}{all:List Oper}{Kend:Fr->ahs->Prop}{ds:List Deferred}{Q:Exit->Act->ahs->Prop}:
  ∀(n:Nat)(ls:List Bool)(fr:Fr)(w:ahs),wC P Ty E N C all Kend n ls fr w->Fits N fr->
   (∀fr' w',Fits N fr'->qj (dstsOf all) fr fr'->E w w'->Kend fr' w'->Q .normal (bf N fr' ds) w')->wpAnyIn (wf ro) k P .any ⟨all⟩ Q n (ar ls) (bf N fr ds) w
 |0,ls,fr,w,h,hf,hQ=>by
  refine⟨?_,hQ fr w hf (qj.refl _ _) (hE.ofEv _ _ (Ev.refl w)) h.2⟩
  cases hr:Region.ready .any ⟨all⟩ (ar ls) with
  |nil=>rfl
  |cons j l=>
   have:j∈Region.ready .any ⟨all⟩ (ar ls):=by simp_all
   obtain⟨o,ho⟩:=qJ.1 this
   rw[h.1] at ho;grind
 |n+1,ls,fr,w,h,hf,hQ=>by
  refine⟨λh0=>?_,λj hj=>?_⟩
  ·refine hQ fr w hf (qj.refl _ _) (hE.ofEv _ _ (Ev.refl w)) (h.1 ?_)
   cases hr:gm ls 0 all with
   |nil=>rfl
   |cons x l=>
    have:x.1∈Region.ready .any ⟨all⟩ (ar ls):=qJ.2 ⟨x.2,by simp_all⟩
    simp_all
  ·obtain⟨o,ho⟩:=qJ.1 hj
   have hx:=h.2 (j,o) ho
   obtain⟨h1,h2⟩:=i_.1 ho
   dsimp only at hx h1 h2
   have ho':(⟨all⟩:Array Oper)[j]? =some o:=by simp_all
   unfold wpOpIn
   simp only[ho',Ki hf]
   have sub:∀x,o.dst=some x->x∈dstsOf all:=by
    intro x hx
    have:∀(l:List Oper)(j:Nat),l[j]? =some o->x∈dstsOf l:=by
     intro l
     induction l with
     |nil=>simp
     |cons p l ih=>
      grind[dstsOf]
    grind
   have next:∀v w',E w w'->wC P Ty E N C all Kend n (kE ls j) (put N fr o.dst v) w'->wpAnyIn (wf ro) k P .any ⟨all⟩ Q n ((ar ls).setIfInBounds j true) ((bf N fr ds).put o.dst v) w':=λv w' hew hd=>by
    rw[F6,<-yi]
    exact Ko hE n _ _ w' hd (wm hf _ _) λfr' w'' h1 h2 h3 h4=>hQ fr' w'' h1 (((qj.refl _ fr).put v sub).trans h2) (hE.trans hew h3) h4
   split
   ·rename_i hw
    rw[afZ hw] at hx
    refine NF (E:=E) ?_
    rw[F5 N fr ds hf]
    refine hx.mono (λv w' hew hk=>next v w' hew ?_) hE.trans
    simp_all
   ·rename_i hw
    rw[afV hw] at hx
    exact⟨λ_ _=>trivial,next undef w (hE.ofEv _ _ (Ev.refl w)) hx⟩
theorem Si:∀l,Zv.lenO l=l.length
 |[]=>rfl
 |_::l=>by simp[Zv.lenO,Si l]
theorem G1:∀n,R7 n=List.replicate n false
 |0=>rfl
 |n+1=>by simp[R7,G1 n,agW]
theorem NO:∀{ops:List Oper},R9 ops=true->∀(k:Nat)(o:Oper) cs b,ops[k]? =some o->o.op≠.select cs b
 |[],_,k,o,cs,b,hk=>by simp_all
 |p::l,h,k,o,cs,b,hk=>by
  simp only[R9,afX] at h
  cases k with
  |zero=>grind
  |succ k=>exact NO h.2 k o cs b (by simp_all)
theorem ach(n j:Nat):(ar (List.replicate n false)).getD j false=false:=by
 by_cases h:j<n<;>simp[ar,h]
theorem T7(hT:dY P Ty)(hF:rX P Fn)(hE:Jg E)(hm:P.follows .mixedOrders=true){id:Nat}{ops:Array Oper}{draw:Bool}{fr:Fr}{w:ahs}{K:Fr->ahs->Prop}{ds:List Deferred}{Q:Exit->Act->ahs->Prop}
  (h:Zv P Ty Fn E N ops.toList draw fr w K) (hf:Fits N fr)
  (hQ:∀fr' w',Fits N fr'->qj (dstsOf ops.toList) fr fr'->E w w'->K fr' w'->Q .normal (bf N fr' ds) w'):(Code.region id ops draw).wpIn (wf ro) k P Q (bf N fr ds) w:=by
 cases draw with
 |false=>
  refine wpIn_region_list ?_;exact Kj hT hF hE ops.toList 0 fr w h hf hQ
 |true=>
  refine wpIn_region_any hm ?_;obtain⟨U,h⟩:=a_.1 h;obtain⟨C,hC,hd⟩:=h _ rfl;have Z:∀(a b:Fr)(w:ahs),ext a b->(∃u,ext u a/\K u w)->∃u,ext u b/\K u w:=λa b w W ⟨f,J,V⟩=>⟨f,λt=>(J t).trans (W t),V⟩;have:=j9 hT hF hE (Kend:=λfr w=>∃u,ext u fr/\K u w) (λfr w h=>⟨fr,λ_=>rfl,h⟩) Z (NO U) _ _ _ fr _ (λj o _ hl=>by grind[G1,ach]) (.inl hC) hd;rw[Si,G1] at this;have e:(Array.replicate ops.size false)=ar (List.replicate ops.toList.length false):=by rfl
  rw[e];have X:ops.size=ops.toList.length:=σ
  rw[X];refine Ko hE (ds:=ds) (Q:=Q) _ _ fr _ this hf λfr' w' J V h3 ⟨u,O,Y⟩=>?_;rw[EK ds (fr:=fr') (fr':=u) λt _=>(O t).symm];exact hQ u w' (λt ht=>by rw[O t];exact J t ht) (λt ht=>by rw[O t];exact V t ht) (hE.trans (hE.ofEv _ _ (Ev.drew w _)) h3) Y
end
structure G2(l:Nat)(w w':ahs):Prop where
 os:w'.os=w.os
 tape:w'.tape=w.tape
 output:w'.output=w.output
 size:w.heap.size<=w'.heap.size
 dfr:∀(b:Nat)(d:Option (List Deferred)),w.heap[b]? =some (Obj.deferred d)->w'.heap[b]? =some (Obj.deferred d)
 lop:∀(b:Nat)(d:Loop),b≠l->w.heap[b]? =some (Obj.loop d)->w'.heap[b]? =some (Obj.loop d)
theorem G2.trans{l:Nat}{a b c:ahs}(h:G2 l a b)(k:G2 l b c):G2 l a c:=
 ⟨k.os.trans h.os,k.tape.trans h.tape,k.output.trans h.output,agn h.size k.size,λx d u=>k.dfr x d (h.dfr x d u),λx d hl u=>k.lop x d hl (h.lop x d hl u)⟩
theorem G2.of{l:Nat}{a b:ahs}(h:Ev a b):G2 l a b:=⟨h.os,h.tape,h.output,h.size,h.dfr,λx d _ u=>h.lop x d u⟩
theorem aeq(l:Nat):Jg (G2 l):=⟨λh k=>h.trans k,λ_ _ h=>.of h,λh k d u=>h.dfr k d u,λh=>h.size⟩
theorem G2.putObj{l:Nat}{w:ahs}{r r':Loop}(h:w.heap[l]? =some (.loop r)):G2 l w (w.putObj l (.loop r')):=by
 refine⟨rfl,rfl,rfl,σ,λb d hb=>?_,λb d u hb=>?_⟩
 ·grind[World.putObj_heap_other]
 simp_all[World.putObj_heap_other]
theorem Ev.back{l:Nat}{a b c:ahs}(h1:Ev a b)(h:G2 l b c)(hl:a.heap.size<=l):Ev a c:=
 ⟨h.os.trans h1.os,h.tape.trans h1.tape,h.output.trans h1.output,agn h1.size h.size,λx d u=>h.dfr x d (h1.dfr x d u),
  λx d u=>h.lop x d (λe=>by simp_all) (h1.lop x d u)⟩
theorem St.putObj{w:ahs}{b:Nat}{o:Obj}{L:List aC}(h:St w (blk b o::L))(o':Obj)(ho:Nh o'=true:=by rfl):St (w.putObj b o') (blk b o'::L):=h.setObj o' ho
theorem St.alloc{w:ahs}{L:List aC}(h:St w L)(o:Obj)(ho:Nh o=true:=by rfl):St (w.alloc o) (blk w.heap.size o::L):=h.push o ho
theorem St.aci{w:ahs}{L:List aC}(h:St w L)(d:Option (List Deferred)):St (w.alloc (.deferred d)) L:=h.eq (VB w d)
theorem Sj{c:Cs}{q p:Value->Prop}(h:c.ex q)(ha:c.all p):∃v,q v/\p v:=by
 cases c<;>simp only[Cs.ex,Cs.all] at h ha
 case slice=>obtain⟨a,l,c,h⟩:=h;exact⟨_,h,ha _ _ _⟩
 case fn=>obtain⟨a,l,h⟩:=h;exact⟨_,h,ha _ _⟩
 case ifc=>obtain⟨a,l,h⟩:=h;exact⟨_,h,ha _ _⟩
 all_goals (obtain⟨a,h⟩:=h;exact⟨_,h,ha _⟩)
theorem ZA{l:List Cs}:∀{q p:List Value->Prop},exC l q->Zo l p->∃vs,q vs/\p vs:=by
 induction l with
 |nil=>exactλh k=>⟨[],h,k⟩
 |cons c l ih=>intro q p h k;obtain⟨v,h,k⟩:=Sj h k;grind
theorem V2{c:S1}{q p:Value->Prop}(h:c.ex q)(ha:c.all p):∃v,q v/\p v:=by
 cases c with
 |one c=>exact Sj h ha
 |agg l=>obtain⟨vs,h,k⟩:=ZA h ha;grind
theorem ZB{l:List S1}:∀{q p:List Value->Prop},exS l q->Nq l p->∃vs,vs.length=l.length/\q vs/\p vs:=by
 induction l with
 |nil=>exactλh k=>⟨[],rfl,h,k⟩
 |cons c l ih=>intro q p h k;obtain⟨v,h,k⟩:=V2 h k;grind
theorem NP{p:Nat->Prop}:∀{l:List Nat},ace l p->∀j,wx j l=true->p j
 |[],_,j,h=>by simp[wx] at h
 |[a],h,j,hj=>by
  simp only[wx,Bool.or_false] at hj
  rw[ahe hj];exact h
 |a::b::l,h,j,hj=>by
  obtain⟨h1,h2⟩:=h
  by_cases e:Nat.beq j a=true
  ·rw[ahe e];exact h1
  ·refine NP h2 j ?_
   simp_all[wx]
theorem Sk:∀lv,(Bh lv).length=lv.length
 |[]=>rfl
 |_::l=>by simp[Bh,Sk l]
theorem Kp:∀{ps:List Nat}{lv:List (Nat×S1)},wy ps lv=true->ps.length=lv.length
 |[],[],_=>rfl
 |[],_::_,h=>by grind[wy]
 |_::_,[],h=>by grind[wy]
 |a::l,(b,c)::m,h=>by simp only[wy,afX] at h;simp[Kp h.2]
theorem Kq{N:Nat}{d:List Deferred}:∀(ps:List Nat)(lv:List (Nat×S1))(vs:List Value)(fr:Fr),wy ps lv=true->vs.length=lv.length->
  (ps.zip vs).foldl (λ(t:Array Value)(x:Nat×Value)=>t.setIfInBounds x.1 x.2) (bf N fr d).tmps=(bf N (pR N fr lv vs) d).tmps
 |[],[],vs,fr,_,hl=>by rfl
 |[],_::_,_,_,h,_=>by grind[wy]
 |_::_,[],_,_,h,_=>by grind[wy]
 |a::l,(b,c)::m,[],fr,h,hl=>by rfl
 |a::l,(b,c)::m,v::vs,fr,h,hl=>by
  simp only[wy,afX] at h
  have hab:=ahe h.1
  subst hab
  simp only[List.zip_cons_cons,List.foldl_cons,pR]
  have:=F6 N fr d (some a) v
  rw[<-Kq l m vs _ h.2 (by simp_all),<-this]
  rfl
section
variable{P:Program}{Ty:TypeId->Option dp}{Fn:FuncId->Bool}{E:ahs->ahs->Prop}{N:Nat}{k:Nat}{rf:Bool}
theorem T8(hrf:rf=true)(hT:dY P Ty)(hF:rX P Fn)(hE:Jg E)(hEE:∀a b,E a b->Ev a b)(A:aW){f:Operand}{ps:Array Tmp}{a b:Code}{fr:Fr}{w:ahs}{n r:Fr->ahs->Prop}{x:Nat->Fr->ahs->Prop}{ds:List Deferred}
    (iha:∀(ro:Option Nat)(k:Nat)(fr:Fr)(w:ahs)(n r:Fr->ahs->Prop)(x:Nat->Fr->ahs->Prop),den P Ty Fn E N A a fr w n r x->Fits N fr->∀ds,a.wpIn (wf ro) k P (QN rf E N (rK a) fr w ds n r x) (bf N fr ds) w)
    (ihb:∀(ro:Option Nat)(k:Nat)(fr:Fr)(w:ahs)(n r:Fr->ahs->Prop)(x:Nat->Fr->ahs->Prop),den P Ty Fn E N A b fr w n r x->Fits N fr->∀ds,b.wpIn (wf ro) k P (QN rf E N (rK b) fr w ds n r x) (bf N fr ds) w)
    {g:FuncId} {first cap:Array Value} {lv:List (Nat×S1)} (hv:ev fr f=.func (.func g) first cap) (hg:Fn g=true) (hps:wy ps.toList lv=true)
    (h : aep P g first.toList cap.toList (Bh lv) (kF b) w
          (λvs w K=>den P Ty Fn E N A a (pR N fr lv vs) w K (λ_ _=>False) (λ_ _ _=>False))
          (λfr1 w n' r' x'=>den P Ty Fn E N A b fr1 w (λ_ w=>n' w) (λ_ w=>r' w) (λj _ w=>x' j w)) (n fr) (r fr) (λj=>x j fr))
    (hf:Fits N fr):(Code.rangeFunc f ps a b).wpIn (wf none) k P (QN rf E N [] fr w ds n r x) (bf N fr ds) w:=by
  obtain⟨xs,D,Q,J,Jr,Jx0,L,h0,hQL,hI,hty,hrd0,hn,hr,hx0⟩:=h
  let Jx:Nat->aC:=λj=>aV [pu (wx j (kF b)=true),Jx0 j]
  have jx:∀j w L,St w (Jx j::L)↔oN (wx j (kF b)) (St w (Jx0 j::L)):=λj w L=>by
    rw[a_];exact St.flat.trans St.pu
  have hx:∀j w',St w' (Jx j::D::L)->x j fr w':=λj w' hs=>by
    obtain⟨h1,h2⟩:=a_.1 ((jx j w' _).1 hs)
    exact NP hx0 j h1 w' h2
  have hrd:∀i,Nq (Bh lv) λvs=>xs[i]? =some vs->∀L' w,Nt L' L->St w (J i::L')->
      den P Ty Fn E N A a (pR N fr lv vs) w (λfr1 w1=>∃M:aC,St w1 (M::L')/\∀L' w,Nt L' L->St w (M::L')->
        den P Ty Fn E N A b fr1 w (λ_ w'=>St w' (J (i+1)::L')) (λ_ w'=>St w' (Jr::L')) (λj _ w'=>St w' (Jx j::L'))) (λ_ _=>False) (λ_ _ _=>False):=λi=>by simp_all
  refine wpIn_rangeFunc λfn _=>?_
  let rec0:Loop:={ state:=.ready,pending:=none,fn,tmps:=(bf N fr ds).tmps,params:=ps,assign:=a,body:=b,defers:=w.heap.size }
  let w1:ahs:=(w.alloc (.deferred (some []))).alloc (.loop rec0)
  have hl:w.heap.size+1=(w.alloc (.deferred (some []))).heap.size:=σ
  have ew1:Ev w w1:=(Ev.push w _).trans (Ev.push _ _)
  have he:(f:Operand)=f:=rfl
  have e2:first++(#[.func (.yield (w.heap.size+1)) #[] #[]]:Array Value)++cap=⟨Fe first.toList [.func (.yield (w.heap.size+1)) #[] #[]] cap.toList⟩:=by simp[Ln]
  have hev:(bf N fr ds).eval f=.func (.func g) first cap:=by simp_all[Qc]
  refine⟨w.heap.size+1,[Vn w.heap.size],w1,⟨.fn (.func g) cap,first++ #[.func (.yield (w.heap.size+1)) #[] #[]]⟩,w1,g,⟨Fe first.toList [.func (.yield (w.heap.size+1)) #[] #[]] cap.toList⟩,w1,
    run_enterLoop_outer fn _ ps a b,?_,λ_ _=>trivial,?_,λh=>(by cases h),?_⟩
  · simp only[resolve,List.map_toArray,agv,List.map_nil,hev,Deferred.ofValue,Sem.run_pure]
    rfl
  · grind[invoke,tU]
  · have hcall:iK P (G2 (w.heap.size+1)) g (Fe first.toList [.func (.yield (w.heap.size+1)) #[] #[]] cap.toList) w1 _:=
      hI (w.heap.size+1) (G2 (w.heap.size+1)) (aeq _) (λi=>aV [J i,blk (w.heap.size+1) (.loop rec0)])
        (ex λc:Option Nat=>match c with
          |none=>aV [Jr,blk (w.heap.size+1) (.loop { rec0 with state:=.done,pending:=some .ret })]
          |some j=>aV [Jx j,blk (w.heap.size+1) (.loop { rec0 with state:=.done,pending:=some (.exit j) })])
        L w1 ?_ hQL ?_
    · refine callsIn_wide.2 ?_
      refine Calls.mono hcall ?_
      rintro e w3⟨v,rfl,hX,hQ⟩
      have fin:∀(st:LoopState)(pd:Option Code)(M:aC),st≠.busy->St w3 (M::blk (w.heap.size+1) (.loop { rec0 with state:=st,pending:=pd })::D::L)->
          ∃w4,(Instr.endLoop (w.heap.size+1)).run P w3=.ok pd w4/\St w4 (M::D::L)/\E w w4/\Mk rf w w4 [Vn w.heap.size]:=by
        intro st pd M hst hs
        have hs':=hs.swap
        have hg:=hs'.get
        refine⟨_,run_endLoop hg hst,(hs'.putObj _).tail,?_,?_⟩
        · exact hE.ofEv _ _ (ew1.back (hX.trans (G2.putObj hg)) ω)
        · refine⟨λh=>(by simp_all),[w.heap.size],rfl,σ,λd hd=>?_⟩
          simp only[af_] at hd
          subst hd
          refine⟨afR _,?_⟩
          refine(hX.trans (G2.putObj hg)).dfr _ _ ?_
          show((w.heap.push _).push _)[w.heap.size]? =_
          grind
      have qn:∀w4,E w w4->Mk rf w w4 [Vn w.heap.size]->∀{p:Prop},p->∃fr' ds',{ (bf N fr ds) with defers:=[Vn w.heap.size]++(bf N fr ds).defers }=bf N fr' (ds'++ds)/\Fits N fr'/\qj [] fr fr'/\E w w4/\Mk rf w w4 ds'/\(fr'=fr/\p):=
        λw4 h1 h2 _ hp=>⟨fr,[Vn w.heap.size],rfl,hf,qj.refl _ _,h1,h2,rfl,hp⟩
      rcases hQ with hQ|hQ
      · have hQ:=St.flat.1 hQ
        obtain⟨w4,h1,h2,h3,h4⟩:=fin .ready none _ σ hQ
        refine⟨none,w4,h1,?_⟩
        obtain⟨fr',ds',g1,g2,g3,g4,g5,rfl,g6⟩:=qn w4 h3 h4 (hn w4 h2)
        exact⟨_,ds',g1,g2,g3,g4,g5,g6⟩
      · obtain⟨c,hQ⟩:=St.ex.1 hQ
        cases c with
        |none=>
          have hQ:=St.flat.1 hQ
          obtain⟨w4,h1,h2,h3,h4⟩:=fin .done (some .ret) _ σ hQ
          refine⟨some .ret,w4,h1,wpIn_ret ?_⟩
          obtain⟨fr',ds',g1,g2,g3,g4,g5,rfl,g6⟩:=qn w4 h3 h4 (hr w4 h2)
          exact⟨_,ds',g1,g2,g3,g4,g5,g6⟩
        |some j=>
          have hQ:=St.flat.1 hQ
          obtain⟨w4,h1,h2,h3,h4⟩:=fin .done (some (.exit j)) _ σ hQ
          refine⟨some (.exit j),w4,h1,wpIn_exit ?_⟩
          obtain⟨fr',ds',g1,g2,g3,g4,g5,rfl,g6⟩:=qn w4 h3 h4 (hx j w4 h2)
          exact⟨_,ds',g1,g2,g3,g4,g5,g6⟩
    · have h1:=(h0.aci (some [])).alloc (.loop rec0)
      rw[<-hl] at h1
      refine St.flat.2 ?_
      exact h1.swap
    · intro i us hi L' w' hsup hs
      have hs1:=St.flat.1 hs
      have hg:=hs1.swap.get
      obtain⟨vs,hvl,hve,hvs⟩:=ZB (hty us (afI hi)) (hrd i)
      subst hve
      have hlen:us.length=lv.length:=by grind[Sk]
      have hpl:=Kp hps
      have hden:=hvs hi (blk (w.heap.size+1) (.loop rec0)::L') w' (λh hh=>hsup h (aq hh)) hs1
      refine⟨fn,(bf N (pR N fr lv us) []).tmps,a,b,?_,?_⟩
      · have hy:=run_yield (P:=P) (args:=⟨us⟩) hg (by grind)
        rw[hy]
        have hz:(ps.zip (⟨us⟩:Array Value)).foldl (λ(t:Array Value)(x:Nat×Value)=>t.setIfInBounds x.1 x.2) (bf N fr ds).tmps=(bf N (pR N fr lv us) []).tmps:=by
          rw[show(bf N (pR N fr lv us) []).tmps=(bf N (pR N fr lv us) ds).tmps from rfl,<-Kq ps.toList lv us fr hps hlen,<-Array.foldl_toList]
          simp
        grind
      · refine roundIn_of_wpIn trivial ?_
        have hfit:Fits N (pR N fr lv us):=oE lv _ hf
        refine wpIn_mono (iha (some (w.heap.size+1)) 0 _ w' _ _ _ hden hfit []) λe a1 w1' hq=>?_
        cases e with
        |normal=>
          obtain⟨fr1,ds1,rfl,q2,q3,q4,q5,M,q6,q7⟩:=hq
          have hs2:=q6.swap
          have hg2:=hs2.get
          refine⟨_,run_beginRound hg2 rfl,?_⟩
          have hs3:=(hs2.putObj (.loop { rec0 with state:=.busy })).swap
          have hx3:G2 (w.heap.size+1) w' (w1'.putObj (w.heap.size+1) (.loop { rec0 with state:=.busy })):=(G2.of (hEE _ _ q4)).trans (G2.putObj hg2)
          refine wpIn_mono (ihb (some (w.heap.size+1)) 0 _ _ _ _ _ (q7 _ _ (λh hh=>hsup h (aq hh)) hs3) q2 _) λe a2 w2 hq=>?_
          cases e with
          |normal=>
            obtain⟨fr2,ds2,rfl,p2,p3,p4,p5,p6⟩:=hq
            have hs4:=p6.swap
            have hg4:=hs4.get
            refine⟨_,_,run_endRound none hg4,_,rfl,(hx3.trans (G2.of (hEE _ _ p4))).trans (G2.putObj hg4),.inl ⟨rfl,St.flat.2 (hs4.putObj _).swap⟩⟩
          |ret=>
            obtain⟨fr2,ds2,rfl,p2,p3,p4,p5,p6⟩:=hq
            have hs4:=p6.swap
            have hg4:=hs4.get
            refine⟨_,_,run_endRound (some .ret) hg4,_,rfl,(hx3.trans (G2.of (hEE _ _ p4))).trans (G2.putObj hg4),.inr ⟨rfl,St.ex.2 ⟨none,St.flat.2 (hs4.putObj _).swap⟩⟩⟩
          |exit j=>
            obtain⟨fr2,ds2,rfl,p2,p3,p4,p5,p6⟩:=hq
            have hs4:=p6.swap
            have hg4:=hs4.get
            refine⟨_,_,run_endRound (some (.exit j)) hg4,_,rfl,(hx3.trans (G2.of (hEE _ _ p4))).trans (G2.putObj hg4),.inr ⟨rfl,St.ex.2 ⟨some j,St.flat.2 (hs4.putObj _).swap⟩⟩⟩
          |goto l=>exact hq.elim
          |panic ch=>exact hq.elim
          |outgrown=>exact hq.elim
        |ret=>obtain⟨_,_,_,_,_,_,_,hh⟩:=hq;grind
        |exit j=>obtain⟨_,_,_,_,_,_,_,hh⟩:=hq;grind
        |goto l=>exact hq.elim
        |panic ch=>exact hq.elim
        |outgrown=>exact hq.elim
end
section
variable{P:Program}{Ty:TypeId->Option dp}{Fn:FuncId->Bool}{E:ahs->ahs->Prop}{N:Nat}{rf:Bool}
theorem V3{v:Value}{a b:Prop}(h:brV v a b):∃t,v=.bool t/\(if t then a else b):=by
 unfold brV at h
 split at h
 ·rename_i c;refine⟨c,rfl,?_⟩;cases c<;>exact h
 simp_all
theorem j_{b:Frame}{a:Act}{k:List Item}{cs:List Frame}{w:ahs}{c:Code}:step P (lone (b.atR a (.code (.scope c)::k)) cs w)=.next (lone (b.atR a (.code c:: .inScope c::k)) cs w):=
 step_lone_go (by rfl)
theorem Jp{b:Frame}{a:Act}{k:List Item}{cs:List Frame}{w:ahs}{c:Code}:step P (lone (b.atR a (.inScope c::k)) cs w)=.next (lone (b.atR a k) cs w):=
 step_lone_go (by rfl)
theorem Qt{F:Fence}{n:Nat}{a:Act}{w:ahs}{Q:Exit->Act->ahs->Prop}{c:Code}(hQ:∀l a w,¬Q (.goto l) a w)(h:c.wpIn F n P Q a w):(Code.scope c).wpIn F n P Q a w:=by
 intro b k cs X hb W;have h0:(lone (b.atR a (.code (.scope c)::k)) cs w).fenced P F:=fenced_calm hb W rfl;obtain⟨e,O,J,U,u⟩:=h b (.inScope c::k) cs X hb W;cases e with
 |normal=>exact⟨.normal,O,J,U,.head h0 j_ (StepsIn.trans u (.one (fenced_calm hb W rfl) Jp))⟩
 |exit id=>
  have hx:exitTo id (.inScope c::k)=exitTo id k:=by rfl
  exact⟨.exit id,O,J,U,λk' hk=>.head h0 j_ (u.1 k' (by simp_all)),
   λV hk=>let⟨k₁,Y,Z⟩:=u.2 V (by simp_all);⟨k₁,Y,.head h0 j_ Z⟩⟩
 |goto l=>simp_all
 |ret=>exact⟨_,O,J,U,.of_steps (.one h0 j_) u⟩
 |panic ch=>exact⟨_,O,J,U,.of_steps (.one h0 j_) u⟩
 |outgrown=>exact⟨_,O,J,U,.of_steps (.one h0 j_) u⟩
theorem Kr{ws:List Nat}{fr fr2:Fr}{lv:List (Nat×S1)}{J:GI (Bh lv) (ahs->Prop)}{w:ahs}{b:Fr->ahs->Prop}
  (hJ:Ka (Bh lv) J (wv fr2 lv) (λ_=>False) w) (hb:∀(d:Nat->Value),Nq (Bh lv) λvs=>∀w,Ka (Bh lv) J vs (λ_=>False) w->b (pR N (uU N d ws fr) lv vs) w):
  b (pR N (uU N (ff fr2) ws fr) lv (wv fr2 lv)) w:=
 Dm (λ_=>False) (λf=>f w) (λh=>h) hJ _ (hb (ff fr2)) w hJ
theorem aer{i j:Nat}{p q:Prop}(h:bif Nat.beq i j then p else q):if i=j then p else q:=by simp_all
def ZC(a:Act):List (Nat×S1)->List Value
 |[]=>[]
 |(s,_)::l=>a.tmps.getD s undef::ZC a l
theorem Sl{fr:Fr}{ds:List Deferred}(hf:Fits N fr):∀lv,ZC (bf N fr ds) lv=wv fr lv
 |[]=>rfl
 |(s,c)::l=>by
  have h1:=ye N fr ds hf s
  show(bf N fr ds).tmps.getD s undef::ZC (bf N fr ds) l=ff fr s::wv fr l
  rw[h1,Sl hf l]
theorem yj(hT:dY P Ty)(hF:rX P Fn)(hE:Jg E)(hm:P.follows .mixedOrders=true)(A:aW):∀(c:Code)(ro:Option Nat)(_:dO c=true->ro=none/\rf=true/\∀a b,E a b->Ev a b)(k:Nat)(fr:Fr)(w:ahs)(n r:Fr->ahs->Prop)(x:Nat->Fr->ahs->Prop),
  den P Ty Fn E N A c fr w n r x->Fits N fr->∀ds,c.wpIn (wf ro) k P (QN rf E N (rK c) fr w ds n r x) (bf N fr ds) w:=by
 have Y:∀w,E w w:=λw=>hE.ofEv _ _ (Ev.refl w);intro c
 induction c with
 |skip=>exactλro U k fr w n r x h hf ds=>wpIn_skip ⟨fr,[],rfl,hf,qj.refl _ _,Y w,Mk.nil _ _,h⟩
 |region id ops draw=>
  intro ro U k fr w n r x h hf ds;exact T7 hT hF hE hm h hf λu w' h1 h2 h3 Z=>⟨u,[],rfl,h1,h2,h3,Mk.nil _ _,Z⟩
 |seq a b iha ihb=>
  intro ro U k fr w n r x h hf ds;have a0:=λ(h:dO a=true)=>U (by grind[dO]);have a6:=λ(h:dO b=true)=>U (by grind[dO]);have sa:∀t∈rK a,t∈rK (.seq a b):=λt ht=>by simp_all[Sf]
  have sb:∀t∈rK b,t∈rK (.seq a b):=λt ht=>by simp_all[Sf]
  refine wpIn_seq ?_
  have key:∀n',den P Ty Fn E N A a fr w n' r x->(∀u w',Fits N u->qj (rK a) fr u->E w w'->n' u w'->∃O,(∀d,bf N O d=bf N u d)/\Fits N O/\qj (rK a) fr O/\den P Ty Fn E N A b O w' n r x)->
    a.wpIn (wf ro) k P (Exit.then (b.wpIn (wf ro) k P (QN rf E N (rK (.seq a b)) fr w ds n r x)) (QN rf E N (rK (.seq a b)) fr w ds n r x)) (bf N fr ds) w:=by
   intro n' hd hn;refine wpIn_mono (iha ro a0 k fr w n' r x hd hf ds) λe a' w' W=>?_;cases e with
   |normal=>
    obtain⟨u,V,rfl,h2,h3,Z,h5,h6⟩:=W;obtain⟨O,g1,g2,g3,g4⟩:=hn u w' h2 h3 Z h6
    show b.wpIn (wf ro) k P _ _ w'
    rw[<-g1];exact wpIn_mono (ihb ro a6 k O w' n r x g4 g2 (V++ds)) λe a w W=>QN.later hE sb (g3.mono sa) Z h5 W
   |ret=>exact QN.mono sa (λ_ _ _ _ h=>h) (λ_ _ h=>h) (λ_ _ _ h=>h) (n:=n') (n':=n') W
   |exit i=>exact QN.mono sa (λ_ _ _ _ h=>h) (λ_ _ h=>h) (λ_ _ _ h=>h) (n:=n') (n':=n') W
   |goto l=>exact W.elim
   |panic ch=>exact W.elim
   |outgrown=>exact W.elim
  simp only[den] at h
  split at h
  ·rename_i lv _;obtain⟨J,h1,h2⟩:=h;refine key _ h1 λu w' g1 g2 g3 g4=>⟨_,λd=>G0 lv d g2,oE lv _ (oO _ hf),Dp lv hf g2,Kr (b:=λfr w=>den P Ty Fn E N A b fr w n r x) g4 h2⟩
  grind
 |cond c a b iha ihb=>
  intro ro U k fr w n r x h hf ds;have a0:=λ(h:dO a=true)=>U (by grind[dO]);have a6:=λ(h:dO b=true)=>U (by grind[dO]);obtain⟨t,ht,h⟩:=V3 h;have he:(bf N fr ds).eval c=.bool t:=by simp_all[Qc]
  refine wpIn_cond he ?_;cases t with
  |true=>exact wpIn_mono (iha ro a0 k fr w n r x h hf ds) λe a w W=>QN.mono (λt ht=>by simp_all[NN]) (λ_ _ _ _ h=>h) (λ_ _ h=>h) (λ_ _ _ h=>h) W
  |false=>exact wpIn_mono (ihb ro a6 k fr w n r x h hf ds) λe a w W=>QN.mono (λt ht=>by simp_all[NN]) (λ_ _ _ _ h=>h) (λ_ _ h=>h) (λ_ _ _ h=>h) W
 |block id a iha=>
  intro ro U k fr w n r x h hf ds;have a0:=λ(h:dO a=true)=>U (by simp_all[dO]);refine wpIn_block ?_
  have key:∀n',den P Ty Fn E N A a fr w n' r (λj fr w=>bif Nat.beq j id then n' fr w else x j fr w)->(∀u w',Fits N u->qj (rK a) fr u->n' u w'->∃O,(∀d,bf N O d=bf N u d)/\Fits N O/\qj (rK a) fr O/\n O w')->
    a.wpIn (wf ro) k P (Exit.inBlock id (QN rf E N (rK (.block id a)) fr w ds n r x)) (bf N fr ds) w:=by
   intro n' hd hn
   have av:∀u V w',Fits N u->qj (rK a) fr u->E w w'->Mk rf w w' V->n' u w'->QN rf E N (rK (.block id a)) fr w ds n r x .normal (bf N u (V++ds)) w':=λu V w' h2 h3 Z h5 h6=>by
    obtain⟨O,g1,g2,g3,g4⟩:=hn u w' h2 h3 h6;exact⟨O,V,(g1 _).symm,g2,g3,Z,h5,g4⟩
   refine wpIn_mono (iha ro a0 k fr w n' r _ hd hf ds) λe a' w' W=>?_;cases e with
   |normal=>obtain⟨u,V,rfl,h2,h3,Z,h5,h6⟩:=W;exact av u V w' h2 h3 Z h5 h6
   |exit i=>
    obtain⟨u,V,rfl,h2,h3,Z,h5,h6⟩:=W;have h6:=aer h6;simp only[Exit.inBlock]
    split
    ·simp_all
    ·rename_i hi;rw[afV hi] at h6;exact⟨u,V,rfl,h2,h3,Z,h5,h6⟩
   |ret=>exact W
   |goto l=>exact W.elim
   |panic ch=>exact W.elim
   |outgrown=>exact W.elim
  simp only[den] at h
  split at h
  ·rename_i lv _;obtain⟨J,h1,h2⟩:=h;refine key _ h1 λu w' g1 g2 g4=>⟨_,λd=>G0 lv d g2,oE lv _ (oO _ hf),Dp lv hf g2,Kr g4 h2⟩
  grind
 |loop a iha=>
  intro ro U k fr w n r x h hf ds;have a0:=λ(h:dO a=true)=>U (by simp_all[dO]);simp only[den] at h
  split at h
  ·rename_i lv _;obtain⟨I,m,h0,hr⟩:=h
   refine wpIn_loop (λa' w'=>∃X V,a'=bf N X (V++ds)/\Fits N X/\qj (rK a) fr X/\E w w'/\Mk rf w w' V/\Ka (Bh lv) I (wv X lv) (λ_=>False) w')
    (λa' w'=>Ka (Bh lv) m (ZC a' lv) (λ_=>0) w') ⟨fr,[],rfl,hf,qj.refl _ _,Y w,Mk.nil _ _,h0⟩ ?_
   rintro _ w'⟨X,V,rfl,h2,h3,Z,h5,h6⟩;have a7:Fits N (pR N (uU N (ff X) (rK a) fr) lv (wv X lv)):=oE lv _ (oO _ hf);have a4:=Dp (N:=N) lv hf h3
   have hb:=Dm (λ_=>False) (λf=>f w') (λh=>h) h6 (λvs=>∀w,Ka (Bh lv) I vs (λ_=>False) w->den P Ty Fn E N A a (pR N (uU N (ff X) (rK a) fr) lv vs) w
    (λu w'=>Ka (Bh lv) I (wv u lv) (λ_=>False) w'/\Ka (Bh lv) m (wv u lv) (λ_=>0) w'<Ka (Bh lv) m vs (λ_=>0) w) r x) (hr (ff X)) w' h6
   have hw:=iha ro a0 k _ w' _ r x hb a7 (V++ds);rw[G0 lv (V++ds) h3] at hw;refine wpIn_mono hw λe a' a8 W=>?_;cases e with
   |normal=>
    obtain⟨b2,aa,rfl,g2,g3,g4,g5,g6,g7⟩:=W;refine⟨⟨b2,aa++V,σ,g2,a4.trans g3,hE.trans Z g4,Mk.trans hE Z g4 h5 g5,g6⟩,?_⟩
    simp_all[Sl]
   |ret=>
    have a5:QN rf E N (rK a) _ w' (V++ds) n r x (.ret) a' a8:=W;exact QN.later hE (λ_ h=>h) a4 Z h5 a5
   |exit i=>
    have a5:QN rf E N (rK a) _ w' (V++ds) n r x (.exit i) a' a8:=W;exact QN.later hE (λ_ h=>h) a4 Z h5 a5
   |goto l=>exact W.elim
   |panic ch=>exact W.elim
   |outgrown=>exact W.elim
  simp_all
 |exit i=>exactλro U k fr w n r x h hf ds=>wpIn_exit ⟨fr,[],rfl,hf,qj.refl _ _,Y w,Mk.nil _ _,h⟩
 |ret=>exactλro U k fr w n r x h hf ds=>wpIn_ret ⟨fr,[],rfl,hf,qj.refl _ _,Y w,Mk.nil _ _,h⟩
 |label l=>exactλro U k fr w n r x h hf ds=>wpIn_label ⟨fr,[],rfl,hf,qj.refl _ _,Y w,Mk.nil _ _,h⟩
 |rangeFunc f ps a b iha ihb=>
  intro ro U k fr w n r x h hf ds;obtain⟨rfl,ad,b1⟩:=U rfl;simp only[den] at h;obtain⟨al,h⟩:=a_.1 h;simp only[afX,ag9] at al
  split at h
  ·rename_i g first cap lv hv hlv
   obtain⟨am,h⟩:=a_.1 h;obtain⟨a9,h⟩:=a_.1 h;exact T8 ad hT hF hE b1 A (λro k=>iha ro (λe=>by simp_all) k) (λro k=>ihb ro (λe=>by simp_all) k) hv a9 am h hf
  simp_all
 |scope a iha=>
  intro ro U k fr w n r x h hf ds;exact Qt (λl a w W=>W.elim) (iha ro (λh=>U (by simp_all[dO])) k fr w n r x h hf ds)
 |goto l=>exactλro U k fr w n r x h hf ds=>h.elim
 |refuse y=>exactλro U k fr w n r x h hf ds=>h.elim
end
section
variable{P:Program}{Ty:TypeId->Option dp}{Fn:FuncId->Bool}{E:ahs->ahs->Prop}{N:Nat}
theorem V4{w w':ahs}(h:hp w'=hp w){a:Addr}{i:dp}{v:Value}(hl:qh w a i v):qh w' a i v:=by grind[qh,Nk,cD]
def aes(tmps:Array Value):ResultVar->Sem Value
 |.tmp t=>pure (tmps.getD t undef)
 |.cell a t=>do loadVar t (<-asAddr (tmps.getD a undef))
theorem go_sound(hT:dY P Ty){fr:Fr}{ds:List Deferred}{w:ahs}(hf:Fits N fr):∀(l:List ResultVar)(k:List Value->Prop),Jj.go Ty fr w l k->
  ∃vs,(∀w',hp w'=hp w->(l.mapM (aes (bf N fr ds).tmps)).run P w'=.ok vs w')/\k vs
 |[],k,h=>⟨[],λw' _=>rfl,h⟩
 |.tmp t::l,k,h=>by
  obtain⟨vs,h1,h2⟩:=go_sound hT hf l _ h
  refine⟨_,λw' hw=>?_,h2⟩
  rw[List.mapM_cons,Sem.run_bind]
  show(Sem.run P (pure ((bf N fr ds).tmps.getD t undef)) w').andThen _=_
  simp only[Sem.run_pure,Result.andThen_ok,Sem.run_bind]
  rw[h1 w' hw,ye N fr ds hf]
  simp
 |.cell a t::l,k,h=>by
  unfold Jj.go at h
  split at h
  ·rename_i p i ha hi
   obtain⟨ad,hp',h5⟩:=Bq h
   subst hp'
   obtain⟨v,hl,h6⟩:=Nw h5
   obtain⟨vs,h1,h2⟩:=go_sound hT hf l _ h6
   refine⟨_,λw' hw=>?_,h2⟩
   rw[List.mapM_cons,Sem.run_bind]
   show(Sem.run P (do loadVar t (<-asAddr ((bf N fr ds).tmps.getD a undef))) w').andThen _=_
   simp only[Sem.run_bind,ye N fr ds hf,ha,asAddr,Sem.run_pure,Result.andThen_ok]
   rw[Kf hT hi (V4 hw hl)]
   simp only[Result.andThen_ok]
   rw[h1 w' hw]
   simp
  simp_all
theorem Dq(hT:dY P Ty){fn:Func}{fr:Fr}{ds:List Deferred}{w:ahs}(hf:Fits N fr){R:Value->Prop}(h:Jj P Ty fn.results.toList fr w R):
  ∃v,(∀w',hp w'=hp w->(results fn (bf N fr ds).tmps).run P w'=.ok v w')/\R v:=by
 obtain⟨vs,O,u⟩:=go_sound (ds:=ds) hT hf _ _ h
 refine⟨if h:vs.length=1 then vs[0] else .tuple ⟨vs⟩,λw' U=>?_,?_⟩
 ·have J:results fn (bf N fr ds).tmps=(do let vs<-fn.results.mapM (aes (bf N fr ds).tmps);pure (if h:vs.size=1 then vs[0] else .tuple vs)):=by rfl
  rw[J,Array.mapM_eq_mapM_toList,map_eq_pure_bind]
  simp_all
 ·split at u
  ·simpa using u
  ·rename_i hne
   split
   ·rename_i hl;cases vs with
    |nil=>simp at hl
    |cons v l=>cases l with
     |nil=>exact absurd rfl (hne v)
     |cons _ _=>simp at hl
   ·exact u
theorem ES{F:Fence}{n:Nat}{fn:Func}{tmps:Array Value}{R:Ending->ahs->Prop}{w0:ahs}(hE:Jg E):∀(Ds:List Nat)(w:ahs),Ds.Nodup->(∀D∈Ds,w0.heap.size<=D/\w.heap[D]? =some (Obj.deferred (some [])))->Ev w0 w->
  (∀w',hp w'=hp w->Ev w0 w'->∃v,(results fn tmps).run P w'=.ok v w'/\R (.returned v) w')->LeavesInM F n P fn tmps R (Ds.map Vn) .returning w
 |[],w,_,_,he,h=>h w rfl he
 |D::Ds,w,hn,hD,he,h=>by
  obtain⟨h1,h2⟩:=hD D σ
  rw[agB] at hn
  refine⟨σ,.inl ⟨D,_,rfl,run_takeDeferred h2,?_⟩⟩
  have hhp:hp (w.putObj D (.deferred none))=hp w:=Zp h2
  have he':Ev w0 (w.putObj D (.deferred none)):=by
   refine⟨he.os,he.tape,he.output,by simpa using he.size,λb d hb=>?_,λb d hb=>?_⟩
   ·rw[World.putObj_heap_other];exact he.dfr _ _ hb
    grind
   ·rw[World.putObj_heap_other];exact he.lop _ _ hb
    grind
  refine ES hE Ds _ hn.2 (λD' h'=>?_) he' λw' g1 g2=>h w' (g1.trans hhp) g2
  grind[World.putObj_heap_other]
theorem wD:∀(l:List Value)(i t:Nat),ff (Ff i l) t=if i<=t then(l[t-i]?).getD undef else undef
 |[],i,t=>by simp[Ff,ff]
 |v::l,i,t=>by
  simp only[Ff]
  rw[Dc,wD l (i+1) t]
  grind
theorem V5(hT:dY P Ty)(hF:rX P Fn)(hm:P.follows .mixedOrders=true){f:FuncId}{fn:Func}(hfn:P.funcs[f]? =some fn)(A:aW)(hE:Jg E)
  (hro:(match fn.body with|some c=>dO c|none=>false)=true->∀a b,E a b->Ev a b) {args:List Value} {w:ahs} {R:Value->ahs->Prop}
  (h:Zk P Ty Fn E A fn args w R):iK P E f args w R:=by
 unfold Zk at h;cases hb:fn.body with
 |none=>rw[hb] at h;exact h.elim
 |some c=>
  rw[hb] at h hro;dsimp only at h hro;obtain⟨W,h⟩:=fi h;have W:=Lk _ _ W;refine callsIn_wide.1 (callsIn_of_wp_marks (F:=Fence.wide) (n:=0) hfn hb trivial ?_)
  have ha:({ tmps:=(⟨args⟩:Array Value)++Array.replicate (fn.ntmps-(⟨args⟩:Array Value).size) undef,defers:=[] }:Act)=bf fn.ntmps (Ff 0 args) []:=by
   simp only[bf,Act.mk.injEq,and_true];apply ag0;apply agq
   grind[Array.toList_append,Array.toList_replicate,List.getElem?_append_left,List.getElem?_range,wD,List.getElem?_append_right,List.getElem?_eq_none,List.range]
  rw[ha]
  have V:Fits fn.ntmps (Ff 0 args):=λt ht=>by
   rw[wD,afZ (afL _),agl ω];rfl
  have fin:∀u w',(∃fr J,u=bf fn.ntmps fr (J++[])/\Fits fn.ntmps fr/\qj (rK c) (Ff 0 args) fr/\E w w'/\Mk (dO c) w w' J/\Jj P Ty fn.results.toList fr w' λv=>Qj c R v w')->
    LeavesInM Fence.wide 0 P fn u.tmps (λe w'=>∃v,e=.returned v/\E w w'/\R v w') u.defers .returning w':=by
   rintro u w'⟨fr,J,rfl,h1,h2,h3,⟨h0,O,rfl,h4,h5⟩,h6⟩;obtain⟨v,g1,g2⟩:=Dq (ds:=(O.map Vn)++[]) hT h1 h6
   show LeavesInM Fence.wide 0 P fn (bf fn.ntmps fr (O.map Vn++[])).tmps _ (O.map Vn++[]) .returning w'
   cases hrf:dO c with
   |true=>
    have Y:=hro hrf;simp only[Qj,hrf,cond_true] at g2;generalize (bf fn.ntmps fr (O.map Vn++[])).tmps=tm at g1;rw[agc];exact ES hE O w' h4 h5 (Y _ _ h3) λw2 Z k2=>⟨v,g1 w2 Z,v,rfl,hE.ofEv _ _ k2,g2 w2 Z⟩
   |false=>
    simp only[Qj,hrf,cond_false] at g2;have hd:=h0 hrf;generalize (bf fn.ntmps fr (O.map Vn++[])).tmps=tm at g1;rw[hd];exact⟨v,g1 w' rfl,v,rfl,h3,g2⟩
  refine wpIn_mono (yj hT hF hE hm A c none (λX=>⟨rfl,X,hro X⟩) 0 _ w _ _ _ h V []) λe u w' U=>?_;cases e with
  |normal=>exact fin u w' U
  |ret=>exact fin u w' U
  |exit i=>obtain⟨_,_,_,_,_,_,_,X⟩:=U;simp_all
  |goto l=>exact U.elim
  |panic ch=>exact U.elim
  |outgrown=>exact U.elim
def Qu(fn:Func):Bool:=match fn.body with|some c=>dO c|none=>false
theorem V6(hT:dY P Ty)(hF:rX P Fn)(hm:P.follows .mixedOrders=true){f:FuncId}{fn:Func}(hfn:P.funcs[f]? =some fn)(A:aW){args:List Value}{w:ahs}{R:Value->ahs->Prop}
  (h:Zk P Ty Fn Ev A fn args w R):aw P f args w R:=V5 hT hF hm hfn A ab5 (λ_ _ _ h=>h) h
theorem ZD(hT:dY P Ty)(hF:rX P Fn)(hm:P.follows .mixedOrders=true){f:FuncId}{fn:Func}(hfn:P.funcs[f]? =some fn)(A:aW)(hE:Jg E)(hb:Qu fn=false){args:List Value}{w:ahs}{R:Value->ahs->Prop}
  (h:Zk P Ty Fn E A fn args w R):iK P E f args w R:=V5 hT hF hm hfn A hE (λh=>absurd (hb.symm.trans h) σ) h
end
abbrev WP:=ahs->Prop
abbrev lP(l:List (Nat×S1)):=GI (Bh l) (ahs->Prop)
abbrev lN(l:List (Nat×S1)):=GI (Bh l) (ahs->Nat)
abbrev aN:S1:=S1.one (Cs.int IntKind.i64)
abbrev lY:S1:=S1.one Cs.slice
abbrev Bw:S1:=S1.one Cs.bool
abbrev iI(n:Int):Value:=.int .i64 n
abbrev vS(a:ahr)(l c:Nat):Value:=.slice a l c
abbrev vP(a:ahr):Value:=.pointer a
abbrev vB(b:Bool):Value:=.bool b
abbrev vA(a:Array Value):Value:=.agg a
abbrev vG(l:List Value):Value:=.agg (Array.mk l)
abbrev vT(a:Array Value):Value:=.tuple a
abbrev aM(k:Nat):Addr:=⟨k,0,none⟩
abbrev oC(l:List Value)(t:TypeId):Obj:=.cells (Array.mk l) t
abbrev fX(t:TypeId)(xs:Array Value):Sem Value:=Builtin.append_ (Array.mk [t,t]) t xs
def az(b:Nat)(vs:List Value):aC:=λh=>∃e,h b=some (.cells ⟨vs⟩ e (0,0))
section
variable{P:Program}{w w':ahs}{L:List aC}{b:Nat}{vs:List Value}{e:TypeId}{A B C D:aC}
theorem jF:St w (az b vs::L)↔∃e,St w (blk b (.cells ⟨vs⟩ e (0,0))::L):=
 ⟨λ⟨J,u,d,s1,s2,⟨e,ha⟩,hl⟩=>⟨e,J,u,d,s1,s2,ha,hl⟩,λ⟨e,J,u,d,s1,s2,ha,hl⟩=>⟨J,u,d,s1,s2,⟨e,ha⟩,hl⟩⟩
theorem St.cell(h:St w (az b vs::L))(i:Nat):w.cell? ⟨b,i,none⟩=vs[i]?:=by
 obtain⟨e,h⟩:=jF.1 h;have:=h.get
 simp_all[World.cell?]
theorem St.frozen(h:St w (az b vs::L))(i:Nat)(s:Option _):w.frozen? ⟨b,i,s⟩=false:=by
 obtain⟨e,h⟩:=jF.1 h;have:=h.get
 simp_all[World.frozen?]
theorem St.acj(h:St w (az b vs::L))(i:Nat)(v:Value):St (w.setCell ⟨b,i,none⟩ v) (az b (vs.set i v)::L):=by
 obtain⟨e,h⟩:=jF.1 h;have:=St.setCell h i v
 grind[jF]
theorem nI{o:Obj}{k:Nat->ahs->Prop}(h:St w L)(hk:∀b w',St w' (blk b o::L)->k b w')(ho:Nh o=true:=by rfl):new w o k:=
 λb w' hb u=>by subst hb;subst u;exact hk _ _ (h.push o ho)
theorem ag{k:Nat->ahs->Prop}(h:St w L)(hk:∀b w',St w' (az b vs::L)->k b w'):new w (.cells (Array.mk vs) e) k:=nI h λb w' h=>hk b w' (jF.2 ⟨_,h⟩)
theorem aR{i:Nat}{v:Value}{k:ahs->Prop}(h:St w (az b vs::L))(hi:i<vs.length)(hk:∀w',St w' (az b (vs.set i v)::L)->k w')(hv:aK v=true:=by rfl):st1 w ⟨b,i,none⟩ v k:=
 ⟨⟨vs[i],by rw[h.cell];simp⟩,h.frozen i none,hv,λw' u=>by subst u;exact hk _ (h.acj i v)⟩
theorem St.setCells:∀(news pre post:List Value){w:ahs},news.length<=post.length->St w (az b (pre++post)::L)->St (w.setCells b pre.length news) (az b (pre++news++post.drop news.length)::L)
 |[],pre,post,w,_,h=>by simp_all[World.setCells]
 |v::r,pre,[],w,hl,h=>by simp_all
 |v::r,pre,p::post,w,hl,h=>by
  have h1:=h.acj pre.length v
  have e1:(pre++p::post).set pre.length v=(pre++[v])++post:=σ
  rw[e1] at h1
  have h2:=St.setCells r (pre++[v]) post (by simpa using hl) h1
  have e2:(pre++[v]).length=pre.length+1:=σ
  rw[e2] at h2
  simpa[World.setCells] using h2
theorem add_lit(b o j:Nat):(⟨b,o,none⟩:Addr).add j=⟨b,o+j,none⟩:=by simp[Addr.add]
theorem ak(b j:Nat):(⟨b,0,none⟩:Addr).add j=⟨b,j,none⟩:=by simp[add_lit]
theorem add_add(a:Addr)(i j:Nat):(a.add i).add j=a.add (i+j):=by grind[Addr.add,Nat.add_assoc]
def own(sz:Nat)(a:ahr)(l c:Nat)(vs:List Value):aC:=λh=>
 (a=none/\l=0/\c=0/\vs=[])\/∃b pre cs post,a=some ⟨b,List.length pre,none⟩/\az b (pre++(vs++(cs++post))) h/\vs.length=l*sz/\(vs++cs).length=c*sz/\l<=c
theorem aI(sz:Nat)(h:St w L):St w (own sz none 0 0 []::L):=
 ⟨λ_=>none,hp w,λ_=>.inl rfl,λ_ _ h=>(nomatch h),sZZ,.inl ⟨rfl,rfl,rfl,rfl⟩,h⟩
theorem dq{sz l c:Nat}{a:ahr}(h:St w (own sz a l c vs::L)):
  (a=none/\l=0/\c=0/\vs=[])\/∃b pre cs post,a=some ⟨b,List.length pre,none⟩/\St w (az b (pre++(vs++(cs++post)))::L)/\vs.length=l*sz/\(vs++cs).length=c*sz/\l<=c:=by
 obtain⟨U,J,d,s1,s2,ha,hl⟩:=h
 rcases ha with ha|⟨b,pre,cs,post,V,u,X,O,W⟩
 ·simp_all
 ·exact .inr ⟨b,pre,cs,post,V,⟨U,J,d,s1,s2,u,hl⟩,X,O,W⟩
theorem fj{sz l c:Nat}{pre cs post:List Value}(h:St w (az b (pre++(vs++(cs++post)))::L))(h1:vs.length=l*sz)(h2:(vs++cs).length=c*sz)(h3:l<=c):St w (own sz (some ⟨b,pre.length,none⟩) l c vs::L):=
 h.head λh ha=>.inr ⟨b,pre,cs,post,rfl,ha,h1,h2,h3⟩
theorem bj{sz l c:Nat}{cs:List Value}(h:St w (az b (vs++cs)::L))(h1:vs.length=l*sz)(h2:(vs++cs).length=c*sz)(h3:l<=c):St w (own sz (some ⟨b,0,none⟩) l c vs::L):=
 fj (pre:=[]) (post:=[]) (by simp_all) h1 h2 h3
theorem fO{sz l c:Nat}{a:ahr}(h:St w (own sz a l c vs::L)):vs.length=l*sz:=by
 rcases dq h with⟨_,rfl,_,rfl⟩|⟨_,_,_,_,_,_,h,_⟩
 ·simp
 omega
theorem bI{sz l c:Nat}{a:ahr}(h:St w (own sz a l c vs::L)):l<=c:=by
 rcases dq h with⟨_,rfl,_,rfl⟩|⟨_,_,_,_,_,_,_,_,h⟩
 ·omega
 omega
theorem cH{sz l c:Nat}{a:ahr}(h:St w (own sz a l c vs::L)){j:Nat}{v:Value}(hj:vs[j]? =some v):∃ad,a=some ad/\w.cell? (ad.add j)=some v:=by
 rcases dq h with⟨_,_,_,rfl⟩|⟨b,J,cs,u,rfl,h,_⟩
 ·simp_all
 ·refine⟨_,rfl,?_⟩;rw[add_lit,h.cell,agf ω,agy,af5 (afK.1 hj).1];omega
theorem ZE{t tx ty:TypeId}{i:TypeInfo}{z:Value}(ht:P.underlying t=some (.slice e))(hi:P.info? e=some i)(hz:i.zero=some z)(hzs:z.cells.size=i.size)
  {a:ahr} {l c:Nat} (h:St w (own i.size a l c vs::L)) {x:Value} {n:Nat} {news:List Value} (hs:Src P i.size tx x n news w) (hb:(l+n)*i.bytes<=140737488355328) (h63:l+n<=9223372036854775807):
  aX P (Builtin.append_ (Array.mk [t,tx]) ty (Array.mk [vS a l c,x])) w λv w'=>∃a' c',v=vS a' (l+n) c'/\St w' (own i.size a' (l+n) c' (vs++news)::L):=by
 have a4:=hs.newsLen
 have U:c<l+n->(Builtin.firstCells i.size l (vS a l c)).run P w.drew=.ok vs.toArray w.drew->(vs.length=l*i.size)->St w L->
   aX P (Builtin.append_ (Array.mk [t,tx]) ty (Array.mk [vS a l c,x])) w λv w'=>∃a' c',v=vS a' (l+n) c'/\St w' (own i.size a' (l+n) c' (vs++news)::L):=by
  intro hg W Y hL;have hr:=run_append_grow_src (P:=P) w t tx ty e i z ht hi hz a l c vs W x n news hs hg ω (growslice_fits hg hb);refine⟨_,_,hr,(Ev.drew w _).trans (Ev.push _ _),_,_,rfl,?_⟩;have a0:=grownCap_ge w (l+n) c e;have V:St w.drew L:=hL.same rfl;have Z:=V.push (.cells ((vs++news).toArray++Builtin.zeroCells z.cells (grownCap w (l+n) c e-(l+n))) e)
  have h3:St (w.drew.alloc (.cells ((vs++news).toArray++Builtin.zeroCells z.cells (grownCap w (l+n) c e-(l+n))) e)) (az w.heap.size ((vs++news)++(Builtin.zeroCells z.cells (grownCap w (l+n) c e-(l+n))).toList)::L):=by
   have:((vs++news).toArray++Builtin.zeroCells z.cells (grownCap w (l+n) c e-(l+n)))=⟨(vs++news)++(Builtin.zeroCells z.cells (grownCap w (l+n) c e-(l+n))).toList⟩:=σ
   rw[this] at Z ⊢;exact jF.2 ⟨_,Z⟩
  refine bj h3 ?_ ?_ a0
  ·grind
  ·rw[afS,afS,Y,a4,<-Nat.add_mul,ahq,size_zeroCells,hzs,<-Nat.add_mul]
   simp_all
 rcases dq h with⟨rfl,rfl,rfl,rfl⟩|⟨b,J,cs,u,rfl,hc,V,Z,h3⟩
 ·rcases Nat.eq_zero_or_pos n with rfl|hn
  ·have:news=[]:=afY ω;subst this;refine⟨.slice none 0 0,w,?_,Ev.refl w,none,0,rfl,h⟩;rcases hs.kind with⟨e',hk⟩|hk<;>simp[Builtin.append_,run_underlying ht,run_underlying hk,sizeOf,typeInfo,hi,hs.len,hs.cells]
  ·exact U ω (run_firstCells_none w.drew _ _ _ _) σ h.tail
 ·by_cases O:l+n<=c
  ·have a5:news.length<=cs.length:=by
    have h4:(l+n)*i.size<=c*i.size:=ag2 _ O
    grind
   have hr:=run_append_room_src (P:=P) w t tx ty e i ht hi b J.length l c x n news hs O
    (λj X=>by
     rw[hc.cell,<-V]
     grind)
    (λj X=>hc.frozen _ _)
   have e0:J++(vs++(cs++u))=(J++vs)++(cs++u):=σ
   rw[e0] at hc;have h5:=hc.setCells news (J++vs) (cs++u) (by grind);rw[afS,V] at h5
   refine⟨_,_,hr,?_,_,_,rfl,?_⟩
   ·have:∀(news:List Value)(w0 w:ahs)(o:Nat),Ev w0 w->Ev w0 (w.setCells b o news):=by
     intro news
     induction news with
     |nil=>exactλ_ _ _ h=>h
     |cons v r ih=>exactλw0 w o h=>ih w0 _ (o+1) (h.trans (Ev.setCell w _ v))
    grind[Ev.refl]
   ·have e1:(J++vs)++news++(cs++u).drop news.length=J++((vs++news)++(cs.drop news.length++u)):=by grind
    grind[fj,List.length_append,Nat.add_mul,List.length_drop]
  ·refine U ω (run_firstCells_some w.drew _ _ _ _ _ _ V λj v X=>?_) V h.tail;rw[add_lit];have:=hc.cell (J.length+j);rw[agf ω,agy,af5 (afK.1 X).1,X] at this
   simp_all
theorem ja{Ty:TypeId->Option dp}(hT:dY P Ty){t tx ty:TypeId}{i:dp}{z:Value}(hk:ai Ty t=.slice e)(hi:Ty e=some i)(hz:i.zero=some z)(hzs:(cellsOf z).length=i.size)
  {a:ahr} {l c:Nat} (h:St w (own i.size a l c vs::L)) {x:Value} {n:Nat} {news:List Value} (hs:Src P i.size tx x n news w) (hb:(l+n)*i.bytes<=140737488355328) (h63:l+n<=9223372036854775807):
  aX P (Builtin.append_ (Array.mk [t,tx]) ty (Array.mk [vS a l c,x])) w λv w'=>∃a' c',v=vS a' (l+n) c'/\St w' (own i.size a' (l+n) c' (vs++news)::L):=by
 obtain⟨d,U,O⟩:=dv hT hk σ;rw[fh O] at U;obtain⟨u,d2,ha⟩:=rU hT hi;have J:z.cells.size=u.size:=by rw[<-ha.size,<-hzs,dP];simp
 rw[ha.size] at*;rw[ha.bytes] at hb;exact ZE U ha.inf (by rw[<-ha.zero,hz]) J h hs hb h63
theorem gk{Ty:TypeId->Option dp}(hT:dY P Ty){tx e':TypeId}(hk:ai Ty tx=.slice e'){size:Nat}{a:ahr}{n c:Nat}{news:List Value}(hl:news.length=n*size)
  (hn:n=0\/∃ad,a=some ad/\∀j u,news[j]? =some u->w.cell? (ad.add j)=some u) (h1:∀u∈news,aK u=true):Src P size tx (vS a n c) n news w:=by
 obtain⟨d,O,J⟩:=dv hT hk σ;rw[fh J] at O;cases a with
 |none=>
  rcases hn with rfl|⟨ad,h,_⟩
  ·simp_all[afY,Src.ofNil]
  simp_all
 |some ad=>
  refine Src.ofSlice w O ad n c news hl ?_ λu U=>by simp_all[Lu]
  grind
end
theorem wrap_u64(n:Nat)(h:n<2^64):IntKind.u64.wrap (n:Int)=n:=by grind[Int.emod_eq_of_lt,IntKind.wrap,IntKind.signed,IntKind.bits]
theorem NQ(n:Nat):BitVec.ofInt 64 (n:Int)=BitVec.ofNat 64 n:=by rfl
theorem G3{a b:Nat}(ha:a<2^64)(hb:b<2^64):oM .and .u64 (a:Int) (b:Int)=((a&&& b:Nat):Int):=by
 show IntKind.u64.wrap (((BitVec.ofInt 64 (a:Int))&&& (BitVec.ofInt 64 (b:Int))).toNat:Int)=_
 grind[NQ,BitVec.toNat_and,BitVec.toNat_ofNat,Nat.mod_eq_of_lt,wrap_u64,Nat.and_lt_two_pow]
theorem ZF{a b:Nat}(ha:a<2^64)(hb:b<2^64):oM .or .u64 (a:Int) (b:Int)=((a|||b:Nat):Int):=by
 show IntKind.u64.wrap (((BitVec.ofInt 64 (a:Int))|||(BitVec.ofInt 64 (b:Int))).toNat:Int)=_
 grind[NQ,BitVec.toNat_or,BitVec.toNat_ofNat,Nat.mod_eq_of_lt,wrap_u64,Nat.or_lt_two_pow]
theorem V7{s:Nat}(h:s<64):VD .u64 1 (s:Int)=((2^s:Nat):Int):=by
 simp only[VD,IntKind.bits,afU,Int.one_mul];rw[ahk ω];have u:((2:Int)^s)=((2^s:Nat):Int):=σ
 rw[u,wrap_u64 _ (Nat.pow_lt_pow_right ω h)]
theorem G4{n s:Nat}(h:s<64):aZ .u64 (n:Int) (s:Int)=((n/2^s:Nat):Int):=by grind[aZ,IntKind.bits,Int.toNat_natCast,Nat.min_eq_left,Int.fdiv_eq_ediv_of_nonneg,Int.natCast_nonneg]
theorem z7(k:Nat):Int.tdiv (k:Int) 64=((k/64:Nat):Int):=by rfl
theorem Qv(k:Nat):Int.tmod (k:Int) 64=((k%64:Nat):Int):=by rfl
theorem NR{n s:Nat}(hn:n<2^64)(h:s<64):(oM .and .u64 (aZ .u64 (n:Int) (s:Int)) 1==1)=n.testBit s:=by
 rw[G4 h];have:(1:Int)=((1:Nat):Int):=rfl;rw[this,G3 (Nat.lt_of_le_of_lt (Nat.div_le_self _ _) hn) ω]
 grind
def Jq(P:Program)(E:ahs->ahs->Prop)(g:FuncId)(args:List Value)(w:ahs)(R:ahs->Prop):Prop:=
 CallsDIn Fence.wide 0 P g ⟨args⟩ .returning w λe u' w'=>∃v,e=.returned v/\u'=.returning/\E w w'/\R w'
def aet(N:Nat)(o1 o2:Oper)(fr:Fr)(K:FuncId->List Value->Fr->Prop):Prop:=
 match o1.op,o1.dst,o1.guard,o2.op,o2.dst,o2.guard with
 |.makeFunc (.func g) first cap,some d,none,.defer c,none,none=>(match c.callee,first.toList,c.args.toList with
  |.value (.tmp t),[],[]=>oN (Nat.beq t d&&Nat.ble (d+1) N) (K g (nj fr cap.toList) ((d,.func (.func g) ⟨[]⟩ ⟨nj fr cap.toList⟩)::fr))
  |_,_,_=>False)
 |_,_,_,_,_,_=>False
def fnD(P:Program)(Ty:TypeId->Option dp)(Fn:FuncId->Bool)(E:ahs->ahs->Prop)(A:aW)(fn:Func)(args:List Value)(w:ahs)(R:Value->ahs->Prop):Prop:=
 match fn.body with
 |some (.seq a (.seq (.region _ ops false) b))=>(match ops.toList with
  |[o1,o2]=>bif leL args fn.ntmps&&(!dO a&& !dO b) then
    den P Ty Fn E fn.ntmps A a (Ff 0 args) w (λa c=>aet fn.ntmps o1 o2 a λa d e=>oN (Fn a)
     (den P Ty Fn E fn.ntmps A b e c (λb c=>Jq P E a d c λa=>Jj P Ty fn.results.toList b a λb=>R b a)
      (λb c=>Jq P E a d c λa=>Jj P Ty fn.results.toList b a λb=>R b a) λ_ _ _=>False)) (λ_ _=>False) (λ_ _ _=>False)
   else False
  |_=>False)
 |_=>False
section
variable{P:Program}{Ty:TypeId->Option dp}{Fn:FuncId->Bool}{E:ahs->ahs->Prop}{N:Nat}
theorem NS(args:List Value)(n:Nat)(hle:args.length<=n):({ tmps:=(⟨args⟩:Array Value)++Array.replicate (n-(⟨args⟩:Array Value).size) undef,defers:=[] }:Act)=bf n (Ff 0 args) []:=by
 simp only[bf,Act.mk.injEq,and_true];apply ag0;apply agq;intro i;simp only[Array.toList_append,Array.toList_replicate,afQ]
 grind[List.getElem?_append_left,List.getElem?_range,wD,List.getElem?_append_right,List.getElem?_eq_none,List.range]
theorem Ks{args:List Value}{n:Nat}(hle:args.length<=n):Fits n (Ff 0 args):=λt ht=>by
 rw[wD,afZ (afL _),agl ω];rfl
theorem ZG(hT:dY P Ty)(hF:rX P Fn)(hm:P.follows .mixedOrders=true){f:FuncId}{fn:Func}(hfn:P.funcs[f]? =some fn)(A:aW)(hE:Jg E)(hb:Qu fn=false){args:List Value}{w:ahs}{R:ahs->Prop}
  (h:Zk P Ty Fn E A fn args w λ_ w=>R w):Jq P E f args w R:=by
 unfold Zk at h;cases hbd:fn.body with
 |none=>simp_all
 |some c=>
  have W:dO c=false:=by simp_all[Qu]
  rw[hbd] at h;dsimp only at h;obtain⟨J,h⟩:=fi h;have J:=Lk _ _ J;refine CallsDIn.mono (callsDIn_of_wp (F:=Fence.wide) (n:=0) (R:=λe w'=>∃v,e=.returned v/\E w w'/\R w') hfn hbd trivial ?_) λe u' w' ⟨hu,v,he,X,Y⟩=>⟨v,he,hu,X,Y⟩;rw[NS args _ J]
  have fin:∀O w',(∃fr U,O=bf fn.ntmps fr (U++[])/\Fits fn.ntmps fr/\qj (rK c) (Ff 0 args) fr/\E w w'/\Mk false w w' U/\Jj P Ty fn.results.toList fr w' λv=>Qj c (λ_ w=>R w) v w')->
    O.defers=[]/\∃v,(results fn O.tmps).run P w'=.ok v w'/\∃v',Ending.returned v=.returned v'/\E w w'/\R w':=by
   rintro O w'⟨fr,U,rfl,X,Y,h3,⟨h0,_⟩,h6⟩;have hd:=h0 rfl;subst hd;obtain⟨v,g1,g2⟩:=Dq (ds:=[]) hT X h6;simp only[Qj,W,cond_false] at g2;exact⟨rfl,v,g1 w' rfl,v,rfl,h3,g2⟩
  refine wpIn_mono (yj (rf:=false) hT hF hE hm A c none (λZ=>absurd (W.symm.trans Z) σ) 0 _ w _ _ _ h (Ks J) []) λe O w' V=>?_;cases e with
  |normal=>exact fin O w' V
  |ret=>exact fin O w' V
  |exit i=>obtain⟨_,_,_,_,_,_,_,Z⟩:=V;simp_all
  |goto l=>exact V.elim
  |panic ch=>exact V.elim
  |outgrown=>exact V.elim
theorem ZH(hT:dY P Ty)(hF:rX P Fn)(hm:P.follows .mixedOrders=true){f:FuncId}{fn:Func}(hfn:P.funcs[f]? =some fn)(A:aW)(hE:Jg E){args:List Value}{w:ahs}{R:Value->ahs->Prop}
  (h:fnD P Ty Fn E A fn args w R):iK P E f args w R:=by
 unfold fnD at h
 split at h
 ·rename_i a id ops b hbd
  split at h
  ·rename_i o1 o2 hops;obtain⟨J,h⟩:=fi h;simp only[afX,ag9] at J;obtain⟨J,ra,rb⟩:=J;have J:=Lk _ _ J;refine callsIn_wide.1 (callsIn_of_wp_marks (F:=Fence.wide) (n:=0) hfn hbd trivial ?_);rw[NS args _ J];have ba:∀w,E w w:=λw=>hE.ofEv _ _ (Ev.refl w);refine wpIn_seq ?_;refine wpIn_mono (yj (rf:=false) hT hF hE hm A a none (λhh=>absurd (ra.symm.trans hh) σ) 0 _ w _ _ _ h (Ks J) []) λe Y W U=>?_;cases e with
   |ret=>obtain⟨_,_,_,_,_,_,_,hh⟩:=U;simp_all
   |exit i=>obtain⟨_,_,_,_,_,_,_,hh⟩:=U;simp_all
   |goto l=>exact U.elim
   |panic ch=>exact U.elim
   |outgrown=>exact U.elim
   |normal=>
    obtain⟨fr,V,rfl,h1,_,b4,⟨h0,_⟩,X⟩:=U;have hd:=h0 rfl;subst hd
    show(Code.seq (.region id ops false) b).wpIn (wf none) 0 P _ (bf fn.ntmps fr []) W
    obtain⟨b6,bc,aa,a7,b1,bi⟩:=o1;obtain⟨b7,bl,am,a4,b2,be⟩:=o2;unfold aet at X;dsimp only at X
    split at X
    ·rename_i g first cap d c _
     split at X
     ·rename_i t hcal hfst hargs;obtain⟨hc,X⟩:=a_.1 X;simp only[afX,Nat.ble_eq] at hc;obtain⟨Z,bb⟩:=hc;have Z:=ahe Z;subst Z;obtain⟨hg,X⟩:=a_.1 X;obtain⟨callee,a0,a6⟩:=c;dsimp only at hcal hargs;subst hcal;have ad:first=#[]:=by simp_all
      have b5:a0=#[]:=by simp_all
      subst ad b5;have b8:cap.map (ev fr)=⟨nj fr cap.toList⟩:=by grind[Db,Array.ext']
      refine wpIn_seq (wpIn_region_list ?_);rw[hops]
      have a9:put fn.ntmps fr (some t) (.func (.func g) ⟨[]⟩ ⟨nj fr cap.toList⟩)=(t,.func (.func g) ⟨[]⟩ ⟨nj fr cap.toList⟩)::fr:=by
       rw[GF,afZ ω]
      have a8:Fits fn.ntmps ((t,.func (.func g) ⟨[]⟩ ⟨nj fr cap.toList⟩)::fr):=by grind[wm]
      have b3:(bf fn.ntmps fr []).eval=ev fr:=F5 _ _ _ h1;have e1:(execOp (ev fr) { dst:=some t,op:=.makeFunc (.func g) #[] cap,type:=aa,pos:=a7,after:=b1,guard:=none }).run P W=.ok (.value (.func (.func g) ⟨[]⟩ ⟨nj fr cap.toList⟩)) W:=by simp_all[execOp,Instr.makeFunc]
      have e2:(execOp (ev ((t,.func (.func g) ⟨[]⟩ ⟨nj fr cap.toList⟩)::fr)) { dst:=none,op:=.defer { callee:=.value (.tmp t),args:=#[],argTypes:=a6 },type:=am,pos:=a4,after:=b2,guard:=none }).run P W=.ok (.defer { target:=.fn (.func g) ⟨nj fr cap.toList⟩,args:=#[] }) W:=by simp[execOp,resolve,ev,ff,Deferred.ofValue]
      have a5:∀(al:List Oper)(tm:Array Value)(o:Oper),o.guard=none->Region.wanted o (yielded ⟨al⟩ tm)=true:=λal tm o h=>by simp_all[Region.wanted]
      simp only[wpListIn];rw[afZ (a5 _ _ _ rfl)];refine⟨λ_ _=>trivial,?_⟩;rw[show(wf none).round=none from rfl,semAt_eq σ,b3,e1,Oper.uponIn_value,F6,a9];rw[afZ (a5 _ _ _ rfl)];refine⟨λ_ _=>trivial,?_⟩;rw[F5 _ _ _ a8];rw[show(wf none).round=none from rfl,show∀ρ(o:Oper),o.semAt none ρ=execOp ρ o fromλ_ _=>rfl,e2,Oper.uponIn_defer]
      show b.wpIn (wf none) 0 P _ (bf fn.ntmps ((t,.func (.func g) ⟨[]⟩ ⟨nj fr cap.toList⟩)::fr) [{ target:=.fn (.func g) ⟨nj fr cap.toList⟩,args:=#[] }]) W
      have fin:∀Y w',(∃O V,Y=bf fn.ntmps O (V++[{ target:=.fn (.func g) ⟨nj fr cap.toList⟩,args:=#[] }])/\Fits fn.ntmps O/\qj (rK b) ((t,.func (.func g) ⟨[]⟩ ⟨nj fr cap.toList⟩)::fr) O/\E W w'/\Mk false W w' V/\
        Jq P E g (nj fr cap.toList) w' λw2=>Jj P Ty fn.results.toList O w2 λv=>R v w2)->
        LeavesInM Fence.wide 0 P fn Y.tmps (λe w'=>∃v,e=.returned v/\E w w'/\R v w') Y.defers .returning w':=by
       rintro Y w'⟨O,V,rfl,k1,_,k3,⟨k0,_⟩,k6⟩;have hd:=k0 rfl;subst hd
       show LeavesInM Fence.wide 0 P fn (bf fn.ntmps O [{ target:=.fn (.func g) ⟨nj fr cap.toList⟩,args:=#[] }]).tmps _ [{ target:=.fn (.func g) ⟨nj fr cap.toList⟩,args:=#[] }] .returning w'
       refine⟨σ,.inr ⟨λh=>(by cases h),.func g,⟨nj fr cap.toList⟩,g,⟨nj fr cap.toList⟩,rfl,?_,λ_ _=>trivial,?_⟩⟩
       ·grind[invoke,tU]
       ·refine CallsDIn.mono k6 λe u' w2 ⟨v,he,hu,av,hr⟩=>?_;subst he hu;obtain⟨v,g1,g2⟩:=Dq (ds:=[{ target:=.fn (.func g) ⟨nj fr cap.toList⟩,args:=#[] }]) hT k1 hr;exact⟨v,g1 w2 rfl,v,rfl,hE.trans b4 (hE.trans k3 av),g2⟩
      refine wpIn_mono (yj (rf:=false) hT hF hE hm A b none (λhh=>absurd (rb.symm.trans hh) σ) 0 _ W _ _ _ X a8 [{ target:=.fn (.func g) ⟨nj fr cap.toList⟩,args:=#[] }]) λe Y w' U=>?_;cases e with
      |normal=>exact fin Y w' U
      |ret=>exact fin Y w' U
      |exit i=>obtain⟨_,_,_,_,_,_,_,hh⟩:=U;simp_all
      |goto l=>exact U.elim
      |panic ch=>exact U.elim
      |outgrown=>exact U.elim
     simp_all
    simp_all
  ·exact h.elim
 ·exact h.elim
end
end Go.Proofs.YtaoaemnefghnbaaGreatDoor
