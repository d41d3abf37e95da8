/- Texts of this claim, one behind the other. -/
import Derived.RangeFuncIn
import Derived.RangeFuncLeaves
import Derived.TacticsIn
import Derived.Deep.Quiet
import Derived.Laws.Sem
import Derived.Laws.Cells
import Derived.KernelRfl
import Derived.IntWalk
import Derived.Laws.Slices
import Derived.OrdersIn
import Derived.RangeFuncRecord
import Derived.Deep.AppendSrc
set_option linter.unusedVariables false
set_option linter.unusedSectionVars false
set_option maxRecDepth 100000
set_option maxHeartbeats 16000000
abbrev Go.aiz:=Option Go.Addr
abbrev Go.aiA:=Go.World
namespace Go
abbrev agL:=@List.mem_of_getElem?
abbrev agM:=@List.getElem?_eq_getElem
abbrev agN:=@List.getElem?_eq_some_iff
abbrev agO:=@of_decide_eq_false
abbrev agP:=@Nat.zero_le
abbrev agQ:=@of_decide_eq_true
abbrev agR:=@List.take_add_one
abbrev agS:=@List.getElem?_map
abbrev agT:=@Nat.le_refl
abbrev agU:=@List.getD_eq_getElem?_getD
abbrev agV:=@List.length_append
abbrev agW:=@if_neg
abbrev agX:=@List.mem_append
abbrev agY:=@List.mem_map
abbrev agZ:=@Int.toNat_natCast
abbrev ag0:=@if_pos
abbrev ag1:=@Bool.and_eq_true
abbrev ag2:=@List.eq_nil_of_length_eq_zero
abbrev ag3:=@List.append_assoc
abbrev ag4:=@List.take_of_length_le
abbrev ag5:=@List.length_map
abbrev ag6:=@List.mem_cons
abbrev ag7:=@List.map_append
abbrev ag8:=@List.getElem?_append_left
abbrev ag9:=@List.take_length
abbrev ag_:=@List.mem_singleton
abbrev aha:=@List.take_append_drop
abbrev ahb:=@List.getElem?_of_mem
abbrev ahc:=@decide_eq_true_eq
abbrev ahd:=@List.mem_range
abbrev ahe:=@List.append_nil
abbrev ahf:=@decide_eq_false
abbrev ahg:=@List.getElem?_append_right
abbrev ahh:=@List.flatMap_append
abbrev ahi:=@List.mem_filter
abbrev ahj:=@List.drop_eq_getElem_cons
abbrev ahk:=@List.getElem?_eq_none
abbrev ahl:=@List.length_take
abbrev ahm:=@Classical.byContradiction
abbrev ahn:=@List.map_set
abbrev aho:=@List.filter_append
abbrev ahp:=@List.ext_getElem?
abbrev ahq:=@Nat.le_trans
abbrev ahr:=@List.length_cons
abbrev ahs:=@List.length_filter_le
abbrev aht:=@decide_eq_true
abbrev ahu:=@Int.natCast_nonneg
abbrev ahv:=@List.flatMap_cons
abbrev ahw:=@List.map_cons
abbrev ahx:=@List.nodup_append
abbrev ahy:=@List.getElem?_drop
abbrev ahz:=@Bool.or_eq_true
abbrev ahA:=@List.range_succ
abbrev ahB:=@List.length_set
abbrev ahC:=@Nat.add_sub_cancel_left
abbrev ahD:=@List.pairwise_map
abbrev ahE:=@List.nodup_cons
abbrev ahF:=@List.nodup_iff_pairwise_ne
abbrev ahG:=@List.perm_middle
abbrev ahH:=@Nat.mul_one
abbrev ahI:=@List.mem_flatMap
abbrev ahJ:=@List.getElem?_take
abbrev ahK:=@List.length_nil
abbrev ahL:=@List.length_range
abbrev ahM:=@List.pairwise_cons
abbrev ahN:=@Bool.eq_iff_iff
abbrev ahO:=@Nat.mul_le_mul_right
abbrev ahP:=@List.pairwise_iff_getElem
abbrev ahQ:=@List.mem_cons_of_mem
abbrev ahR:=@List.exists_mem_of_ne_nil
abbrev ahS:=@Option.toList_some
abbrev ahT:=@Nat.pos_of_ne_zero
abbrev ahU:=@List.nil_append
abbrev ahV:=@List.getElem?_range
abbrev ahW:=@List.set_append_right
abbrev ahX:=@List.length_replicate
abbrev ahY:=@List.length_singleton
abbrev ahZ:=@List.length_drop
abbrev ah0:=@List.map_congr_left
abbrev ah1:=@List.replicate_succ
abbrev ah2:=@Nat.sub_self
abbrev ah3:=@Array.ext'
abbrev ah4:=@List.all_eq_true
abbrev ah5:=@Array.getElem?_eq_some_iff
abbrev ah6:=@Nat.mul_le_mul
abbrev ah7:=@List.filter_eq_nil_iff
abbrev ah8:=@List.getElem?_set
abbrev ah9:=@List.length_pos_iff
abbrev ah_:=@Array.getElem?_modify
abbrev aia:=@Array.getElem?_toList
abbrev aib:=@List.getElem?_replicate
abbrev aic:=@List.getElem?_cons_succ
abbrev aid:=@Bool.not_eq_true'
abbrev aie:=@List.filter_congr
abbrev aif:=@Option.map_some
abbrev aih:=@Option.map_eq_some_iff
abbrev aii:=@Nat.zero_add
abbrev aij:=@List.set_eq_take_append_cons_drop
abbrev aik:=@List.getElem?_set_self
abbrev ail:=@List.getElem_mem
abbrev aim:=@Nat.eq_of_beq_eq_true
abbrev ain:=@Nat.eq_zero_or_pos
abbrev aio:=@List.getLast?_eq_getElem?
abbrev aip:=@Option.isSome_iff_exists
abbrev aiq:=@Nat.succ_mul
abbrev air:=@List.map_map
abbrev ais:=@Nat.min_eq_left
abbrev ait:=@List.getElem?_set_ne
abbrev aiu:=@List.foldl_append
abbrev aiv:=@Bool.true_and
abbrev aiw:=@List.getElem?_cons_zero
abbrev aix:=@decide_eq_false_iff_not
abbrev aiy:=@Array.length_toList
end Go
namespace Go.V
end Go.V
namespace Go.Proofs.YtaoaemnefghnbaaGreatDoor
end Go.Proofs.YtaoaemnefghnbaaGreatDoor
open Go.V Go.Proofs.YtaoaemnefghnbaaGreatDoor
namespace Go.Proofs.YtaoaemnefghnbaaGreatDoor
abbrev ν:=Nat->Value
theorem ω{p:Prop}(h:p:=by omega):p:=h
theorem ξ{p q:Prop}(h:p/\q:=by omega):p/\q:=h
theorem σ{p:Prop}(h:p:=by simp):p:=h
inductive Cs where
 |int (k:IntKind)|bool|str|slice|ptr|map|fn|val|ifc
 deriving Inhabited
inductive S1 where
 |one (c:Cs)|agg (l:List Cs)
 deriving Inhabited
inductive Sh where
 |s (x:S1)|tup (l:List S1)
 deriving Inhabited
def Cs.ex:Cs->(Value->Prop)->Prop
 |.int k,p=>∃n:Int,p (.int k n)
 |.bool,p=>∃b:Bool,p (.bool b)
 |.str,p=>∃s:ByteArray,p (.string s)
 |.slice,p=>∃(a:aiz)(l c:Nat),p (.slice a l c)
 |.ptr,p=>∃a:aiz,p (.pointer a)
 |.map,p=>∃r:Option Nat,p (.map r)
 |.fn,p=>∃(g:FuncId)(c:List Value),p (.func (.func g) #[] ⟨c⟩)
 |.val,p=>∃v:Value,p v
 |.ifc,p=>∃(t:TypeId)(v:Value),p (.iface t v)
def Cs.all:Cs->(Value->Prop)->Prop
 |.int k,p=>∀n:Int,p (.int k n)
 |.bool,p=>∀b:Bool,p (.bool b)
 |.str,p=>∀s:ByteArray,p (.string s)
 |.slice,p=>∀(a:aiz)(l c:Nat),p (.slice a l c)
 |.ptr,p=>∀a:aiz,p (.pointer a)
 |.map,p=>∀r:Option Nat,p (.map r)
 |.fn,p=>∀(g:FuncId)(c:List Value),p (.func (.func g) #[] ⟨c⟩)
 |.val,p=>∀v:Value,p v
 |.ifc,p=>∀(t:TypeId)(v:Value),p (.iface t v)
def exC:List Cs->(List Value->Prop)->Prop
 |[],p=>p []
 |c::l,p=>c.ex λv=>exC l λvs=>p (v::vs)
def Z_:List Cs->(List Value->Prop)->Prop
 |[],p=>p []
 |c::l,p=>c.all λv=>Z_ l λvs=>p (v::vs)
def S1.ex:S1->(Value->Prop)->Prop
 |.one c,p=>c.ex p
 |.agg l,p=>exC l λvs=>p (.agg ⟨vs⟩)
def S1.all:S1->(Value->Prop)->Prop
 |.one c,p=>c.all p
 |.agg l,p=>Z_ l λvs=>p (.agg ⟨vs⟩)
def exS:List S1->(List Value->Prop)->Prop
 |[],p=>p []
 |c::l,p=>c.ex λv=>exS l λvs=>p (v::vs)
def Sh.ex:Sh->(Value->Prop)->Prop
 |.s x,p=>x.ex p
 |.tup l,p=>exS l λvs=>p (.tuple ⟨vs⟩)
def Sh.is(sh:Sh)(v:Value)(k:Value->Prop):Prop:=sh.ex λu=>v=u/\k u
theorem Cs.n_{c:Cs}{p:Value->Prop}(h:c.ex p):∃v,p v:=by
 cases c<;>simp only[Cs.ex] at h
 case slice=>obtain⟨a,l,c,h⟩:=h;exact⟨_,h⟩
 case fn=>obtain⟨a,l,h⟩:=h;exact⟨_,h⟩
 case ifc=>obtain⟨a,l,h⟩:=h;exact⟨_,h⟩
 all_goals (obtain⟨a,h⟩:=h;exact⟨_,h⟩)
theorem GY{l:List Cs}:∀{p:List Value->Prop},exC l p->∃v,v.length=l.length/\p v:=by
 induction l with
 |nil=>exactλh=>⟨[],rfl,h⟩
 |cons c l ih=>intro p h;obtain⟨v,h⟩:=Cs.n_ h;grind
theorem S1.n_{c:S1}{p:Value->Prop}(h:c.ex p):∃v,p v:=by
 cases c with
 |one c=>exact Cs.n_ h
 |agg l=>obtain⟨vs,_,h⟩:=GY h;grind
theorem BC{l:List S1}:∀{p:List Value->Prop},exS l p->∃v,p v:=by
 induction l with
 |nil=>exactλh=>⟨[],h⟩
 |cons c l ih=>intro p h;obtain⟨v,h⟩:=S1.n_ h;grind
theorem Sh.n_{c:Sh}{p:Value->Prop}(h:c.ex p):∃v,p v:=by
 cases c with
 |s c=>exact S1.n_ h
 |tup l=>obtain⟨vs,h⟩:=BC h;grind
theorem Sh.fj{sh:Sh}{v:Value}{k:Value->Prop}(h:sh.is v k):k v:=by
 obtain⟨u,rfl,h⟩:=Sh.n_ h;exact h
inductive Kd where
 |bool|int (k:IntKind)|string|slice (e:TypeId)|ptr (e:TypeId)|map (k e:TypeId)|struct|array (n:Nat) (e:TypeId)|func|iface|tuple|other
 deriving Inhabited
def iz:TypeDesc->Kd
 |.bool=>.bool|.int k=>.int k|.string=>.string|.slice e=>.slice e|.pointer e=>.ptr e|.map k e=>.map k e
 |.struct _=>.struct|.array n e=>.array n e|.func ..=>.func|.interface _=>.iface|.tuple _=>.tuple|_=>.other
def Cs.of:Value->Cs
 |.int k _=>.int k|.bool _=>.bool|.string _=>.str|.slice ..=>.slice|.pointer _=>.ptr|.map _=>.map|.nilFunc=>.fn|.nilIface=>.ifc|_=>.val
def S1.of:Value->S1
 |.agg cs=>.agg (cs.toList.map Cs.of)
 |v=>.one (Cs.of v)
structure dD where
 kd:Kd
 size:Nat
 bytes:Nat
 zero:Option Value
 flds:List (Nat×Nat×Bool)      --offset,size,is the field's type a struct or an array
 tup:List S1
 cmp:Bool:=false
 deriving Inhabited
def Kd.isAgg:Kd->Bool
 |.struct|.array ..=>true
 |_=>false
def Dm(P:Program):TypeDesc->Bool
 |.struct fs=>fs.toList.all λf=>(P.info? f.type).isSome&&(P.underlying f.type).isSome
 |_=>true
def tyi(P:Program)(t:TypeId):Option dD:=
  match P.info? t,P.underlying t with
  |some i,some d=>bif Dm P d then some
    { kd:=iz d,size:=i.size,bytes:=i.bytes,zero:=i.zero,cmp:=i.comparable
      flds:=match d with
        |.struct fs=>fs.toList.map λf=>(f.offset,P.cellsOf f.type,match P.underlying f.type with|some (.struct _)|some (.array ..)=>true|_=>false)
        |_=>[]
      tup:=match d with
        |.tuple ts=>ts.toList.map λe=>S1.of (((P.info? e).bind (·.zero)).getD undef)
        |_=>[] } else none
  |_,_=>none
def ec(P:Program)(Ty:TypeId->Option dD):Prop:=∀t i,Ty t=some i->∃c,tyi P t=some { i with cmp:=c }
def Ut:List (TypeId×dD)->TypeId->Option dD
 |[],_=>none
 |(t,i)::l,u=>bif Nat.beq t u then some i else Ut l u
theorem Sn{P:Program}{l:List (TypeId×dD)}(h:l.map (λx=>tyi P x.1)=l.map (λx=>some x.2)):ec P (Ut l):=by
 intro t i hi
 induction l with
 |nil=>simp_all[Ut]
 |cons x l ih=>
  obtain⟨u,j⟩:=x;simp only[ahw,List.cons.injEq] at h;simp only[Ut,Bool.cond_eq_ite] at hi
  by_cases hb:Nat.beq u t=true
  ·rw[ag0 hb] at hi;cases hi;rw[<-aim hb];exact⟨i.cmp,h.1⟩
  simp_all
def Qp(Ty:TypeId->Option dD)(t:TypeId):Sh:=
 match Ty t with
 |some i=>match i.kd with|.tuple=>.tup i.tup|_=>(match i.zero with|some z=>.s (S1.of z)|none=>.s (.one .val))
 |none=>.s (.one .val)
structure Ev(w w':aiA):Prop where
 os:w'.os=w.os
 tape:w'.tape=w.tape
 output:w'.output=w.output
 size:w.heap.size<=w'.heap.size
 dfr:∀(b:Nat)(d:Option (List Deferred)),w.heap[b]? =some (Obj.deferred d)->w'.heap[b]? =some (Obj.deferred d)
 lop:∀(b:Nat)(d:Loop),w.heap[b]? =some (Obj.loop d)->w'.heap[b]? =some (Obj.loop d)
theorem Ev.refl(w:aiA):Ev w w:=⟨rfl,rfl,rfl,agT _,λ_ _ h=>h,λ_ _ h=>h⟩
theorem Ev.trans{a b c:aiA}(h:Ev a b)(k:Ev b c):Ev a c:=
 ⟨k.os.trans h.os,k.tape.trans h.tape,k.output.trans h.output,ahq h.size k.size,λx d u=>k.dfr x d (h.dfr x d u),λx d u=>k.lop x d (h.lop x d u)⟩
theorem Ev.drew(w:aiA)(n:Nat):Ev w { w with drawn:=n }:=⟨rfl,rfl,rfl,agT _,λ_ _ h=>h,λ_ _ h=>h⟩
theorem Ev.push(w:aiA)(o:Obj):Ev w { w with heap:=w.heap.push o }:=by
 refine⟨rfl,rfl,rfl,σ,?_,?_⟩<;>
 ·grind
theorem Ev.setCell(w:aiA)(a:Addr)(v:Value):Ev w (w.setCell a v):=by
 refine⟨rfl,rfl,rfl,σ,?_,?_⟩<;>
 ·simp_all[World.setCell,ah_]
structure Jt(E:aiA->aiA->Prop):Prop where
 trans:∀{a b c:aiA},E a b->E b c->E a c
 ofEv:∀a b:aiA,Ev a b->E a b
 dfr:∀{a b:aiA},E a b->∀(k:Nat)(d:Option (List Deferred)),a.heap[k]? =some (Obj.deferred d)->b.heap[k]? =some (Obj.deferred d)
 size:∀{a b:aiA},E a b->a.heap.size<=b.heap.size
theorem ac2:Jt Ev:=⟨λh k=>h.trans k,λ_ _ h=>h,λh k d u=>h.dfr k d u,λh=>h.size⟩
def iA(P:Program)(E:aiA->aiA->Prop)(f:FuncId)(args:List Value)(w:aiA)(R:Value->aiA->Prop):Prop:=
 Calls P f ⟨args⟩ w λa b=>∃c,a=.returned c/\E w b/\R c b
abbrev ay(P:Program)(f:FuncId)(args:List Value)(w:aiA)(R:Value->aiA->Prop):Prop:=iA P Ev f args w R
theorem ay.mono{P:Program}{f:FuncId}{args:List Value}{w:aiA}{R R':Value->aiA->Prop}(h:ay P f args w R)(hr:∀v w',R v w'->R' v w'):ay P f args w R':=
 Calls.mono h λ_ _ ⟨v,J,O,u⟩=>⟨v,J,O,hr _ _ u⟩
theorem iA.mono{P:Program}{E:aiA->aiA->Prop}{f:FuncId}{args:List Value}{w:aiA}{R R':Value->aiA->Prop}(h:iA P E f args w R)(hr:∀v w',R v w'->R' v w'):iA P E f args w R':=
 Calls.mono h λ_ _ ⟨v,J,O,u⟩=>⟨v,J,O,hr _ _ u⟩
theorem ay.toE{P:Program}{E:aiA->aiA->Prop}(hE:Jt E){f:FuncId}{args:List Value}{w:aiA}{R:Value->aiA->Prop}(h:ay P f args w R):iA P E f args w R:=
 Calls.mono h λ_ _ ⟨v,u,O,J⟩=>⟨v,u,hE.ofEv _ _ O,J⟩
def aY{α:Type}(P:Program)(s:Sem α)(w:aiA)(R:α->aiA->Prop):Prop:=
 ∃v w',s.run P w=.ok v w'/\Ev w w'/\R v w'
theorem aY.mono{α:Type}{P:Program}{s:Sem α}{w:aiA}{R R':α->aiA->Prop}(h:aY P s w R)(hr:∀v w',R v w'->R' v w'):aY P s w R':=
 let⟨v,w',J,O,u⟩:=h;⟨v,w',J,O,hr _ _ u⟩
abbrev Fr:=List (Nat×Value)
def fl:Fr->Nat->Value
 |[],_=>undef
 |(d,v)::l,t=>bif Nat.beq d t then v else fl l t
def put(n:Nat)(fr:Fr):Option Tmp->Value->Fr
 |some d,v=>bif Nat.ble (d+1) n then(d,v)::fr else fr
 |none,_=>fr
def ev(fr:Fr):Operand->Value
 |.tmp t=>fl fr t
 |.const v=>v
 |.global g=>.pointer (some ⟨g,0,none⟩)
 |.func f=>.func (.func f) #[] #[]
def nD(fr:Fr):List Operand->List Value
 |[]=>[]
 |x::l=>ev fr x::nD fr l
theorem Dn(fr:Fr):∀l,nD fr l=l.map (ev fr)
 |[]=>rfl
 |x::l=>by simp[nD,Dn fr l]
def bf(n:Nat)(fr:Fr)(ds:List Deferred):Act:={ tmps:=⟨(List.range n).map (fl fr)⟩,defers:=ds }
def Fits(n:Nat)(fr:Fr):Prop:=∀t,n<=t->fl fr t=undef
theorem yr(n:Nat)(fr:Fr)(ds:List Deferred)(hf:Fits n fr)(t:Nat):(bf n fr ds).tmps.getD t undef=fl fr t:=by
 by_cases h:t<n
 ·simp[bf,h]
 ·simp[bf,h,hf t ω]
theorem Qy(n:Nat)(fr:Fr)(ds:List Deferred)(hf:Fits n fr)(x:Operand):(bf n fr ds).eval x=ev fr x:=by
 cases x with
 |tmp t=>exact yr n fr ds hf t
 |_=>rfl
theorem Gm(n:Nat)(fr:Fr)(ds:List Deferred)(hf:Fits n fr):(bf n fr ds).eval=ev fr:=funext (Qy n fr ds hf)
theorem Dp(d:Nat)(v:Value)(l:Fr)(t:Nat):fl ((d,v)::l) t=if d=t then v else fl l t:=by simp[fl,Bool.cond_eq_ite]
theorem GZ(n:Nat)(fr:Fr)(d:Nat)(v:Value):put n fr (some d) v=if d<n then(d,v)::fr else fr:=by
 simp only[put,Bool.cond_eq_ite,Nat.ble_eq];rfl
theorem wA{n:Nat}{fr:Fr}(hf:Fits n fr)(d:Option Tmp)(v:Value):Fits n (put n fr d v):=by
 cases d with
 |none=>exact hf
 |some d=>
  rw[GZ]
  split
  ·intro t ht;rw[Dp,agW ω];exact hf t ht
  omega
theorem ob(n:Nat)(fr:Fr)(d:Nat)(v:Value)(t:Nat):fl (put n fr (some d) v) t=if d=t/\d<n then v else fl fr t:=by
 rw[GZ]
 by_cases h:d<n
 ·simp_all[Dp]
 grind
theorem Gn(n:Nat)(fr:Fr)(ds:List Deferred)(d:Option Tmp)(v:Value):(bf n fr ds).put d v=bf n (put n fr d v) ds:=by
 cases d with
 |none=>rfl
 |some d=>
  simp only[Act.put,bf,Act.mk.injEq,and_true];apply ah3;apply ahp
  grind[Array.toList_setIfInBounds,List.length_map,List.length_range,List.getElem?_range,ob,List.getElem?_eq_none]
theorem E4{n:Nat}{fr fr':Fr}(ds:List Deferred)(h:∀t,t<n->fl fr t=fl fr' t):bf n fr ds=bf n fr' ds:=by simp_all[bf,Act.mk.injEq]
def br:Bool->Prop->Prop->Prop
 |true,a,_=>a
 |false,_,b=>b
theorem ae{c:Bool}{a b:Prop}(h1:c=true->a)(h2:c=false->b):br c a b:=by
 cases c
 ·exact h2 rfl
 ·exact h1 rfl
def brV(v:Value)(a b:Prop):Prop:=match v with|.bool c=>br c a b|_=>False
def aff(c:Bool)(k:Bool->Prop):Prop:=br c (k true) (k false)
theorem Uu{c:Bool}{k:Bool->Prop}(h:aff c k):k c:=by cases c<;>exact h
def nn(a:aiz)(k:Addr->Prop):Prop:=match a with|some x=>k x|none=>False
def aA(z:Int):Prop:=-9223372036854775808<=z/\z<=9223372036854775807
def wrI(z:Int):Int:=IntKind.i64.wrap z
theorem Sp{z:Int}(h:aA z):IntKind.i64.wrap z=z:=IntWalk.i64_in z ⟨h.1,h.2⟩
def Qz:List Value->Nat->Value->List Value
 |[],_,_=>[]
 |_::l,0,v=>v::l
 |x::l,n+1,v=>x::Qz l n v
theorem Sq:∀(l:List Value)(n:Nat)(v:Value),Qz l n v=l.set n v
 |[],_,_=>rfl
 |_::_,0,_=>rfl
 |x::l,n+1,v=>by simp[Qz,Sq l n v]
def rowAt(w:aiA)(a:Addr)(i:Nat):Nat->Option (List Value)
 |0=>some []
 |n+1=>match w.cell? (a.add i),rowAt w a (i+1) n with
  |some v,some vs=>some (v::vs)
  |_,_=>none
def ldv(w:aiA)(a:Addr)(i:dD)(k:Value->Prop):Prop:=
 match i.zero with
 |none=>False
 |some z=>match i.kd.isAgg,S1.of z with
  |true,.agg l=>exC l λvs=>rowAt w a 0 i.size=some vs/\k (.agg ⟨vs⟩)
  |false,.one c=>c.ex λv=>w.cell? a=some v/\k v
  |_,_=>False
def aK:Value->Bool
 |.agg _|.tuple _=>false
 |_=>true
def dI(w:aiA)(a:Addr)(i:Nat):List Value->aiA
 |[]=>w
 |v::l=>dI (w.setCell (a.add i) v) a (i+1) l
def mQ(w:aiA)(a:Addr)(i:Nat):List Value->Prop
 |[]=>True
 |v::l=>aK v=true/\(∃u,w.cell? (a.add i)=some u)/\w.frozen? (a.add i)=false/\mQ w a (i+1) l
def st1(w:aiA)(a:Addr)(v:Value)(k:aiA->Prop):Prop:=
 (∃u,w.cell? a=some u)/\w.frozen? a=false/\aK v=true/\∀w',w'=w.setCell a v->k w'
def bA(w:aiA)(a:Addr)(vs:List Value)(k:aiA->Prop):Prop:=
 mQ w a 0 vs/\∀w',w'=dI w a 0 vs->k w'
def cellsOf:Value->List Value
 |.agg cs=>cs.toList
 |v=>[v]
def E5:List Value->Nat->Bool
 |[],n=>Nat.beq n 0
 |_::l,n=>match n with
  |n+1=>E5 l n
  |0=>false
theorem wB:∀(l:List Value)(n:Nat),E5 l n=true->l.length=n
 |[],n,h=>by simp_all[E5]
 |_::l,0,h=>by grind[E5]
 |_::l,n+1,h=>by simp[wB l n h]
def leL:List Value->Nat->Bool
 |[],_=>true
 |_::l,n+1=>leL l n
 |_,_=>false
theorem LD:∀(l:List Value)(n:Nat),leL l n=true->l.length<=n
 |[],_,_=>agP _
 |_::l,n+1,h=>by have:=LD l n h;simp_all
def geL:Nat->List Value->Bool
 |0,_=>true
 |n+1,_::l=>geL n l
 |_,_=>false
theorem Wd:∀(n:Nat)(l:List Value),geL n l=true->n<=l.length
 |0,_,_=>agP _
 |n+1,_::l,h=>by have:=Wd n l h;simp_all
def stv(w:aiA)(a:Addr)(i:dD)(v:Value)(k:aiA->Prop):Prop:=
 match i.kd.isAgg,v with
 |true,.agg cs=>bif E5 cs.toList i.size then bA w a cs.toList k else False
 |false,v=>bif Nat.beq i.size 1 then st1 w a v k else False
 |_,_=>False
def new(w:aiA)(o:Obj)(k:Nat->aiA->Prop):Prop:=∀b w',b=w.heap.size->w'={ w with heap:=w.heap.push o }->k b w'
abbrev Hp:=Nat->Option Obj
abbrev aE:=Hp->Prop
def QA:Option Obj->Option Obj
 |some (.deferred _)=>none
 |o=>o
theorem sD{x:Option Obj}{o:Obj}(h:QA x=some o):x=some o:=by
 unfold QA at h;grind
def NG:Obj->Bool
 |.deferred _=>false
 |_=>true
theorem G0{o:Obj}(h:NG o=true):QA (some o)=some o:=by cases o<;>first|rfl|cases h
def hp(w:aiA):Hp:=λb=>QA w.heap[b]?
theorem afg{w:aiA}{b:Nat}(h:w.heap.size<=b):hp w b=none:=by grind[hp,QA]
def sub(a b:Hp):Prop:=∀k o,a k=some o->b k=some o
def LF(a b:Hp):Prop:=∀k,a k=none\/b k=none
theorem sub.refl(a:Hp):sub a a:=λ_ _ h=>h
theorem sZZ{h}:sub h h:=sub.refl h
theorem sub.trans{a b c:Hp}(h:sub a b)(k:sub b c):sub a c:=λx o u=>k x o (h x o u)
theorem LF.symm{a b:Hp}(h:LF a b):LF b a:=λk=>(h k).symm
theorem LF.sub{a b c d:Hp}(h:LF a b)(h1:sub c a)(h2:sub d b):LF c d:=by
 intro k
 rcases h k with h|h
 ·left;cases hc:c k with
  |none=>rfl
  |some o=>rw[h1 k o hc] at h;omega
 ·right;cases hc:d k with
  |none=>rfl
  |some o=>rw[h2 k o hc] at h;omega
def V2(a b:Hp):Hp:=λk=>match a k with|some o=>some o|none=>b k
theorem yu(a b:Hp):sub a (V2 a b):=λk o h=>by grind[V2]
theorem yv{a b:Hp}(h:LF a b):sub b (V2 a b):=λk o hb=>by
 rcases h k with h|h
 ·simp_all[V2]
 simp_all
theorem Gp{a b c:Hp}(h1:sub a c)(h2:sub b c):sub (V2 a b) c:=λk o h=>by
 unfold V2 at h;split at h
 ·rename_i o' ho;cases h;exact h1 k _ ho
 ·exact h2 k o h
theorem Gq{a b c:Hp}(h1:LF a c)(h2:LF b c):LF (V2 a b) c:=by
 intro k
 rcases h1 k with h|h
 ·rcases h2 k with h'|h'
  ·simp_all[V2]
  simp_all
 simp_all
def aF:List aE->aE
 |[],_=>True
 |A::L,h=>∃h1 h2,LF h1 h2/\sub h1 h/\sub h2 h/\A h1/\aF L h2
theorem mi:∀{L:List aE}{h h':Hp},aF L h->sub h h'->aF L h'
 |[],_,_,_,_=>trivial
 |A::L,h,h',⟨h1,h2,d,s1,s2,ha,hl⟩,s=>⟨h1,h2,d,s1.trans s,s2.trans s,ha,hl⟩
theorem uk{A B:aE}{L:List aE}{h:Hp}:aF (A::B::L) h->aF (B::A::L) h
 |⟨h1,h2,d,s1,s2,ha,h3,h4,d',s3,s4,hb,hl⟩=>
  have d14:LF h1 h4:=d.sub sZZ s4
  ⟨h3,V2 h1 h4,(Gq (d.sub sZZ s3) d'.symm).symm,s3.trans s2,Gp s1 (s4.trans s2),hb,h1,h4,d14,yu _ _,yv d14,ha,hl⟩
theorem wC{A:aE}{L L':List aE}{h:Hp}(hm:∀h,aF L h->aF L' h):aF (A::L) h->aF (A::L') h
 |⟨h1,h2,d,s1,s2,ha,hl⟩=>⟨h1,h2,d,s1,s2,ha,hm _ hl⟩
theorem QB{A B:aE}{L:List aE}{h:Hp}(hm:∀h,A h->B h):aF (A::L) h->aF (B::L) h
 |⟨h1,h2,d,s1,s2,ha,hl⟩=>⟨h1,h2,d,s1,s2,hm _ ha,hl⟩
theorem aj{A:aE}{L:List aE}{h:Hp}:aF (A::L) h->aF L h
 |⟨h1,h2,d,s1,s2,ha,hl⟩=>mi hl s2
theorem QC{L L':List aE}(p:L.Perm L'):∀{h:Hp},aF L h->aF L' h:=by
 induction p with
 |nil=>simp
 |cons A p ih=>grind[wC]
 |swap A B l=>simp_all[uk]
 |trans p q ih1 ih2=>simp_all
def aV(M:List aE):aE:=aF M
theorem pg:∀{M L:List aE}{h:Hp},aF (aV M::L) h↔aF (M++L) h
 |[],L,h=>⟨λ⟨h1,h2,d,s1,s2,ha,hl⟩=>mi hl s2,λhl=>⟨λ_=>none,h,λ_=>.inl rfl,λ_ _ h=>(nomatch h),sZZ,trivial,hl⟩⟩
 |A::M,L,h=>by
  constructor
  ·rintro⟨h1,h2,d,s1,s2,⟨h3,h4,d',s3,s4,ha,hm⟩,hl⟩
   have d42:LF h4 h2:=d.sub s4 sZZ
   exact⟨h3,V2 h4 h2,(Gq d'.symm (d.symm.sub sZZ s3)).symm,s3.trans s1,Gp (s4.trans s1) s2,ha,pg.1 ⟨h4,h2,d42,yu _ _,yv d42,hm,hl⟩⟩
  ·rintro⟨h1,h2,d,s1,s2,ha,hr⟩
   obtain⟨h3,h4,d',s3,s4,hm,hl⟩:=pg.2 hr
   have d13:LF h1 h3:=d.sub sZZ s3
   exact⟨V2 h1 h3,h4,Gq (d.sub sZZ s4) d',Gp s1 (s3.trans s2),s4.trans s2,⟨h1,h3,d13,yu _ _,yv d13,ha,hm⟩,hl⟩
def ex{α:Type}(A:α->aE):aE:=λh=>∃x,A x h
theorem We{α:Type}{A:α->aE}{L:List aE}{h:Hp}:aF (ex A::L) h↔∃x,aF (A x::L) h:=
 ⟨λ⟨J,u,d,s1,s2,⟨x,ha⟩,hl⟩=>⟨x,J,u,d,s1,s2,ha,hl⟩,λ⟨x,J,u,d,s1,s2,ha,hl⟩=>⟨J,u,d,s1,s2,⟨x,ha⟩,hl⟩⟩
def pu(p:Prop):aE:=λ_=>p
theorem Wf{p:Prop}{L:List aE}{h:Hp}:aF (pu p::L) h↔p/\aF L h:=
 ⟨λ⟨J,u,d,s1,s2,ha,hl⟩=>⟨ha,mi hl s2⟩,λ⟨hp,hl⟩=>⟨λ_=>none,h,λ_=>.inl rfl,λ_ _ h=>(nomatch h),sZZ,hp,hl⟩⟩
def blk(b:Nat)(o:Obj):aE:=λh=>h b=some o
def one(b:Nat)(o:Obj):Hp:=λk=>if k=b then some o else none
theorem NH(b:Nat)(o:Obj):one b o b=some o:=by simp[one]
theorem Ju{b:Nat}{o:Obj}{L:List aE}{h:Hp}:aF (blk b o::L) h->h b=some o
 |⟨h1,h2,d,s1,s2,ha,hl⟩=>s1 _ _ ha
theorem q8{b:Nat}{o o':Obj}{L:List aE}{h h':Hp}(hs:aF (blk b o::L) h)(h0:∀k,k≠b->h' k=h k)(h1:h' b=some o'):aF (blk b o'::L) h':=by
  obtain⟨g1,g2,d,s1,s2,ha,hl⟩:=hs
  have hb : g2 b = none := by rcases d b with h|h;· rw[show g1 b=some o from ha] at h;grind
                              omega
  refine⟨one b o',g2,λk=>?_,λk x hk=>?_,λk x hk=>?_,NH b o',hl⟩
  · grind[one]
  · simp_all[one]
  · have hk':k≠b:=λe=>by simp_all
    rw[h0 k hk'];exact s2 k x hk
theorem Jv{b:Nat}{o:Obj}{L:List aE}{h h':Hp}(hs:aF L h)(hb:h b=none)(h0:∀k,k≠b->h' k=h k)(h1:h' b=some o):aF (blk b o::L) h':=by
 refine⟨one b o,h,λk=>?_,λk x u=>?_,λk x u=>?_,NH b o,hs⟩
 ·grind[one]
 ·simp_all[one]
 grind
def has(h0:Hp):aE:=λh=>sub h0 h
theorem oX{h0:Hp}{L:List aE}{h:Hp}:aF (has h0::L) h->sub h0 h
 |⟨h1,h2,d,s1,s2,ha,hl⟩=>sub.trans ha s1
def St(w:aiA)(L:List aE):Prop:=aF L (hp w)
def vv:List aE->Nat->aE
 |[],_=>pu True
 |A::_,0=>A
 |_::L,n+1=>vv L n
section
variable{w w':aiA}{L:List aE}{A B:aE}
theorem St.perm{L':List aE}(h:St w L)(p:L.Perm L'):St w L':=QC p h
theorem St.swap{L:List aE}{A B:aE}(h:St w (A::B::L)):St w (B::A::L):=uk h
theorem St.NJ{L:List aE}{A B C:aE}(h:St w (A::B::C::L)):St w (C::A::B::L):=uk (wC (λ_=>uk) h)
theorem St.tail(h:St w (A::L)):St w L:=aj h
theorem St.head(h:St w (A::L))(hm:∀h,A h->B h):St w (B::L):=QB hm h
theorem St.flat{M:List aE}:St w (aV M::L)↔St w (M++L):=pg
theorem St.ex{α:Type}{A:α->aE}:St w (Proofs.YtaoaemnefghnbaaGreatDoor.ex A::L)↔∃x,St w (A x::L):=We
theorem St.pu{p:Prop}:St w (Proofs.YtaoaemnefghnbaaGreatDoor.pu p::L)↔p/\St w L:=Wf
theorem St.get{b:Nat}{o:Obj}(h:St w (blk b o::L)):w.heap[b]? =some o:=sD (Ju h)
theorem St.has{h0:Hp}(h:St w (Proofs.YtaoaemnefghnbaaGreatDoor.has h0::L)):sub h0 (hp w):=oX h
theorem St.push(h:St w L)(o:Obj)(ho:NG o=true:=by rfl):St { w with heap:=w.heap.push o } (blk w.heap.size o::L):=
 Jv h (afg (agT _)) (λk u=>by grind[hp]) (by grind[hp,G0])
theorem St.setObj{b:Nat}{o:Obj}(h:St w (blk b o::L))(o':Obj)(ho:NG o'=true:=by rfl):St { w with heap:=w.heap.setIfInBounds b o' } (blk b o'::L):=by
 have hb:=(ah5.1 h.get).1;exact q8 h (λk u=>by simp[hp,Array.getElem?_setIfInBounds_ne (Ne.symm u)]) (by simp_all[hp,G0])
theorem St.eq(h:St w L)(he:hp w'=hp w):St w' L:=by simp_all[St]
theorem St.same(h:St w L)(he:w'.heap=w.heap):St w' L:=h.eq (by grind[hp])
theorem St.setCell{b:Nat}{c:Array Value}{e:TypeId}{fz:Nat×Nat}(h:St w (blk b (.cells c e fz)::L))(i:Nat)(v:Value):
  St (w.setCell ⟨b,i,none⟩ v) (blk b (.cells (c.setIfInBounds i v) e fz)::L):=by
 have u:=h.get
 refine q8 h (λk J=>?_) ?_
 ·simp only[hp,World.setCell,ah_];grind
 simp_all[hp,World.setCell,ah_,QA]
theorem Wg(w:aiA)(d:Option (List Deferred)):hp { w with heap:=w.heap.push (.deferred d) }=hp w:=by grind[hp,QA]
theorem aaa{w:aiA}{D:Nat}{d d':Option (List Deferred)}(h:w.heap[D]? =some (.deferred d)):hp { w with heap:=w.heap.setIfInBounds D (.deferred d') }=hp w:=by
 funext b
 simp only[hp]
 by_cases hb:b=D
 ·subst hb;rw[Array.getElem?_setIfInBounds_self_of_lt (ah5.1 h).1,h];rfl
 grind
theorem cG(h:hp w'=hp w)(a:Addr):w'.cell? a=w.cell? a:=by
 have hb:=congrFun h a.block;simp only[hp] at hb;unfold World.cell?;cases h1:w'.heap[a.block]? with
 |none=>
  rw[h1] at hb;cases h2:w.heap[a.block]? with
  |none=>rfl
  |some o=>rw[h2] at hb;cases o<;>first|rfl|cases hb
 |some o=>
  rw[h1] at hb;cases h2:w.heap[a.block]? with
  |none=>rw[h2] at hb;cases o<;>first|rfl|cases hb
  |some o'=>rw[h2] at hb;cases o<;>cases o'<;>first|rfl|(cases hb;rfl)|cases hb
theorem NK(h:hp w'=hp w)(a:Addr):∀(n i:Nat),rowAt w' a i n=rowAt w a i n
 |0,i=>rfl
 |n+1,i=>by simp only[rowAt,cG h,NK h a n]
end
def kx:IntKind->Nat
 |.i8=>0|.i16=>1|.i32=>2|.i64=>3|.u8=>4|.u16=>5|.u32=>6|.u64=>7
theorem Wh{a b:IntKind}(h:Nat.beq (kx a) (kx b)=true):a=b:=by
 have:=aim h;cases a<;>cases b<;>simp_all[kx]
def NL(wd:Bool)(k:IntKind)(z:Int)(K:Value->Prop):Prop:=
 match k with
 |.i64=>(match wd with|true=>K (.int .i64 (wrI z))|false=>aA z/\K (.int .i64 z))
 |k=>K (.int k (k.wrap z))
def ph(op:BinOp)(k:IntKind)(x y:Int):Int:=
 match op with
 |.and=>k.wrap ((BitVec.ofInt k.bits x)&&& (BitVec.ofInt k.bits y)).toNat
 |.or=>k.wrap ((BitVec.ofInt k.bits x)|||(BitVec.ofInt k.bits y)).toNat
 |.xor=>k.wrap ((BitVec.ofInt k.bits x)^^^(BitVec.ofInt k.bits y)).toNat
 |_=>k.wrap ((BitVec.ofInt k.bits x)&&& ~~~(BitVec.ofInt k.bits y)).toNat
def Wi(k:IntKind)(a b:Int):Int:=k.wrap (a*2^(min b.toNat k.bits))
def aZ(k:IntKind)(a b:Int):Int:=a.fdiv (2^(min b.toNat k.bits))
abbrev mD1(a:Int):Int:=aZ .u64 (IntKind.wrap .u64 a) 1
def nz(b:Int):Prop:=b≠0
def ns(b:Int):Prop:=0<=b
def inS(i:Int)(n:Nat):Prop:=0<=i/\i<n
def od(l c:Int)(b:Nat):Prop:=0<=l/\l=c/\b*l<=140737488355328
def Wj(wd:Bool)(op:BinOp)(k:IntKind)(a b:Int)(K:Value->Prop):Prop:=
 match op with
 |.add=>NL wd k (a+b) K
 |.sub=>NL wd k (a-b) K
 |.mul=>NL wd k (a*b) K
 |.quo=>nz b/\NL false k (a.tdiv b) K
 |.rem=>nz b/\K (.int k (a.tmod b))
 |.and=>K (.int k (ph .and k a b))
 |.or=>K (.int k (ph .or k a b))
 |.xor=>K (.int k (ph .xor k a b))
 |.andNot=>K (.int k (ph .andNot k a b))
 |.eql=>K (.bool (a==b))
 |.neq=>K (.bool (a !=b))
 |.lss=>K (.bool (decide (a<b)))
 |.leq=>K (.bool (decide (a<=b)))
 |.gtr=>K (.bool (decide (b<a)))
 |.geq=>K (.bool (decide (b<=a)))
 |.shl=>ns b/\K (.int k (Wi k a b))
 |.shr=>ns b/\K (.int k (aZ k a b))
def LG:BinOp->Bool
 |.shl|.shr=>true
 |_=>false
def Wk(op:BinOp)(x y:ByteArray)(K:Value->Prop):Prop:=
 match op with
 |.add=>(x.size:Int)+y.size<=9223372036854775807/\K (.string (x++y))
 |.eql=>K (.bool (x.toList==y.toList))
 |.neq=>K (.bool (!(x.toList==y.toList)))
 |.lss=>K (.bool (Op.bytesLess x.toList y.toList))
 |.leq=>K (.bool (Op.bytesLess x.toList y.toList||x.toList==y.toList))
 |.gtr=>K (.bool (!(Op.bytesLess x.toList y.toList||x.toList==y.toList)))
 |.geq=>K (.bool (!Op.bytesLess x.toList y.toList))
 |_=>False
def eqB(op:BinOp)(t:Bool)(K:Value->Prop):Prop:=
 match op with
 |.eql=>K (.bool t)
 |.neq=>K (.bool (!t))
 |_=>False
def ai(Ty:TypeId->Option dD)(t:TypeId):Kd:=match Ty t with|some i=>i.kd|none=>.other
def wdT(Ty:TypeId->Option dD)(t:TypeId):Bool:=match Ty t with|some i=>(match i.cmp with|true=>false|false=>true)|none=>false
def Kn(Ty:TypeId->Option dD)(t:TypeId):Option Nat:=match Ty t with|some i=>some i.size|none=>none
def acB:Kd->Bool
 |.ptr _=>true
 |_=>false
def Sr:Kd->Bool
 |.slice _=>true
 |_=>false
def acC:Kd->Bool
 |.map ..=>true
 |_=>false
def q9(op:BinOp)(t:TypeId)(xo yo:Operand)(x y:Value):Sem Value:=do eqGuard op t xo yo x y;Go.binOp op t x y
def eqQ(op:BinOp)(t:Bool)(K:Bool->Prop):Prop:=
 match op with
 |.eql=>K t
 |.neq=>K (!t)
 |_=>False
def ac3(Ty:TypeId->Option dD)(rs:Sem Value->(Value->Prop)->Prop)(op:BinOp)(t:TypeId)(xo yo:Operand)(a b:aiz)(K:Bool->Prop):Prop:=
 match b with
 |none=>bif acB (ai Ty t) then eqQ op a.isNone K else False
 |some b=>rs (q9 op t xo yo (.pointer a) (.pointer (some b))) λv=>∃q,v=.bool q/\K q
def ac4(Ty:TypeId->Option dD)(rs:Sem Value->(Value->Prop)->Prop)(op:BinOp)(t:TypeId)(xo yo:Operand)(x y:Value)(K:Value->Prop):Prop:=
 match x,y with
 |.int k a,.int k' b=>bif LG op||Nat.beq (kx k) (kx k') then Wj (wdT Ty t) op k a b K else False
 |.string a,.string b=>Wk op a b K
 |.bool a,.bool b=>(match ai Ty t with|.bool=>eqB op (a==b) K|_=>False)
 |.pointer a,.pointer b=>ac3 Ty rs op t xo yo a b λq=>K (.bool q)
 |.slice a _ _,.slice none _ _=>bif Sr (ai Ty t) then eqB op a.isNone K else False
 |.func (.func _) _ _,.nilFunc=>(match ai Ty t with|.func=>eqB op false K|_=>False)
 |.map a,.map none=>bif acC (ai Ty t) then eqB op a.isNone K else False
 |x,y=>rs (q9 op t xo yo x y) λv=>∃b,v=.bool b/\K (.bool b)
def NM:List Value->List Value->List Value
 |[],m=>m
 |x::l,m=>x::NM l m
theorem Gt:∀l m,NM l m=l++m
 |[],_=>rfl
 |x::l,m=>by simp[NM,Gt l m]
def Ko:Nat->List Value->List Value
 |0,_=>[]
 |n+1,z=>NM z (Ko n z)
def gD:Nat->List Value->List Value
 |0,_=>[]
 |n+1,z=>z++gD n z
def setMany(cells:List Value)(off:Nat):List Value->List Value
 |[]=>cells
 |v::l=>setMany (Qz cells off v) (off+1) l
def BD(place:Nat->Option (Nat×Nat))(cells:List Value):List (Nat×Value)->Option (List Value)
 |[]=>some cells
 |(i,v)::rest=>
  match place i with
  |none=>none
  |some (off,size)=>bif E5 (cellsOf v) size&&geL (off+size) cells then BD place (setMany cells off (cellsOf v)) rest else none
def Wl(o:Option (List Value))(k:List Value->Prop):Prop:=match o with|some l=>k l|none=>False
def E6(fr:Fr):List (Nat×Operand)->List (Nat×Value)
 |[]=>[]
 |(i,x)::l=>(i,ev fr x)::E6 fr l
def G1(fs:List (Nat×Nat×Bool))(i:Nat):Option (Nat×Nat):=match fs[i]? with|some (o,s,_)=>some (o,s)|none=>none
def adA(ad:Addr)(n:Nat):Addr:=bif Nat.beq n 0 then ad else ad.add n
theorem ac5(ad:Addr)(n:Nat):adA ad n=ad.add n:=by simp_all[adA,Addr.add]
def ff(i:Nat):Nat->Nat
 |1=>i
 |sz=>i*sz
theorem bh(i sz:Nat):ff i sz=i*sz:=by grind[ff]
def idx(a:aiz)(len:Nat)(i:Int)(sz:Nat)(k:Addr->Prop):Prop:=
 ∃ad,a=some ad/\0<=i/\i<len/\k (ad.add (ff i.toNat sz))
def sb(s:ByteArray)(n:Nat):UInt8:=(s.data[n]?).getD 0
def fK(a:aiz)(l m sz:Nat):aiz:=if m=l then a else a.map (·.add (ff l sz))
def lU(a:aiz)(len cap:Nat)(lo hi mx:Option Int)(sz:Nat)(k:aiz->Nat->Nat->Prop):Prop:=
 let m:Int:=mx.getD cap
 let h:Int:=hi.getD len
 let l:Int:=lo.getD 0
 (mx=none\/(hi≠none/\0<=m/\m<=cap))/\(hi=none\/(0<=h/\h<=m))/\(0<=l/\l<=h)/\
  k (fK a l.toNat m.toNat sz) (h.toNat-l.toNat) (m.toNat-l.toNat)
def afh(s:ByteArray)(lo hi:Option Int)(k:ByteArray->Prop):Prop:=
 let h:Int:=hi.getD s.size
 let l:Int:=lo.getD 0
 (hi=none\/(0<=h/\h<=s.size))/\(0<=l/\l<=h)/\k (s.extract l.toNat h.toNat)
def Ss(fr:Fr)(x:Option Operand)(k:Option Int->Prop):Prop:=
 match x with
 |none=>k none
 |some x=>match ev fr x with
  |.int _ n=>k (some n)
  |_=>False
def acD(l c:Int)(i:dD)(e:TypeId)(w:aiA)(k:Value->aiA->Prop):Prop:=
 match i.zero with
 |some z=>od l c i.bytes/\new w (.cells ⟨gD l.toNat (cellsOf z)⟩ e) λb w'=>k (.slice (some ⟨b,0,none⟩) l.toNat l.toNat) w'
 |none=>False
def yld(P:Program)(E:aiA->aiA->Prop)(l:Nat)(args:List Value)(w:aiA)(R:Value->aiA->Prop):Prop:=
 ∃a b c d,(Instr.yield l ⟨args⟩).run P w=.ok (.round l a b c d) w/\
  RoundIn Fence.wide 0 P l a b c d w λa b=>∃c,a=.returned c/\E w b/\R c b
def acE(v:Value)(i:Nat)(k:Value->Prop):Prop:=
 match v with
 |.tuple vs=>(match vs.toList[i]? with|some u=>k u|none=>False)
 |_=>False
def afi(v:Value)(f:Option (Nat×Nat×Bool))(k:Value->Prop):Prop:=
 match v,f with
 |.agg cs,some (o,s,true)=>k (.agg ⟨(cs.toList.drop o).take s⟩)
 |.agg cs,some (o,_,false)=>(match cs.toList[o]? with|some u=>k u|none=>False)
 |_,_=>False
def acF(v:Value)(sh:Sh)(k:Value->Prop):Prop:=
 (v=.tuple #[.bool false]/\k (.tuple #[.bool false]))\/(match sh with
  |.tup (_::l)=>exS l λus=>v=.tuple ⟨.bool true::us⟩/\k (.tuple ⟨.bool true::us⟩)
  |.tup []=>∃(n:Int)(u:Value),v=.tuple ⟨[.bool true,.int .i64 n,u]⟩/\k (.tuple ⟨[.bool true,.int .i64 n,u]⟩)
  |_=>False)
def ac6(v:Value)(sh:Sh)(k:Value->Prop):Prop:=
 match sh with
 |.tup []=>∃(n:Int)(u:Value),v=.tuple ⟨[.int .i64 n,u]⟩/\k (.tuple ⟨[.int .i64 n,u]⟩)
 |.tup l=>exS l λus=>v=.tuple ⟨us⟩/\k (.tuple ⟨us⟩)
 |_=>False
def Fz(first args cap:List Value):List Value:=NM first (NM args cap)
theorem LH(f a c:List Value):Fz f a c=f++a++c:=by simp[Fz,Gt]
def pj:Bool->Prop->Prop
 |true,p=>p
 |false,_=>False
theorem a_{c:Bool}{p:Prop}:pj c p↔c=true/\p:=by cases c<;>simp[pj]
def orX(d c:Bool)(p q:Prop):Prop:=match d with
 |true=>(match c with|true=>p|false=>q)
 |false=>pj c p
def isDir:Operand->Bool
 |.func _=>true
 |_=>false
def ac7(P:Program)(g:FuncId)(args:List Value)(w:aiA)(R:Value->aiA->Prop):Prop:=∃a b,(callFunc g ⟨args⟩).run P w=.ok (.value a) b/\Ev w b/\R a b
def Wm(P:Program)(Fn:FuncId->Bool)(E:aiA->aiA->Prop)(f:Value)(args:List Value)(sh:Sh)(w:aiA)(K:Value->aiA->Prop)(d:Bool):Prop:=
 match f with
 |.func (.func g) first cap=>orX d (Fn g) (iA P E g (Fz first.toList args cap.toList) w λv w'=>sh.is v λu=>K u w') (ac7 P g (Fz first.toList args cap.toList) w λv w'=>sh.is v λu=>K u w')
 |.func (.yield l) first _=>yld P E l (NM first.toList args) w λv w'=>sh.is v λu=>K u w'
 |_=>False
def ago(P:Program)(E:aiA->aiA->Prop)(r:Value)(m:String)(args:List Value)(sh:Sh)(w:aiA)(K:Value->aiA->Prop):Prop:=
 ∃g as,(callMethod r m ⟨args⟩).run P w=.ok (.enter g ⟨as⟩) w/\iA P E g as w λv w'=>sh.is v λu=>K u w'
def rsW(P:Program)(w:aiA)(s:Sem Value)(k:Value->Prop):Prop:=∃v,s.run P w=.ok v w/\k v
def rsC(P:Program)(C:aiA->Prop)(s:Sem Value)(k:Value->Prop):Prop:=∃v,(∀w,C w->s.run P w=.ok v w)/\k v
def ldC(C:aiA->Prop)(a:Addr)(i:dD)(k:Value->Prop):Prop:=
 match i.zero with
 |none=>False
 |some z=>match i.kd.isAgg,S1.of z with
  |true,.agg l=>exC l λvs=>(∀w,C w->rowAt w a 0 i.size=some vs)/\k (.agg ⟨vs⟩)
  |false,.one c=>c.ex λv=>(∀w,C w->w.cell? a=some v)/\k v
  |_,_=>False
def Su:Kd->Bool|.int _=>true|_=>false
def rsN(b:Bool)(rs:Sem Value->(Value->Prop)->Prop):Sem Value->(Value->Prop)->Prop:=match b with|true=>λ_ _=>False|false=>rs
def wD(P:Program)(Ty:TypeId->Option dD)(ld:Addr->dD->(Value->Prop)->Prop)(rs:Sem Value->(Value->Prop)->Prop)(o:Oper)(fr:Fr)(K:Value->Prop):Prop:=
 match o.op with
 |.move x=>K (ev fr x)
 |.assign x=>K (ev fr x)
 |.pick c a b=>(match ev fr c with|.bool t=>K (match t with|true=>ev fr a|false=>ev fr b)|_=>False)
 |.build t ps=>(match Ty t with
  |some i=>(match i.zero,i.kd with
   |some z,.struct=>Wl (BD (G1 i.flds) (cellsOf z) (E6 fr ps.toList)) λcs=>K (.agg ⟨cs⟩)
   |some z,.array _ e=>(match Kn Ty e with|some s=>Wl (BD (λk=>some (k*s,s)) (cellsOf z) (E6 fr ps.toList)) λcs=>K (.agg ⟨cs⟩)|none=>False)
   |_,_=>False)
  |none=>False)
 |.load t x=>(match ev fr x,Ty t with
  |.pointer a,some i=>nn a λad=>ld ad i K
  |_,_=>False)
 |.nilCheck x=>(match ev fr x with
  |.pointer a=>nn a λad=>K (.pointer (some ad))
  |.func (.func f) first cap=>K (.func (.func f) first cap)
  |.func (.yield f) first cap=>K (.func (.yield f) first cap)
  |.iface t v=>K (.iface t v)
  |_=>False)
 |.binOp op t x y _=>ac4 Ty (rsN (Su (ai Ty t)) rs) op t x y (ev fr x) (ev fr y) K
 |.unOp op _ x=>(match op,ev fr x with
  |.not,.bool b=>K (.bool (!b))
  |.neg,.int k n=>NL false k (0-n) K
  |.xor,.int k n=>K (.int k (ph .xor k (if k.signed then-1 else k.max) n))
  |_,_=>False)
 |.convert s d x=>(match ai Ty s,ai Ty d,ev fr x with
  |.int _,.int k,.int _ n=>NL false k n K
  |.string,.string,.string s=>K (.string s)
  |_,_,_=>False)
 |.makeInterface t x=>(match Ty t with|some i=>(match i.kd with|.iface=>False|_=>K (.iface t (ev fr x)))|none=>False)
 |.makeFunc fn first cap=>K (.func fn ⟨nD fr first.toList⟩ ⟨nD fr cap.toList⟩)
 |.slice t x lo hi mx=>(match ai Ty t,ev fr x with
  |.slice e,.slice a len cap=>(match Kn Ty e with
   |some sz=>Ss fr lo λlo=>Ss fr hi λhi=>Ss fr mx λmx=>lU a len cap lo hi mx sz λa l c=>K (.slice a l c)
   |none=>False)
  |.string,.string s=>(match mx with|none=>Ss fr lo λlo=>Ss fr hi λhi=>afh s lo hi λs=>K (.string s)|some _=>False)
  |_,_=>False)
 |.fieldAddr s x f=>(match Ty s,ev fr x with
  |some i,.pointer a=>(match i.kd,i.flds[f]? with
   |.struct,some (off,sz,_)=>bif Nat.ble 1 sz then nn a λad=>K (.pointer (some (adA ad off))) else False
   |_,_=>False)
  |_,_=>False)
 |.field t x f=>(match Ty t with
  |some i=>(match i.kd with|.struct=>afi (ev fr x) (i.flds[f]?) K|_=>False)
  |none=>False)
 |.indexAddr t x ix=>(match ai Ty t,ev fr x,ev fr ix with
  |.slice e,.slice a len cap,.int _ i=>(match Kn Ty e with|some sz=>idx a len i sz λad=>K (.pointer (some ad))|none=>False)
  |.array n e,.pointer a,.int _ i=>(match Kn Ty e with|some sz=>idx a n i sz λad=>K (.pointer (some ad))|none=>False)
  |_,_,_=>False)
 |.index t x ix=>(match ai Ty t,ev fr x,ev fr ix with
  |.string,.string s,.int _ i=>inS i s.size/\K (.int .u8 (sb s i.toNat).toNat)
  |_,x,y=>rs (Instr.index t x y) λv=>(Qp Ty o.type).is v K)
 |.extract t i=>acE (ev fr t) i K
 |.call c=>(match c.callee,nD fr c.args.toList with
  |.builtin .len,[.slice a l cap]=>(match c.argTypes.toList with|t::_=>bif Sr (ai Ty t) then K (.int .i64 l) else False|_=>False)
  |.builtin .len,[.string s]=>(match c.argTypes.toList with|t::_=>(match ai Ty t with|.string=>K (.int .i64 s.size)|_=>False)|_=>False)
  |.builtin .len,args=>rs (Builtin.len_ c.argTypes o.type ⟨args⟩) λv=>(Qp Ty o.type).is v K
  |.builtin .min,[.int k a,.int _ b]=>K (.int k (if b<a then b else a))
  |.builtin .max,[.int k a,.int _ b]=>K (.int k (if a<b then b else a))
  |_,_=>False)
 |_=>False
def gM(Ty:TypeId->Option dD)(o:Oper):Bool:=
 match o.op with
 |.move _|.assign _|.pick .. |.build .. |.load .. |.nilCheck _|.binOp .. |.unOp .. |.makeInterface .. |.makeFunc .. |.slice .. |.fieldAddr .. |.field .. |.indexAddr .. |.index .. |.extract ..=>true
 |.convert s d _=>(match ai Ty s,ai Ty d with
  |.int _,.int _=>true
  |.string,.string=>true
  |_,_=>false)
 |.call c=>(match c.callee with
  |.builtin .len|.builtin .min|.builtin .max=>true
  |_=>false)
 |_=>false
def biV(P:Program)(Ty:TypeId->Option dD)(b:Builtin)(tys:Array TypeId)(ty:TypeId)(args:List Value)(w:aiA)(K:Value->aiA->Prop):Prop:=
 match b with
 |.append=>aY P (Builtin.append_ tys ty ⟨args⟩) w λv w'=>(Qp Ty ty).is v λu=>K u w'
 |.copy=>aY P (Builtin.copy_ tys ty ⟨args⟩) w λv w'=>(Qp Ty ty).is v λu=>K u w'
 |.delete=>aY P (Builtin.delete_ tys ty ⟨args⟩) w λv w'=>K v w'
 |.clear=>aY P (Builtin.clear_ tys ty ⟨args⟩) w λv w'=>K v w'
 |.cap=>aY P (Builtin.cap_ tys ty ⟨args⟩) w λv w'=>(Qp Ty ty).is v λu=>K u w'
 |.unsafeSliceData=>aY P (Builtin.unsafeSliceData_ tys ty ⟨args⟩) w λv w'=>(Qp Ty ty).is v λu=>K u w'
 |.unsafeString=>aY P (Builtin.unsafeString_ tys ty ⟨args⟩) w λv w'=>(Qp Ty ty).is v λu=>K u w'
 |_=>False
def ac8(Ty:TypeId->Option dD)(t:TypeId):Sh:=match ai Ty t with
 |.map _ e=>(match Qp Ty e with|.s s=>.tup [s,.one (.int .i64)]|h=>h)
 |_=>.s (.one .val)
def Wn(P:Program)(Ty:TypeId->Option dD)(Fn:FuncId->Bool)(E:aiA->aiA->Prop)(o:Oper)(fr:Fr)(w:aiA)(K:Value->aiA->Prop):Prop:=
 match o.op with
 |.alloc t=>(match Ty t with
  |some i=>(match i.zero with|some z=>new w (.cells ⟨cellsOf z⟩ t) λb w'=>K (.pointer (some ⟨b,0,none⟩)) w'|none=>False)
  |none=>False)
 |.box t x=>new w (.cells ⟨cellsOf (ev fr x)⟩ t) λb w'=>K (.pointer (some ⟨b,0,none⟩)) w'
 |.buildSlice t n ps=>(match ai Ty t with
  |.slice e=>(match Ty e with
   |some i=>(match i.zero with
    |some z=>bif E5 (cellsOf z) i.size&&(Nat.ble n 4096&&Nat.ble i.size 4096)&&Nat.ble 1 i.size then Wl (BD (λk=>some (k*i.size,i.size)) (Ko n (cellsOf z)) (E6 fr ps.toList)) λcs=>new w (.cells ⟨cs⟩ e) λb w'=>K (.slice (some ⟨b,0,none⟩) n n) w' else False
    |none=>False)
   |none=>False)
  |_=>False)
 |.store t a x=>(match ev fr a,Ty t with
  |.pointer a,some i=>nn a λad=>stv w ad i (ev fr x) λw'=>K undef w'
  |_,_=>False)
 |.convert s d x=>aY P (Go.convert s d (ev fr x)) w λv w'=>(Qp Ty d).is v λu=>K u w'
 |.makeMap t none=>new w (.map #[] 0) λb w'=>K (.map (some b)) w'
 |.makeSlice t l c=>(match ai Ty t with
  |.slice e=>(match Ty e,ev fr l,ev fr c with
   |some i,.int _ l,.int _ c=>bif (match i.zero with|some z=>E5 (cellsOf z) i.size|none=>false)&&Nat.ble 1 i.bytes&&Nat.ble 1 i.size then acD l c i e w K else False
   |_,_,_=>False)
  |_=>False)
 |.lookup t m k ok=>aY P (Instr.lookup t (ev fr m) (ev fr k) ok) w λv w'=>(Qp Ty o.type).is v λu=>K u w'
 |.mapUpdate t m k x=>aY P (Instr.mapUpdate t (ev fr m) (ev fr k) (ev fr x)) w λ_ w'=>K undef w'
 |.insert t m k x=>aY P (Instr.mapUpdate t (ev fr m) (ev fr k) (ev fr x)) w λ_ w'=>K undef w'
 |.mapEntry t m k=>aY P (Instr.mapEntry t (ev fr m) (ev fr k)) w λv w'=>(ac8 Ty t).is v λu=>K u w'
 |.entryStore t m s x=>aY P (Instr.entryStore t (ev fr m) (ev fr s) (ev fr x)) w λ_ w'=>K undef w'
 |.range t x=>aY P (Instr.range t (ev fr x)) w λv w'=>(Sh.s (.one .ptr)).is v λu=>K u w'
 |.next it isS=>aY P (Instr.next (ev fr it) isS o.type) w λv w'=>acF v (match isS with|true=>.tup [.one .bool,.one (.int .i64),.one (.int .i32)]|false=>Qp Ty o.type) λu=>K u w'
 |.entry it=>aY P (Instr.entry (ev fr it)) w λv w'=>ac6 v (Qp Ty o.type) λu=>K u w'
 |.typeAssert x t u ok=>aY P (Instr.typeAssert (ev fr x) t u ok) w λv w'=>(Qp Ty o.type).is v λu=>K u w'
 |.call c=>(match c.callee with
  |.builtin b=>biV P Ty b c.argTypes o.type (nD fr c.args.toList) w K
  |.value f=>Wm P Fn E (ev fr f) (nD fr c.args.toList) (Qp Ty o.type) w K (isDir f)
  |.invoke r m=>ago P E (ev fr r) m (nD fr c.args.toList) (Qp Ty o.type) w K)
 |_=>False
def NN(P:Program)(Ty:TypeId->Option dD)(Fn:FuncId->Bool)(E:aiA->aiA->Prop)(o:Oper)(fr:Fr)(w:aiA)(K:Value->aiA->Prop):Prop:=
 bif gM Ty o then wD P Ty (ldv w) (rsW P w) o fr λv=>K v w else Wn P Ty Fn E o fr w K
def Cs.arr:Cs->Type->Type
 |.int _,β=>Int->β
 |.bool,β=>Bool->β
 |.str,β=>ByteArray->β
 |.slice,β=>aiz->Nat->Nat->β
 |.ptr,β=>aiz->β
 |.map,β=>Option Nat->β
 |.fn,β=>FuncId->List Value->β
 |.val,β=>Value->β
 |.ifc,β=>TypeId->Value->β
def Uv:List Cs->Type->Type
 |[],β=>β
 |c::l,β=>c.arr (Uv l β)
def S1.arr:S1->Type->Type
 |.one c,β=>c.arr β
 |.agg l,β=>Uv l β
def G2:List S1->Type->Type
 |[],β=>β
 |c::l,β=>c.arr (G2 l β)
def Cs.cst:(c:Cs)->{β:Type}->β->c.arr β
 |.int _,_,b=>λ_=>b
 |.bool,_,b=>λ_=>b
 |.str,_,b=>λ_=>b
 |.slice,_,b=>λ_ _ _=>b
 |.ptr,_,b=>λ_=>b
 |.map,_,b=>λ_=>b
 |.fn,_,b=>λ_ _=>b
 |.val,_,b=>λ_=>b
 |.ifc,_,b=>λ_ _=>b
def QD:(l:List Cs)->{β:Type}->β->Uv l β
 |[],_,b=>b
 |c::l,_,b=>c.cst (QD l b)
def S1.cst:(c:S1)->{β:Type}->β->c.arr β
 |.one c,_,b=>c.cst b
 |.agg l,_,b=>QD l b
def Uw:(l:List S1)->{β:Type}->β->G2 l β
 |[],_,b=>b
 |c::l,_,b=>c.cst (Uw l b)
def Cs.ap:(c:Cs)->{β:Type}->c.arr β->Value->β->β
 |.int k,_,f,.int k' n,d=>bif Nat.beq (kx k) (kx k') then f n else d
 |.bool,_,f,.bool b,_=>f b
 |.str,_,f,.string s,_=>f s
 |.slice,_,f,.slice a l c,_=>f a l c
 |.ptr,_,f,.pointer a,_=>f a
 |.map,_,f,.map r,_=>f r
 |.fn,_,f,.func (.func g) ⟨[]⟩ ⟨c⟩,_=>f g c
 |.val,_,f,v,_=>f v
 |.ifc,_,f,.iface t v,_=>f t v
 |_,_,_,_,d=>d
def apC:(l:List Cs)->{β:Type}->Uv l β->List Value->β->β
 |[],_,f,[],_=>f
 |c::l,_,f,v::vs,d=>apC l (c.ap f v (QD l d)) vs d
 |_,_,_,_,d=>d
def S1.ap:(c:S1)->{β:Type}->c.arr β->Value->β->β
 |.one c,_,f,v,d=>c.ap f v d
 |.agg l,_,f,.agg cs,d=>apC l f cs.toList d
 |_,_,_,_,d=>d
def Kp:(l:List S1)->{β:Type}->G2 l β->List Value->β->β
 |[],_,f,[],_=>f
 |c::l,_,f,v::vs,d=>Kp l (c.ap f v (Uw l d)) vs d
 |_,_,_,_,d=>d
def NO:List S1->(List Value->Prop)->Prop
 |[],p=>p []
 |c::l,p=>c.all λv=>NO l λvs=>p (v::vs)
def dstsOf:List Oper->List Nat
 |[]=>[]
 |o::l=>match o.dst with|some d=>d::dstsOf l|none=>dstsOf l
def QE:List Nat->List Nat->List Nat
 |[],m=>m
 |x::l,m=>x::QE l m
def sB:Code->List Nat
 |.region _ ops _=>dstsOf ops.toList
 |.seq a b=>QE (sB a) (sB b)
 |.cond _ a b=>QE (sB a) (sB b)
 |.block _ a=>sB a
 |.loop a=>sB a
 |.scope a=>sB a
 |_=>[]
def vj(n:Nat)(d:Nat->Value):List Nat->Fr->Fr
 |[],fr=>fr
 |s::l,fr=>vj n d l (put n fr (some s) (d s))
def wE(fr:Fr):List (Nat×S1)->List Value
 |[]=>[]
 |(s,_)::l=>fl fr s::wE fr l
def qg(n:Nat)(fr:Fr):List (Nat×S1)->List Value->Fr
 |(s,_)::l,v::vs=>qg n (put n fr (some s) v) l vs
 |_,_=>fr
def By:List (Nat×S1)->List S1
 |[]=>[]
 |(_,s)::l=>s::By l
structure aW where
 loops:List (Nat×List (Nat×S1)):=[]
 joins:List (Nat×List (Nat×S1)):=[]
 blocks:List (Nat×List (Nat×S1)):=[]
 rngs:List (Nat×List (Nat×S1)):=[]
def look(k:Nat):List (Nat×List (Nat×S1))->Option (List (Nat×S1))
 |[]=>none
 |(j,x)::l=>bif Nat.beq j k then some x else look k l
def q_:Code->Option Nat
 |.region i _ _=>some i
 |.seq a b=>(match q_ a with|some i=>some i|none=>q_ b)
 |.cond _ a b=>(match q_ a with|some i=>some i|none=>q_ b)
 |.block _ a=>q_ a
 |.loop a=>q_ a
 |.scope a=>q_ a
 |_=>none
def Wo(k:Option Nat)(l:List (Nat×List (Nat×S1))):Option (List (Nat×S1)):=match k with|some k=>look k l|none=>none
def Wp:List Oper->Nat->Option Oper
 |[],_=>none
 |o::_,0=>some o
 |_::l,n+1=>Wp l n
def E7(all:List Oper)(j:Nat):Option Tmp:=match Wp all j with|some o=>o.dst|none=>none
def Sv:Bool->Bool->Bool
 |true,true=>true
 |false,false=>true
 |_,_=>false
def NP(all:List Oper)(fr:Fr)(o:Oper)(yes no:Prop):Prop:=
 match o.guard with
 |none=>yes
 |some (j,t)=>match E7 all j with
  |some d=>(match fl fr d with|.bool b=>bif Sv b t then yes else no|_=>no)
  |none=>no
def Wq:List Oper->Nat->Bool
 |[],_=>false
 |o::l,i=>match o.guard with|some (j,_)=>Nat.beq j i||Wq l i|none=>Wq l i
def G3(g:Bool)(v:Value)(k:Value->Prop):Prop:=
 match g,v with
 |true,.bool b=>aff b λb=>k (.bool b)
 |_,v=>k v
def afj:Op->Bool
 |.entry _=>true
 |_=>false
def aab(Ty:TypeId->Option dD)(d:Nat)(j:Nat):List Oper->S1
 |[]=>.one .val
 |o::l=>match o.op with
  |.extract (.tmp t) i=>(match Nat.beq t d&&Nat.beq i j with
   |true=>(match Qp Ty o.type with|.s x=>x|_=>.one .val)
   |false=>aab Ty d j l)
  |_=>aab Ty d j l
def afk(P:Program)(Ty:TypeId->Option dD)(all:List Oper)(o:Oper)(fr:Fr)(w:aiA)(K:Value->aiA->Prop):Prop:=
 match o.op,o.dst with
 |.entry it,some d=>aY P (Instr.entry (ev fr it)) w λv w'=>exS [aab Ty d 0 all,aab Ty d 1 all] λus=>v=.tuple ⟨us⟩/\K (.tuple ⟨us⟩) w'
 |_,_=>False
section
variable(P:Program)(Ty:TypeId->Option dD)(Fn:FuncId->Bool)(E:aiA->aiA->Prop)(N:Nat)
def opK(all:List Oper)(o:Oper)(fr:Fr)(w:aiA)(K:Value->aiA->Prop):Prop:=
 match afj o.op with
 |true=>afk P Ty all o fr w K
 |false=>NN P Ty Fn E o fr w K
def Dq(all:List Oper):Nat->List Oper->Fr->aiA->(Fr->aiA->Prop)->Prop
 |_,[],fr,w,K=>K fr w
 |i,o::l,fr,w,K=>
  NP all fr o (opK P Ty Fn E all o fr w λv w'=>G3 (Wq all i) v λv=>Dq all (i+1) l (put N fr o.dst v) w' K)
   (Dq all (i+1) l (put N fr o.dst undef) w K)
def Wr:List Bool->Nat->Bool
 |[],_=>true
 |b::_,0=>b
 |_::l,n+1=>Wr l n
def Sw:List Bool->Nat->Bool
 |[],_=>false
 |b::_,0=>b
 |_::l,n+1=>Sw l n
def kP:List Bool->Nat->List Bool
 |[],_=>[]
 |_::l,0=>true::l
 |b::l,n+1=>b::kP l n
def G4(ls:List Bool):List Edge->Bool
 |[]=>true
 |e::l=>(match e.ground with|.textOnly _|.gcOnly _=>true|_=>Sw ls e.on)&&G4 ls l
def NQ(ls:List Bool)(i:Nat)(o:Oper):Bool:=!Wr ls i&&G4 ls o.after.toList
def jL(Ty:TypeId->Option dD)(ls:List Bool):Nat->List Oper->Option (Nat×Oper)
 |_,[]=>none
 |i,o::l=>bif gM Ty o&&NQ ls i o then some (i,o) else jL Ty ls (i+1) l
def gE(ls:List Bool):Nat->List Oper->List (Nat×Oper)
 |_,[]=>[]
 |i,o::l=>bif NQ ls i o then(i,o)::gE ls (i+1) l else gE ls (i+1) l
def Sx(n:Nat):List Bool:=match n with|0=>[]|n+1=>false::Sx n
def wF(x:Nat):List Nat->Bool
 |[]=>false
 |y::l=>Nat.beq x y||wF x l
def aac:Option Operand->List Operand->List Operand
 |none,l=>l
 |some x,l=>x::l
def aad:List Operand->List Operand->List Operand
 |[],m=>m
 |x::l,m=>x::aad l m
def aae:List (Nat×Operand)->List Operand
 |[]=>[]
 |(_,x)::l=>x::aae l
def Ws:Op->List Operand
 |.move x|.assign x|.box _ x|.load _ x|.nilCheck x|.unOp _ _ x|.convert _ _ x|.makeInterface _ x|.fieldAddr _ x _|.field _ x _|.range _ x|.next x _|.typeAssert x _ _ _|.extract x _=>[x]
 |.pick c a b=>[c,a,b]
 |.build _ ps|.buildSlice _ _ ps=>aae ps.toList
 |.store _ a v|.binOp _ _ a v _|.makeSlice _ a v|.indexAddr _ a v|.index _ a v|.lookup _ a v _|.mapEntry _ a v=>[a,v]
 |.makeFunc _ first cap=>aad first.toList cap.toList
 |.slice _ x l h m=>x::aac l (aac h (aac m []))
 |.mapUpdate _ m k v|.entryStore _ m k v|.insert _ m k v=>[m,k,v]
 |.call c=>(match c.callee with|.value f=>f::c.args.toList|.invoke r _=>r::c.args.toList|.builtin _=>c.args.toList)
 |o=>o.operands.toList
def Kq:List Operand->List Nat->List Nat
 |[],m=>m
 |.tmp t::l,m=>t::Kq l m
 |_::l,m=>Kq l m
def looks(all:List Oper)(o:Oper):List Nat:=
 Kq (Ws o.op) (match o.guard with|some (g,_)=>(match E7 all g with|some d=>[d]|none=>[])|none=>[])
def LI(d:Option Tmp)(l:List Nat):Bool:=match d with|some d=>!wF d l|none=>true
def acG(a b:Option Tmp):Bool:=match a,b with|some a,some b=>!Nat.beq a b|_,_=>true
def Dr(all:List Oper)(x y:Oper):Bool:=LI x.dst (looks all y)&&acG x.dst y.dst&&LI y.dst (looks all x)
def waits(i:Nat):List Edge->Bool
 |[]=>false
 |e::l=>(match e.ground with|.textOnly _|.gcOnly _=>false|_=>Nat.beq e.on i)||waits i l
def Sy(all:List Oper)(ls:List Bool)(i:Nat)(o:Oper):Nat->List Oper->Bool
 |_,[]=>true
 |j,p::l=>(Nat.beq j i||Wr ls j||waits i p.after.toList||Dr all o p)&&Sy all ls i o (j+1) l
def ac9:List (Nat×Oper)->(Nat×Oper->Prop)->Prop
 |[],_=>True
 |[x],f=>f x
 |x::l,f=>f x/\ac9 l f
def BE:List Edge->List Nat->List Nat
 |[],m=>m
 |e::l,m=>match e.ground with|.textOnly _|.gcOnly _=>BE l m|_=>e.on::BE l m
def clo(all:List Oper):Nat->List Nat->List Nat->List Nat
 |0,_,done=>done
 |_+1,[],done=>done
 |n+1,j::todo,done=>match wF j done with
  |true=>clo all n todo done
  |false=>clo all n (match Wp all j with|some o=>BE o.after.toList todo|none=>todo) (j::done)
def Kr(Ty:TypeId->Option dD)(cl:List Nat):Nat->List Oper->Bool
 |_,[]=>false
 |i,o::l=>(gM Ty o&& !wF i cl)||Kr Ty cl (i+1) l
def afl(Ty:TypeId->Option dD)(all:List Oper)(es:List Edge):Bool:=Kr Ty (clo all 1000 (BE es []) []) 0 all
def LJ(Ty:TypeId->Option dD)(o:Oper):Bool:=match o.op with|.move _|.assign _|.indexAddr .. |.fieldAddr ..=>true|.binOp _ t _ _ _=>Su (ai Ty t)|_=>false
def BF(Ty:TypeId->Option dD)(o:Oper):Bool:=gM Ty o&& !LJ Ty o
def Af(Ty:TypeId->Option dD)(cl:List Nat):Nat->List Oper->Bool
 |_,[]=>false
 |i,o::l=>(BF Ty o&& !wF i cl)||Af Ty cl (i+1) l
def G5(Ty:TypeId->Option dD)(all:List Oper)(es:List Edge):Bool:=Af Ty (clo all 1000 (BE es []) []) 0 all
def Ks(Ty:TypeId->Option dD)(all:List Oper)(o:Oper):Bool:=match o.op with|.store ..=>G5 Ty all o.after.toList|_=>afl Ty all o.after.toList
def ac_(o:Oper):Bool:=match o.op with|.load ..=>true|_=>false
def acH(all:List Oper)(i:Nat):List Oper->Bool
 |[]=>false
 |o::l=>(ac_ o&&wF i (clo all 1000 (BE o.after.toList []) []))||acH all i l
def cCs(b s:Bool)(C:aiA->Prop)(w':aiA)(f:(aiA->Prop)->Prop):Prop:=
 match b with
 |true=>(match s with|true=>∃C':aiA->Prop,C' w'/\(∀w,C' w->C w)/\f C'|false=>C w'/\f C)
 |false=>f C
def E8(C:aiA->Prop)(all:List Oper)(K:Fr->aiA->Prop):Nat->List Bool->Fr->aiA->Prop
 |0,ls,fr,w=>(match gE ls 0 all with|[]=>K fr w|_=>False)
 |n+1,ls,fr,w=>
  match jL Ty ls 0 all with
  |some (i,o)=>pj (Sy all ls i o 0 all) (
    NP all fr o (wD P Ty (ldC C) (rsC P C) o fr λv=>G3 (Wq all i) v λv=>E8 C all K n (kP ls i) (put N fr o.dst v) w)
     (E8 C all K n (kP ls i) (put N fr o.dst undef) w))
  |none=>match gE ls 0 all with
   |[]=>K fr w
   |es=>ac9 es λx=>
     NP all fr x.2 (Wn P Ty Fn E x.2 fr w λv w'=>G3 (Wq all x.1) v λv=>cCs (Ks Ty all x.2) (acH all x.1 all) C w' λC=>E8 C all K n (kP ls x.1) (put N fr x.2.dst v) w')
      (E8 C all K n (kP ls x.1) (put N fr x.2.dst undef) w)
def Sz:List Oper->Bool
 |[]=>true
 |o::l=>(match o.op with|.select ..=>false|_=>true)&&Sz l
def drawn(w w':aiA):Prop:=w'={ w with drawn:=w.drawn+1 }
def aaf(ops:List Oper)(draw:Bool)(fr:Fr)(w:aiA)(K:Fr->aiA->Prop):Prop:=
 match draw with
 |false=>Dq P Ty Fn E N ops 0 ops fr w K
 |true=>pj (Sz ops) (∀w',drawn w w'->∃C:aiA->Prop,C w'/\E8 P Ty Fn E N C ops K (lenO ops) (Sx (lenO ops)) fr w')
where
 lenO:List Oper->Nat
  |[]=>0
  |_::l=>Nat.succ (lenO l)
def afm(n:Nat)(lv:List (Nat×S1))(ws:List Nat)(fr:Fr)(w:aiA)(body:Fr->aiA->(Fr->aiA->Prop)->Prop):Prop:=
 ∃(I:G2 (By lv) (aiA->Prop))(m:G2 (By lv) (aiA->Nat)),
  Kp (By lv) I (wE fr lv) (λ_=>False) w/\
  ∀(d:Nat->Value),NO (By lv) λvs=>∀w,Kp (By lv) I vs (λ_=>False) w->
   body (qg n (vj n d ws fr) lv vs) w λfr' w'=>
    Kp (By lv) I (wE fr' lv) (λ_=>False) w'/\Kp (By lv) m (wE fr' lv) (λ_=>0) w'<Kp (By lv) m vs (λ_=>0) w
def acI(n:Nat)(lv:List (Nat×S1))(ws:List Nat)(fr:Fr)(a:(Fr->aiA->Prop)->Prop)(b:Fr->aiA->Prop):Prop:=
 ∃J:G2 (By lv) (aiA->Prop),a (λfr' w'=>Kp (By lv) J (wE fr' lv) (λ_=>False) w')/\
  ∀(d:Nat->Value),NO (By lv) λvs=>∀w,Kp (By lv) J vs (λ_=>False) w->b (qg n (vj n d ws fr) lv vs) w
def dT:Code->Bool
 |.rangeFunc ..=>true
 |.seq a b=>dT a||dT b
 |.cond _ a b=>dT a||dT b
 |.block _ a=>dT a
 |.loop a=>dT a
 |.scope a=>dT a
 |_=>false
def NR(M L:List aE):Prop:=∀h,aF M h->aF L h
def Z5(P:Program)(g:FuncId)(first cap:List Value)(D Q:aE)(xs:List (List Value)):Prop:=
 ∀(l:Nat)(E:aiA->aiA->Prop),Jt E->∀(J:Nat->aE)(Jx:aE)(L:List aE)(w0:aiA),St w0 (J 0::D::L)->(∀h,aF L h->Q h)->
  (∀i us,xs[i]? =some us->∀M w,NR M L->St w (J i::M)->yld P E l us w λv w'=>(v=.bool true/\St w' (J (i+1)::M))\/(v=.bool false/\St w' (Jx::M)))->
  iA P E g (Fz first [.func (.yield l) #[] #[]] cap) w0 λ_ w'=>St w' (J xs.length::D::L)\/St w' (Jx::D::L)
def wG:List Nat->List (Nat×S1)->Bool
 |[],[]=>true
 |a::l,(b,_)::m=>Nat.beq a b&&wG l m
 |_,_=>false
def kQ:Code->List Nat
 |.exit i=>[i]
 |.seq a b=>QE (kQ a) (kQ b)
 |.cond _ a b=>QE (kQ a) (kQ b)
 |.block i a=>delN i (kQ a)
 |.loop a=>kQ a
 |.scope a=>kQ a
 |_=>[]
where delN (i:Nat):List Nat->List Nat
 |[]=>[]
 |j::l=>bif Nat.beq j i||wF j l then delN i l else j::delN i l
def ade:List Nat->(Nat->Prop)->Prop
 |[],_=>True
 |[j],p=>p j
 |j::l,p=>p j/\ade l p
def afn(P:Program)(g:FuncId)(first cap:List Value)(sh:List S1)(exs:List Nat)(w:aiA)
  (asg:List Value->aiA->(Fr->aiA->Prop)->Prop)
  (bd:Fr->aiA->(aiA->Prop)->(aiA->Prop)->(Nat->aiA->Prop)->Prop) (n r:aiA->Prop) (x:Nat->aiA->Prop):Prop:=
 ∃(xs:List (List Value))(D Q:aE)(J:Nat->aE)(Jr:aE)(Jx:Nat->aE)(L:List aE),St w (J 0::D::L)/\(∀h,aF L h->Q h)/\Z5 P g first cap D Q xs/\
  (∀us,us∈xs->exS sh λvs=>us=vs)/\
  (∀i,NO sh λvs=>xs[i]? =some vs->∀L' w,NR L' L->St w (J i::L')->
   asg vs w λfr1 w1=>∃M:aE,St w1 (M::L')/\∀L' w,NR L' L->St w (M::L')->
    bd fr1 w (λw'=>St w' (J (i+1)::L')) (λw'=>St w' (Jr::L')) (λj w'=>pj (wF j exs) (St w' (Jx j::L'))))/\
  (∀w',St w' (J xs.length::D::L)->n w')/\(∀w',St w' (Jr::D::L)->r w')/\ade exs λj=>∀w',St w' (Jx j::D::L)->x j w'
def den(A:aW):Code->Fr->aiA->(Fr->aiA->Prop)->(Fr->aiA->Prop)->(Nat->Fr->aiA->Prop)->Prop
 |.skip,fr,w,n,r,x=>n fr w
 |.region _ ops draw,fr,w,n,r,x=>aaf P Ty Fn E N ops.toList draw fr w n
 |.seq a b,fr,w,n,r,x=>
  (match Wo (q_ b) A.joins with
  |some lv=>acI N lv (sB a) fr (λn'=>den A a fr w n' r x) (λfr w=>den A b fr w n r x)
  |none=>den A a fr w (λfr w=>den A b fr w n r x) r x)
 |.cond c a b,fr,w,n,r,x=>brV (ev fr c) (den A a fr w n r x) (den A b fr w n r x)
 |.block i a,fr,w,n,r,x=>
  (match look i A.blocks with
  |some lv=>acI N lv (sB a) fr (λn'=>den A a fr w n' r λj fr w=>bif Nat.beq j i then n' fr w else x j fr w) n
  |none=>den A a fr w n r λj fr w=>bif Nat.beq j i then n fr w else x j fr w)
 |.loop a,fr,w,n,r,x=>
  (match Wo (q_ a) A.loops with
  |some lv=>afm N lv (sB a) fr w λfr w n'=>den A a fr w n' r x
  |none=>False)
 |.exit i,fr,w,n,r,x=>x i fr w
 |.ret,fr,w,n,r,x=>r fr w
 |.label _,fr,w,n,r,x=>n fr w
 |.scope a,fr,w,n,r,x=>den A a fr w n r x
 |.rangeFunc f ps a b,fr,w,n,r,x=>
  pj (!dT a&& !dT b) (match ev fr f,Wo (q_ (.seq a b)) A.rngs with
   |.func (.func g) first cap,some lv=>pj (wG ps.toList lv) (pj (Fn g)
    (afn P g first.toList cap.toList (By lv) (kQ b) w
     (λvs w K=>den A a (qg N fr lv vs) w K (λ_ _=>False) (λ_ _ _=>False))
     (λfr1 w n' r' x'=>den A b fr1 w (λ_ w=>n' w) (λ_ w=>r' w) (λj _ w=>x' j w)) (n fr) (r fr) (λj=>x j fr)))
   |_,_=>False)
 |_,fr,w,n,r,x=>False
end
def Jw(P:Program)(Ty:TypeId->Option dD)(rs:List ResultVar)(fr:Fr)(w:aiA)(R:Value->Prop):Prop:=
 let rec go:List ResultVar->(List Value->Prop)->Prop
  |[],k=>k []
  |.tmp t::l,k=>go l λvs=>k (fl fr t::vs)
  |.cell a t::l,k=>(match fl fr a,Ty t with
   |.pointer a,some i=>nn a λad=>ldv w ad i λv=>go l λvs=>k (v::vs)
   |_,_=>False)
 go rs λvs=>match vs with|[v]=>R v|vs=>R (.tuple ⟨vs⟩)
def FA:Nat->List Value->Fr
 |_,[]=>[]
 |i,v::l=>(i,v)::FA (i+1) l
def QF(c:Code)(R:Value->aiA->Prop)(v:Value)(w:aiA):Prop:=bif dT c then∀a,hp a=hp w->R v a else R v w
def Z6(P:Program)(Ty:TypeId->Option dD)(Fn:FuncId->Bool)(E:aiA->aiA->Prop)(A:aW)(fn:Func)(args:List Value)(w:aiA)(R:Value->aiA->Prop):Prop:=
 match fn.body with
 |some c=>bif leL args fn.ntmps then
   den P Ty Fn E fn.ntmps A c (FA 0 args) w (λa b=>Jw P Ty fn.results.toList a b λa=>QF c R a b) (λa b=>Jw P Ty fn.results.toList a b λa=>QF c R a b) (λ_ _ _=>False)
  else False
 |none=>False
def Dt(P:Program)(E:aiA->aiA->Prop)(o:Oper)(ρ:Operand->Value)(w:aiA)(K:Value->aiA->Prop):Prop:=
 match(execOp ρ o).run P w with
 |.ok (.value v) w'=>E w w'/\K v w'
 |.ok .skip w'=>E w w'/\K undef w'
 |.ok (.enter f args) w'=>E w w'/\Calls P f args w' λe w''=>∃v,e=.returned v/\E w' w''/\K v w''
 |.ok (.round l f tmps assign body) w'=>E w w'/\RoundIn Fence.wide 0 P l f tmps assign body w' λe w''=>∃v,e=.returned v/\E w' w''/\K v w''
 |_=>False
theorem Dt.mono{P:Program}{E:aiA->aiA->Prop}{o:Oper}{ρ:Operand->Value}{w:aiA}{K K':Value->aiA->Prop}(h:Dt P E o ρ w K)(hk:∀v w',E w w'->K v w'->K' v w')
  (ht:∀{a b c:aiA},E a b->E b c->E a c):Dt P E o ρ w K':=by
 unfold Dt at*
 split at h
 ·simp_all
 ·simp_all
 ·grind[Calls.mono]
 ·grind[RoundIn.mono]
 omega
def Du(P:Program):TypeDesc->List (Nat×Nat×Bool)
 |.struct fs=>fs.toList.map λf=>(f.offset,P.cellsOf f.type,match P.underlying f.type with|some (.struct _)|some (.array ..)=>true|_=>false)
 |_=>[]
structure agp(P:Program)(t:TypeId)(i:dD)(info:TypeInfo)(d:TypeDesc):Prop where
 inf:P.info? t=some info
 und:P.underlying t=some d
 kd:i.kd=iz d
 size:i.size=info.size
 bytes:i.bytes=info.bytes
 zero:i.zero=info.zero
 flds:i.flds=Du P d
 ok:Dm P d=true
theorem sE{P:Program}{Ty:TypeId->Option dD}(h:ec P Ty){t:TypeId}{i:dD}(hi:Ty t=some i):∃info d,agp P t i info d:=by
 obtain⟨c,this⟩:=h t i hi;unfold tyi at this
 split at this
 ·rename_i a b ha hb;simp only[Bool.cond_eq_ite] at this
  split at this
  ·rename_i hok;have e:=Option.some.inj this;exact⟨a,b,ha,hb,(congrArg dD.kd e).symm,(congrArg dD.size e).symm,(congrArg dD.bytes e).symm,(congrArg dD.zero e).symm,(congrArg dD.flds e).symm.trans (by rfl),hok⟩
  simp_all
 simp_all
theorem QG{Ty:TypeId->Option dD}{t:TypeId}{k:Kd}(h:ai Ty t=k)(hk:k≠.other):∃i,Ty t=some i/\i.kd=k:=by grind[ai,absurd]
theorem fm{d:TypeDesc}{e:TypeId}(h:Kd.slice e=iz d):d=.slice e:=by cases d<;>simp[iz] at h;simp_all
theorem NS{d:TypeDesc}{n:Nat}{e:TypeId}(h:Kd.array n e=iz d):d=.array n e:=by cases d<;>simp[iz] at h;simp_all
theorem QH{d:TypeDesc}{e:IntKind}(h:Kd.int e=iz d):d=.int e:=by cases d<;>simp[iz] at h;simp_all
theorem sG{d:TypeDesc}(h:Kd.string=iz d):d=.string:=by cases d<;>simp[iz] at h;rfl
theorem aag{d:TypeDesc}(h:Kd.bool=iz d):d=.bool:=by cases d<;>simp[iz] at h;rfl
theorem QI{d:TypeDesc}{e:TypeId}(h:Kd.ptr e=iz d):d=.pointer e:=by cases d<;>simp[iz] at h;simp_all
theorem adf{d:TypeDesc}{k e:TypeId}(h:Kd.map k e=iz d):d=.map k e:=by cases d<;>simp[iz] at h;simp_all
theorem Dw{d:TypeDesc}(h:Kd.struct=iz d):∃fs,d=.struct fs:=by cases d<;>simp[iz] at h;simp
theorem aah{d:TypeDesc}(h:Kd.func=iz d):∃a b c,d=.func a b c:=by cases d<;>simp[iz] at h;simp
theorem dJ{P:Program}{Ty:TypeId->Option dD}(h:ec P Ty){t:TypeId}{k:Kd}(hk:ai Ty t=k)(hne:k≠.other):∃d,P.underlying t=some d/\k=iz d:=by
 obtain⟨i,hi,u⟩:=QG hk hne;obtain⟨J,d,ha⟩:=sE h hi;exact⟨d,ha.und,by rw[<-u,ha.kd]⟩
section
variable{P:Program}{w:aiA}
theorem bn{t:TypeId}{d:TypeDesc}(h:P.underlying t=some d):(underlying t).run P w=.ok d w:=by simp[underlying,h]
theorem NT{t:TypeId}{i:TypeInfo}(h:P.info? t=some i):(typeInfo t).run P w=.ok i w:=by simp[typeInfo,h]
theorem cY{t:TypeId}{i:TypeInfo}(h:P.info? t=some i):(sizeOf t).run P w=.ok i.size w:=by simp[sizeOf,typeInfo,h]
theorem mR{t:TypeId}{i:TypeInfo}{z:Value}(h:P.info? t=some i)(hz:i.zero=some z):(zeroValue t).run P w=.ok z w:=by simp_all[zeroValue,typeInfo]
theorem mj{t:TypeId}{d:TypeDesc}(h:P.underlying t=some d):(isAgg t).run P w=.ok (iz d).isAgg w:=by
 simp only[isAgg,Sem.run_bind,bn h,Result.andThen_ok];cases d<;>simp[iz,Kd.isAgg]
theorem yw{Ty:TypeId->Option dD}(h:ec P Ty){t:TypeId}{s:Nat}(hs:Kn Ty t=some s):∃info,P.info? t=some info/\info.size=s:=by
 unfold Kn at hs
 split at hs
 ·rename_i i hi;obtain⟨info,d,ha⟩:=sE h hi;cases hs;exact⟨info,ha.inf,ha.size.symm⟩
 simp_all
theorem E9:∀(n i:Nat)(a:Addr)(vs:List Value),rowAt w a i n=some vs->vs.length=n/\∀j v,vs[j]? =some v->w.cell? (a.add (i+j))=some v
 |0,i,a,vs,h=>by simp_all[rowAt]
 |n+1,i,a,vs,h=>by
  unfold rowAt at h
  split at h
  ·rename_i v us hv hus
   cases h
   obtain⟨h1,h2⟩:=E9 n (i+1) a us hus
   grind
  simp_all
def qF(w:aiA)(a:Addr)(i:dD)(v:Value):Prop:=
 match i.kd.isAgg with
 |true=>∃vs,rowAt w a 0 i.size=some vs/\v=.agg ⟨vs⟩
 |false=>w.cell? a=some v
theorem Kt{Ty:TypeId->Option dD}(h:ec P Ty){t:TypeId}{i:dD}(hi:Ty t=some i){a:Addr}{v:Value}(hl:qF w a i v):(loadVar t a).run P w=.ok v w:=by
 obtain⟨u,d,ha⟩:=sE h hi;unfold qF at hl;simp only[loadVar,Sem.run_bind,mj ha.und,Result.andThen_ok,<-ha.kd];cases hk:i.kd.isAgg with
 |true=>
  rw[hk] at hl;obtain⟨vs,O,rfl⟩:=hl;obtain⟨U,W⟩:=E9 _ _ _ _ O;have J:u.size=vs.length:=by rw[U,ha.size]
  have:=run_loadCells_list (P:=P) w a vs (λj v V=>by simp_all);simp[cY ha.inf,J,this]
 |false=>
  simp_all
theorem NU{a:Addr}{i:dD}{k:Value->Prop}(h:ldv w a i k):∃v,qF w a i v/\k v:=by
 unfold ldv at h
 split at h
 ·simp_all
 ·split at h
  ·rename_i hk _;obtain⟨vs,_,J,u⟩:=GY h;exact⟨_,by unfold qF;simp_all,u⟩
  ·rename_i hk _;obtain⟨v,O,u⟩:=Cs.n_ h
   simp_all[qF]
  simp_all
theorem Wt{C:aiA->Prop}{a:Addr}{i:dD}{k:Value->Prop}(h:ldC C a i k):∃v,(∀w,C w->qF w a i v)/\k v:=by
 unfold ldC at h
 split at h
 ·simp_all
 ·split at h
  ·rename_i hk _;obtain⟨vs,_,O,u⟩:=GY h;exact⟨_,λw J=>by unfold qF;simp_all,u⟩
  ·rename_i hk _;obtain⟨v,U,u⟩:=Cs.n_ h
   grind[qF]
  simp_all
end
section
variable{P:Program}{Ty:TypeId->Option dD}
theorem oY{wd:Bool}{k:IntKind}{z:Int}{K:Value->Prop}(h:NL wd k z K):K (.int k (k.wrap z)):=by
 unfold NL at h
 split at h
 ·split at h
  ·exact h
  ·rw[Sp h.1];exact h.2
 ·exact h
theorem Ux{wd:Bool}{op:BinOp}{k k':IntKind}{a b:Int}{t:TypeId}{K:Value->Prop}(hk:(LG op||Nat.beq (kx k) (kx k'))=true)(h:Wj wd op k a b K):
  ∃v,(∀w,(Go.binOp op t (.int k a) (.int k' b)).run P w=.ok v w)/\K v:=by
 have u:LG op=false->k=k':=λJ=>Wh (by simp_all);unfold Wj at h;cases op<;>dsimp only at h
 case add=>refine⟨_,λw=>?_,oY h⟩;simp[Go.binOp,<-u rfl,Op.intArith]
 case sub=>refine⟨_,λw=>?_,oY h⟩;simp[Go.binOp,<-u rfl,Op.intArith]
 case mul=>refine⟨_,λw=>?_,oY h⟩;simp[Go.binOp,<-u rfl,Op.intArith]
 case quo=>refine⟨_,λw=>?_,oY h.2⟩;simp[Go.binOp,<-u rfl,Op.intDiv,show¬b=0 from h.1]
 case rem=>refine⟨_,λw=>?_,h.2⟩;simp[Go.binOp,<-u rfl,Op.intDiv,show¬b=0 from h.1]
 case and=>refine⟨_,λw=>?_,h⟩;simp[Go.binOp,<-u rfl,Op.intBits,ph]
 case or=>refine⟨_,λw=>?_,h⟩;simp[Go.binOp,<-u rfl,Op.intBits,ph]
 case xor=>refine⟨_,λw=>?_,h⟩;simp[Go.binOp,<-u rfl,Op.intBits,ph]
 case andNot=>refine⟨_,λw=>?_,h⟩;simp[Go.binOp,<-u rfl,Op.intBits,ph]
 case eql=>refine⟨_,λw=>?_,h⟩;simp[Go.binOp,<-u rfl,Op.intCmp]
 case neq=>refine⟨_,λw=>?_,h⟩;simp[Go.binOp,<-u rfl,Op.intCmp]
 case lss=>refine⟨_,λw=>?_,h⟩;simp[Go.binOp,<-u rfl,Op.intCmp]
 case leq=>refine⟨_,λw=>?_,h⟩;simp[Go.binOp,<-u rfl,Op.intCmp]
 case gtr=>refine⟨_,λw=>?_,h⟩;simp[Go.binOp,<-u rfl,Op.intCmp]
 case geq=>refine⟨_,λw=>?_,h⟩;simp[Go.binOp,<-u rfl,Op.intCmp]
 case shl=>refine⟨_,λw=>?_,h.2⟩;simp[Go.binOp,Op.shift,Wi,Int.not_lt.2 h.1]
 case shr=>refine⟨_,λw=>?_,h.2⟩;simp[Go.binOp,Op.shift,aZ,Int.not_lt.2 h.1]
theorem Uy{op:BinOp}{a b:ByteArray}{t:TypeId}{K:Value->Prop}(h:Wk op a b K):
  ∃v,(∀w,(Go.binOp op t (.string a) (.string b)).run P w=.ok v w)/\K v:=by
 unfold Wk at h;cases op<;>dsimp only at h<;>first|exact h.elim|skip
 case add=>
  refine⟨_,λw=>?_,h.2⟩
  simp_all[Go.binOp,Op.stringOp]
 all_goals simp_all[Go.binOp,Op.stringOp]
theorem G6{op:BinOp}{t:TypeId}{xo yo:Operand}{x y:Value}{w:aiA}(h:∀a b,¬(x=.agg a/\y=.agg b))(h2:¬(x=.nilIface/\y=.nilIface)):
  (eqGuard op t xo yo x y).run P w=.ok () w:=by simp_all[eqGuard]
theorem BG{op:BinOp}{t:TypeId}{x y:Value}{r:Bool}{K:Value->Prop}(he:∀w,(Op.equal t x y).run P w=.ok r w)
  (hb:∀op,(op=.eql\/op=.neq)->Go.binOp op t x y=(match op with|.eql=>(do pure (.bool (<-Op.equal t x y)))|_=>(do pure (.bool (!(<-Op.equal t x y)))))) (h:eqB op r K):
  ∃v,(∀w,(Go.binOp op t x y).run P w=.ok v w)/\K v:=by
 unfold eqB at h;cases op<;>dsimp only at h<;>first|exact h.elim|skip
 case eql=>simp_all
 simp_all
theorem fo{c:Bool}{p:Prop}(h:bif c then p else False):c=true/\p:=by simp_all
theorem Uz(d:Nat){t:TypeId}(h:P.underlying t=some .bool)(a b:Bool)(w:aiA):(Op.equalIn (d+1) t (.bool a) (.bool b)).run P w=.ok (a==b) w:=by
 simp[Op.equalIn,bn h]
theorem QJ{t:TypeId}(h:P.underlying t=some .bool)(a b:Bool)(w:aiA):(Op.equal t (.bool a) (.bool b)).run P w=.ok (a==b) w:=Uz 9999 h a b w
theorem LK(d:Nat){t e:TypeId}(h:P.underlying t=some (.pointer e))(a:aiz)(w:aiA):(Op.equalIn (d+1) t (.pointer a) (.pointer none)).run P w=.ok a.isNone w:=by
 cases a<;>simp[Op.equalIn,bn h]
theorem Jy{t e:TypeId}(h:P.underlying t=some (.pointer e))(a:aiz)(w:aiA):(Op.equal t (.pointer a) (.pointer none)).run P w=.ok a.isNone w:=LK 9999 h a w
theorem G8(d:Nat){t e:TypeId}(h:P.underlying t=some (.slice e))(a:aiz)(l c l' c':Nat)(w:aiA):(Op.equalIn (d+1) t (.slice a l c) (.slice none l' c')).run P w=.ok a.isNone w:=by
 cases a<;>simp[Op.equalIn,bn h]
theorem FB{t e:TypeId}(h:P.underlying t=some (.slice e))(a:aiz)(l c l' c':Nat)(w:aiA):(Op.equal t (.slice a l c) (.slice none l' c')).run P w=.ok a.isNone w:=G8 9999 h a l c l' c' w
theorem LL(d:Nat){t k e:TypeId}(h:P.underlying t=some (.map k e))(a:Option Nat)(w:aiA):(Op.equalIn (d+1) t (.map a) (.map none)).run P w=.ok a.isNone w:=by
 cases a<;>simp[Op.equalIn,bn h]
theorem Jz{t k e:TypeId}(h:P.underlying t=some (.map k e))(a:Option Nat)(w:aiA):(Op.equal t (.map a) (.map none)).run P w=.ok a.isNone w:=LL 9999 h a w
theorem JA(d:Nat){t:TypeId}{a b:Array TypeId}{c:Bool}(h:P.underlying t=some (.func a b c))(f:Fn)(x y:Array Value)(w:aiA):(Op.equalIn (d+1) t (.func f x y) .nilFunc).run P w=.ok false w:=by
 simp[Op.equalIn,bn h]
theorem G9{t:TypeId}{a b:Array TypeId}{c:Bool}(h:P.underlying t=some (.func a b c))(f:Fn)(x y:Array Value)(w:aiA):(Op.equal t (.func f x y) .nilFunc).run P w=.ok false w:=JA 9999 h f x y w
theorem mn{op:BinOp}{t:TypeId}{xo yo:Operand}{x y:Value}{K:Value->Prop}(h1:∀a b,¬(x=.agg a/\y=.agg b))(h2:¬(x=.nilIface/\y=.nilIface))
  (h:∃v,(∀w,(Go.binOp op t x y).run P w=.ok v w)/\K v):∃v,(∀w,(do eqGuard op t xo yo x y;Go.binOp op t x y:Sem Value).run P w=.ok v w)/\K v:=by simp_all[G6]
theorem aai{op:BinOp}{t:Bool}{K:Value->Prop}(h:eqQ op t λq=>K (.bool q)):eqB op t K:=by simp_all[eqQ,eqB]
theorem Wu(hT:ec P Ty){C:aiA->Prop}{rs:Sem Value->(Value->Prop)->Prop}(hrs:∀s k,rs s k->∃v,(∀w,C w->s.run P w=.ok v w)/\k v)
  {op:BinOp} {t:TypeId} {xo yo:Operand} {x y:Value} {K:Value->Prop} (h:ac4 Ty rs op t xo yo x y K):
  ∃v,(∀w,C w->(do eqGuard op t xo yo x y;Go.binOp op t x y:Sem Value).run P w=.ok v w)/\K v:=by
 have all:(∃v,(∀w,(do eqGuard op t xo yo x y;Go.binOp op t x y:Sem Value).run P w=.ok v w)/\K v)->∃v,(∀w,C w->(do eqGuard op t xo yo x y;Go.binOp op t x y:Sem Value).run P w=.ok v w)/\K v:=
  λ⟨v,a,b⟩=>⟨v,λw _=>a w,b⟩
 unfold ac4 at h
 split at h
 ·obtain⟨hc,h⟩:=fo h;exact all (mn σ σ (Ux hc h))
 ·exact all (mn σ σ (Uy h))
 ·split at h
  ·rename_i hk;obtain⟨d,J,u⟩:=dJ hT hk σ;rw[aag u] at J;exact all (mn σ σ (BG (QJ J _ _) (λop O=>by rcases O with rfl|rfl<;>simp[Go.binOp]) h))
  simp_all
 ·unfold ac3 at h
  split at h
  ·obtain⟨hc,h⟩:=fo h;cases hk:ai Ty t<;>rw[hk] at hc<;>simp[acB] at hc;obtain⟨d,J,u⟩:=dJ hT hk σ;rw[QI u] at J;exact all (mn σ σ (BG (Jy J _) (λop O=>by rcases O with rfl|rfl<;>simp[Go.binOp]) (aai h)))
  ·obtain⟨v,U,b,rfl,V⟩:=hrs _ _ h;exact⟨_,U,V⟩
 ·obtain⟨hc,h⟩:=fo h;cases hk:ai Ty t<;>rw[hk] at hc<;>simp[Sr] at hc;obtain⟨d,J,u⟩:=dJ hT hk σ;rw[fm u] at J;exact all (mn σ σ (BG (FB J _ _ _ _ _) (λop O=>by rcases O with rfl|rfl<;>simp[Go.binOp]) h))
 ·split at h
  ·rename_i hk;obtain⟨d,J,u⟩:=dJ hT hk σ;obtain⟨_,_,_,W⟩:=aah u;rw[W] at J;exact all (mn σ σ (BG (G9 J _ _ _) (λop O=>by rcases O with rfl|rfl<;>simp[Go.binOp]) h))
  simp_all
 ·obtain⟨hc,h⟩:=fo h;cases hk:ai Ty t<;>rw[hk] at hc<;>simp[acC] at hc;obtain⟨d,J,u⟩:=dJ hT hk σ;rw[adf u] at J;exact all (mn σ σ (BG (Jz J _) (λop O=>by rcases O with rfl|rfl<;>simp[Go.binOp]) h))
 ·obtain⟨v,U,b,rfl,V⟩:=hrs _ _ h;exact⟨_,U,V⟩
end
section
variable{P:Program}{Ty:TypeId->Option dD}
theorem dU(v:Value):cellsOf v=v.cells.toList:=by cases v<;>rfl
theorem NV:∀(vs:List Value)(off k:Nat)(cs:List Value),
  (vs.zipIdx k).foldl (λ(a:Array Value)(x:Value×Nat)=>a.setIfInBounds (off+x.2) x.1) ⟨cs⟩=⟨setMany cs (off+k) vs⟩
 |[],_,_,_=>rfl
 |v::vs,off,k,cs=>by
  simp only[List.zipIdx_cons,List.foldl_cons]
  have:=NV vs off (k+1) (Qz cs (off+k) v)
  simp_all[Nat.add_assoc,setMany,Sq]
theorem fill_eq{pl:Nat->Option (Nat×Nat)}:∀(ps:List (Nat×Value))(cs out:List Value),BD pl cs ps=some out->Instr.fill pl ⟨cs⟩ ps=some ⟨out⟩
 |[],cs,out,h=>by simp[BD] at h;subst h;rfl
 |(i,v)::ps,cs,out,h=>by
  unfold BD at h
  unfold Instr.fill
  cases hp:pl i with
  |none=>simp_all
  |some os=>
   obtain⟨off,size⟩:=os
   rw[hp] at h
   simp only[Bool.cond_eq_ite] at h
   split at h
   ·rename_i hc
    simp only[ag1] at hc
    have h1:=wB _ _ hc.1
    have h2:=Wd _ _ hc.2
    rw[dU] at h1
    have h1':v.cells.size=size:=ω
    have h2':off+v.cells.size<=cs.length:=ω
    have ih:=fill_eq ps _ out h
    simp only[h1',ne_eq,not_true_eq_false,List.size_toArray,decide_false,Bool.false_or]
    rw[agW (by simp_all)]
    rw[<-ih]
    congr 1
    have:=NV v.cells.toList off 0 cs
    rw[dU,show off=off+0 from rfl,<-this]
    grind[Array.toList_zipIdx]
   simp_all
theorem NW(fr:Fr):∀l,E6 fr l=l.map λ(i,x)=>(i,ev fr x)
 |[]=>rfl
 |(i,x)::l=>by simp[E6,NW fr l]
theorem Dx{o:Option (List Value)}{k:List Value->Prop}(h:Wl o k):∃l,o=some l/\k l:=by
 unfold Wl at h;grind
theorem BI{a:aiz}{k:Addr->Prop}(h:nn a k):∃x,a=some x/\k x:=by
 unfold nn at h;grind
theorem parts_eq(fr:Fr)(ps:Array (Nat×Operand)):(ps.map λ(i,x)=>(i,ev fr x)).toList=E6 fr ps.toList:=by simp[NW]
theorem Ku{α β:Type}(f:α->Sem β)(g:α->β)(w:aiA):∀(l:List α),(∀x∈l,(f x).run P w=.ok (g x) w)->(l.mapM f).run P w=.ok (l.map g) w
 |[],_=>σ
 |x::l,h=>by
  simp only[List.mapM_cons,Sem.run_bind,h x σ,Result.andThen_ok,Ku f g w l (λy hy=>h y (by grind)),Sem.run_pure,ahw]
theorem Wv{α β:Type}(f:α->Sem β)(g:α->β)(w:aiA)(a:Array α)(h:∀x∈a.toList,(f x).run P w=.ok (g x) w):(a.mapM f).run P w=.ok (a.map g) w:=by
 rw[Array.mapM_eq_mapM_toList];simp only[Sem.run_map,Ku f g w a.toList h,Result.andThen_ok];congr 1
 grind
theorem run_places(fs:Array Go.Field)(w:aiA)(hsz:∀f∈fs.toList,∃i,P.info? f.type=some i):
  (fs.mapM λf=>do pure (f.offset,<-sizeOf f.type):Sem (Array (Nat×Nat))).run P w=.ok (fs.map λf=>(f.offset,P.cellsOf f.type)) w:=by
 refine Wv _ _ w fs λf hf=>?_;obtain⟨i,hi⟩:=hsz f hf
 simp_all[cY,Program.cellsOf]
theorem wH{fs:Array Go.Field}(h:Dm P (.struct fs)=true):∀f∈fs.toList,∃i,P.info? f.type=some i:=by
 intro f hf;simp only[Dm,ah4] at h
 simp_all[aip]
theorem G_{fs:Array Go.Field}(h:Dm P (.struct fs)=true):∀f∈fs.toList,∃i,P.underlying f.type=some i:=by
 intro f hf;simp only[Dm,ah4] at h
 simp_all[aip]
theorem QK{p q:Nat->Option (Nat×Nat)}(h:∀i,p i=q i):∀(ps:List (Nat×Value))(cs:List Value),BD p cs ps=BD q cs ps:=by
 have:p=q:=funext h
 simp_all
theorem NX(fs:Array Go.Field)(i:Nat):G1 (Du P (.struct fs)) i=(fs.map λf=>(f.offset,P.cellsOf f.type))[i]?:=by grind[G1,Du]
theorem Ww{fr:Fr}{x:Option Operand}{k:Option Int->Prop}(h:Ss fr x k):(x=none/\k none)\/∃y kk n,x=some y/\ev fr y=.int kk n/\k (some n):=by
 unfold Ss at h
 grind
theorem dO{k:IntKind}{n:Int}{y:Nat}{c:BoundsCode}{w:aiA}(h:0<=n/\n<=y):(Instr.sliceBound (.int k n) y c).run P w=.ok n.toNat w:=by
 simp[Instr.sliceBound,asIntOf,h]
end
section
variable{P:Program}{Ty:TypeId->Option dD}
theorem jf{fr:Fr}{x:Operand}{k:Option Int->Prop}(h:Ss fr (some x) k):∃kk n,ev fr x=.int kk n/\k (some n):=by grind[Ww]
theorem jg{fr:Fr}{k:Option Int->Prop}(h:Ss fr none k):k none:=h
theorem JB{t e:TypeId}{info:TypeInfo}(hu:P.underlying t=some (.slice e))(hin:P.info? e=some info){a:aiz}{len cap:Nat}{fr:Fr}{lo hi mx:Option Operand}{K:Value->Prop}
  (h:Ss fr lo λlo=>Ss fr hi λhi=>Ss fr mx λmx=>lU a len cap lo hi mx info.size λa l c=>K (.slice a l c)):
  ∃v,(∀w,(Instr.sliceAt t (.slice a len cap) (lo.map (ev fr)) (hi.map (ev fr)) (mx.map (ev fr))).run P w=.ok v w)/\K v:=by
 cases lo with
 |none=>
  have h:=jg h;cases hi with
  |none=>
   have h:=jg h;cases mx with
   |none=>
    have h:=jg h;obtain⟨_,_,_,h⟩:=h;refine⟨_,λw=>?_,h⟩;simp[Instr.sliceAt,Instr.slice,Instr.sliceBounds,bn hu,cY hin,fK,bh]
   |some mx=>
    obtain⟨k3,m,U,h⟩:=jf h;obtain⟨J,_⟩:=h
    simp_all
  |some hi=>
   obtain⟨k2,u,O,h⟩:=jf h;cases mx with
   |none=>
    have h:=jg h;obtain⟨_,J,_,h⟩:=h;have J:0<=u/\u<=(cap:Int):=by simp_all
    refine⟨_,λw=>?_,h⟩;simp[Instr.sliceAt,Instr.slice,Instr.sliceBounds,bn hu,cY hin,fK,bh,O,dO J]
   |some mx=>
    obtain⟨k3,m,U,h⟩:=jf h;obtain⟨J,V,_,h⟩:=h;have J:0<=m/\m<=(cap:Int):=by simp_all
    have V:0<=u/\u<=m:=by simp_all
    refine⟨_,λw=>?_,h⟩;simp[Instr.sliceAt,Instr.slice,Instr.sliceBounds,bn hu,cY hin,fK,bh,O,U,dO J,dO (y:=m.toNat) (show 0<=u/\u<=(m.toNat:Nat) by omega)]
 |some lo=>
  obtain⟨Y,l,W,h⟩:=jf h;cases hi with
  |none=>
   have h:=jg h;cases mx with
   |none=>
    have h:=jg h;obtain⟨_,_,V,h⟩:=h;have V:0<=l/\l<=(len:Int):=by simp_all
    refine⟨_,λw=>?_,h⟩;simp[Instr.sliceAt,Instr.slice,Instr.sliceBounds,bn hu,cY hin,fK,bh,W,dO V]
   |some mx=>
    obtain⟨k3,m,U,h⟩:=jf h;obtain⟨J,_⟩:=h
    simp_all
  |some hi=>
   obtain⟨k2,u,O,h⟩:=jf h;cases mx with
   |none=>
    have h:=jg h;obtain⟨_,J,V,h⟩:=h;have J:0<=u/\u<=(cap:Int):=by simp_all
    have V:0<=l/\l<=u:=by simp_all
    refine⟨_,λw=>?_,h⟩;simp[Instr.sliceAt,Instr.slice,Instr.sliceBounds,bn hu,cY hin,fK,bh,W,O,dO J,dO (y:=u.toNat) (show 0<=l/\l<=(u.toNat:Nat) by omega)]
   |some mx=>
    obtain⟨k3,m,U,h⟩:=jf h;obtain⟨J,V,X,h⟩:=h;have J:0<=m/\m<=(cap:Int):=by simp_all
    have V:0<=u/\u<=m:=by simp_all
    have X:0<=l/\l<=u:=by simp_all
    refine⟨_,λw=>?_,h⟩;simp[Instr.sliceAt,Instr.slice,Instr.sliceBounds,bn hu,cY hin,fK,bh,W,O,U,dO J,dO (y:=m.toNat) (show 0<=u/\u<=(m.toNat:Nat) by omega),dO (y:=u.toNat) (show 0<=l/\l<=(u.toNat:Nat) by omega)]
theorem JC{t:TypeId}(hu:P.underlying t=some .string){s:ByteArray}{fr:Fr}{lo hi:Option Operand}{K:Value->Prop}
  (h:Ss fr lo λlo=>Ss fr hi λhi=>afh s lo hi λs=>K (.string s)):
  ∃v,(∀w,(Instr.sliceAt t (.string s) (lo.map (ev fr)) (hi.map (ev fr)) none).run P w=.ok v w)/\K v:=by
 cases lo with
 |none=>
  have h:=jg h;cases hi with
  |none=>
   have h:=jg h;obtain⟨_,_,h⟩:=h
   simp_all[Instr.sliceAt,Instr.slice,Instr.sliceBounds,bn]
  |some hi=>
   obtain⟨k2,u,J,h⟩:=jf h;obtain⟨U,_,h⟩:=h
   simp_all[Instr.sliceAt,Instr.slice,Instr.sliceBounds,bn,dO]
 |some lo=>
  obtain⟨W,l,O,h⟩:=jf h;cases hi with
  |none=>
   have h:=jg h;obtain⟨_,V,h⟩:=h
   simp_all[Instr.sliceAt,Instr.slice,Instr.sliceBounds,bn,dO]
  |some hi=>
   obtain⟨k2,u,J,h⟩:=jf h;obtain⟨U,V,h⟩:=h;have U:0<=u/\u<=(s.size:Int):=by simp_all
   have V:0<=l/\l<=u:=by simp_all
   refine⟨_,λw=>?_,h⟩;simp[Instr.sliceAt,Instr.slice,Instr.sliceBounds,bn hu,O,J,dO U,dO (y:=u.toNat) (show 0<=l/\l<=(u.toNat:Nat) by omega)]
theorem wI(hT:ec P Ty){C:aiA->Prop}{ld:Addr->dD->(Value->Prop)->Prop}{rs:Sem Value->(Value->Prop)->Prop}
  (hld:∀ad i k,ld ad i k->∃v,(∀w,C w->qF w ad i v)/\k v) (hrs:∀s k,rs s k->∃v,(∀w,C w->s.run P w=.ok v w)/\k v)
  {o:Oper} {fr:Fr} {K:Value->Prop} (h:wD P Ty ld rs o fr K):∃v,(∀w,C w->(execOp (ev fr) o).run P w=.ok (.value v) w)/\K v:=by
 obtain⟨bc,op,bb,pos,b7,b6⟩:=o;unfold wD at h;cases op<;>dsimp only at h<;>first|exact h.elim|skip
 case move x=>exact⟨_,λw _=>rfl,h⟩
 case assign x=>exact⟨_,λw _=>rfl,h⟩
 case pick c a b=>
  split at h
  ·rename_i t ht;refine⟨_,λw _=>?_,h⟩;simp only[execOp,Sem.run_bind,ht,asBool,Sem.run_pure,Result.andThen_ok];cases t<;>simp
  ·exact h.elim
 case build t ps=>
  split at h
  ·rename_i i hi;obtain⟨Y,d,ha⟩:=sE hT hi
   split at h
   ·rename_i z hz hk;obtain⟨fs,rfl⟩:=Dw (hk▸ha.kd);obtain⟨cs,hc,Z⟩:=Dx h;refine⟨_,λw _=>?_,Z⟩;rw[ha.flds,QK (NX fs)] at hc;have am:Y.zero=some z:=by rw[<-ha.zero,hz]
    have hf:=fill_eq _ _ _ hc;rw[dU] at hf;have hf:Instr.fill _ z.cells _=_:=hf;have ba:=run_places (P:=P) fs w (wH ha.ok);simp only[execOp,Instr.build,Sem.run_bind,mR ha.inf am,bn ha.und,Result.andThen_ok,ba,parts_eq];simp only[hf,Sem.run_pure,Result.andThen_ok]
   ·rename_i z n e hz hk;have he:=NS (hk▸ha.kd);subst he
    split at h
    ·rename_i s hs;obtain⟨ie,a0,b5⟩:=yw hT hs;obtain⟨cs,hc,Z⟩:=Dx h;refine⟨_,λw _=>?_,Z⟩;have am:Y.zero=some z:=by rw[<-ha.zero,hz]
     have hf:=fill_eq _ _ _ hc;rw[dU] at hf;have hf:Instr.fill _ z.cells _=_:=hf;simp only[execOp,Instr.build,Sem.run_bind,mR ha.inf am,bn ha.und,Result.andThen_ok,cY a0,b5,parts_eq];simp only[hf,Sem.run_pure,Result.andThen_ok]
    ·exact h.elim
   ·exact h.elim
  ·exact h.elim
 case load t x=>
  split at h
  ·rename_i a i hx hi;obtain⟨ad,rfl,h⟩:=BI h;obtain⟨v,U,Z⟩:=hld _ _ _ h;refine⟨v,λw hw=>?_,Z⟩;simp[execOp,Instr.loadAt,hx,Instr.sureAddr,Kt hT hi (U w hw)]
  ·exact h.elim
 case nilCheck x=>
  split at h
  ·rename_i a hx;obtain⟨ad,rfl,h⟩:=BI h;exact⟨_,λw _=>by simp[execOp,hx],h⟩
  ·rename_i hx;exact⟨_,λw _=>by simp[execOp,hx],h⟩
  ·rename_i hx;exact⟨_,λw _=>by simp[execOp,hx],h⟩
  ·rename_i hx;exact⟨_,λw _=>by simp[execOp,hx],h⟩
  ·exact h.elim
 case binOp op t x y yt=>
  obtain⟨v,U,Z⟩:=Wu hT (rs:=rsN (Su (ai Ty t)) rs) (λs k h=>by
   cases hb:Su (ai Ty t) with
   |true=>rw[hb] at h;exact h.elim
   |false=>rw[hb] at h;exact hrs s k h) h
  refine⟨v,λw hw=>?_,Z⟩;have:=U w hw;simp only[execOp,Sem.run_bind] at this ⊢;rw[this];rfl
 case unOp op t x=>
  split at h
  ·rename_i hx;exact⟨_,λw _=>by simp[execOp,hx,Op.unary],h⟩
  ·rename_i hx;exact⟨_,λw _=>by simp[execOp,hx,Op.unary,Op.intArith],oY h⟩
  ·rename_i hx;exact⟨_,λw _=>by simp[execOp,hx,Op.unary,Op.intBits,ph],h⟩
  ·exact h.elim
 case convert s d x=>
  split at h
  ·rename_i k1 k2 k3 n X h2 hx;obtain⟨d1,J,O⟩:=dJ hT X σ;obtain⟨d2,a4,a9⟩:=dJ hT h2 σ;rw[QH O] at J;rw[QH a9] at a4;exact⟨_,λw _=>by simp[execOp,hx,Go.convert,bn J,bn a4,Conv.intToInt],oY h⟩
  ·rename_i s X h2 hx;obtain⟨d1,J,O⟩:=dJ hT X σ;obtain⟨d2,a4,a9⟩:=dJ hT h2 σ;rw[sG O] at J;rw[sG a9] at a4;exact⟨_,λw _=>by simp[execOp,hx,Go.convert,bn J,bn a4],h⟩
  ·exact h.elim
 case makeInterface t x=>
  split at h
  ·rename_i i hi;obtain⟨Y,d,ha⟩:=sE hT hi
   split at h
   ·exact h.elim
   ·rename_i hk;refine⟨_,λw _=>?_,h⟩;simp only[execOp,Instr.makeInterface,Sem.run_bind,bn ha.und,Result.andThen_ok];cases d<;>simp_all[ha.kd,iz]
  ·exact h.elim
 case makeFunc fn first cap=>
  refine⟨_,λw _=>?_,h⟩;have e:∀a:Array Operand,a.map (ev fr)=⟨a.toList.map (ev fr)⟩:=λa=>by apply ah3;simp
  simp[execOp,Instr.makeFunc,Dn,e]
 case slice t x lo hi mx=>
  split at h
  ·rename_i e a len cap X hx;obtain⟨d1,J,O⟩:=dJ hT X σ;rw[fm O] at J
   split at h
   ·rename_i sz W;obtain⟨ie,a0,rfl⟩:=yw hT W;obtain⟨v,U,Z⟩:=JB J a0 h;exact⟨v,λw _=>by simp[execOp,hx,U w],Z⟩
   ·exact h.elim
  ·rename_i s X hx;obtain⟨d1,J,O⟩:=dJ hT X σ;rw[sG O] at J
   split at h
   ·obtain⟨v,U,Z⟩:=JC J h;exact⟨v,λw _=>by simp[execOp,hx,U w],Z⟩
   ·exact h.elim
  ·exact h.elim
 case fieldAddr s x f=>
  split at h
  ·rename_i i a hi hx;obtain⟨Y,d,ha⟩:=sE hT hi
   split at h
   ·rename_i off sz g hk hf;obtain⟨fs,rfl⟩:=Dw (hk▸ha.kd);obtain⟨hc,h⟩:=fo h;obtain⟨ad,rfl,h⟩:=BI h;refine⟨_,λw _=>?_,h⟩;rw[ha.flds] at hf;simp only[Du,agS,aih,Prod.mk.injEq] at hf;obtain⟨F,hF,rfl,W,_⟩:=hf;obtain⟨iF,a6⟩:=wH ha.ok F (agL hF)
    have b4:iF.size≠0:=by
     have:P.cellsOf F.type=iF.size:=by simp[Program.cellsOf,a6]
     rw[<-this,W];have:=Nat.le_of_ble_eq_true hc;omega
    have a8:fs[f]? =some F:=by simpa using hF
    simp[execOp,hx,Instr.fieldAt,bn ha.und,a8,Instr.sureAddr,fieldPlace,cY a6,b4,ac5]
   ·exact h.elim
  ·exact h.elim
 case field t x f=>
  split at h
  ·rename_i i hi;obtain⟨Y,d,ha⟩:=sE hT hi
   split at h
   ·rename_i hk;obtain⟨fs,rfl⟩:=Dw (hk▸ha.kd);unfold afi at h
    split at h
    ·rename_i cs off sz hx hf;rw[ha.flds] at hf;simp only[Du,agS,aih,Prod.mk.injEq] at hf;obtain⟨F,hF,rfl,rfl,av⟩:=hf;obtain⟨iF,a6⟩:=wH ha.ok F (agL hF);obtain⟨dF,a7⟩:=G_ ha.ok F (agL hF);have a8:fs[f]? =some F:=by simpa using hF
     have a5:(iz dF).isAgg=true:=by rw[a7] at av;cases dF<;>simp_all[iz,Kd.isAgg]
     have W:P.cellsOf F.type=iF.size:=by simp[Program.cellsOf,a6]
     refine⟨_,λw _=>?_,h⟩;simp only[execOp,hx,Instr.field,Sem.run_bind,bn ha.und,a8,asAgg,Sem.run_pure,Result.andThen_ok,part,mj a7,a5,if_true,cY a6,W];congr 3;apply ah3;simp[List.extract_eq_take_drop]
    ·rename_i cs off sz hx hf;rw[ha.flds] at hf;simp only[Du,agS,aih,Prod.mk.injEq] at hf;obtain⟨F,hF,rfl,rfl,av⟩:=hf;obtain⟨dF,a7⟩:=G_ ha.ok F (agL hF);have a8:fs[f]? =some F:=by simpa using hF
     have a5:(iz dF).isAgg=false:=by rw[a7] at av;cases dF<;>simp_all[iz,Kd.isAgg]
     split at h
     ·rename_i u hu;refine⟨_,λw _=>?_,h⟩;have al:cs[F.offset]? =some u:=by simpa using hu
      simp[execOp,hx,Instr.field,bn ha.und,a8,asAgg,part,mj a7,a5,al]
     ·exact h.elim
    ·exact h.elim
   ·exact h.elim
  ·exact h.elim
 case indexAddr t x ix=>
  split at h
  ·rename_i e a len cap kk n X hx hix;obtain⟨d1,J,O⟩:=dJ hT X σ;rw[fm O] at J
   split at h
   ·rename_i sz W;obtain⟨ie,a0,rfl⟩:=yw hT W;obtain⟨ad,rfl,X,h2,h⟩:=h;refine⟨_,λw _=>?_,h⟩;simp[execOp,hx,hix,Instr.indexAt,asIntOf,bn J,cY a0,X,h2,bh]
   ·exact h.elim
  ·rename_i m e a kk n X hx hix;obtain⟨d1,J,O⟩:=dJ hT X σ;rw[NS O] at J
   split at h
   ·rename_i sz W;obtain⟨ie,a0,rfl⟩:=yw hT W;obtain⟨ad,rfl,X,h2,h⟩:=h;refine⟨_,λw _=>?_,h⟩;simp[execOp,hx,hix,Instr.indexAt,asIntOf,bn J,cY a0,X,h2,bh,Instr.sureAddr]
   ·exact h.elim
  ·exact h.elim
 case index t x ix=>
  split at h
  ·rename_i s kk n X hx hix;obtain⟨d1,J,O⟩:=dJ hT X σ;rw[sG O] at J;obtain⟨⟨X,h2⟩,h⟩:=h;refine⟨_,λw _=>?_,h⟩;have b2:n.toNat<s.size:=ω
   have b1:n.toNat<s.data.size:=b2
   have e:s[n.toNat]? =some (sb s n.toNat):=by
    rw[getElem?_pos s n.toNat b2];simp only[sb,b1,Array.getElem?_eq_getElem,Option.getD_some];rfl
   simp[execOp,hx,hix,Instr.index,asIntOf,bn J,X,e]
  ·obtain⟨v,U,Z⟩:=hrs _ _ h;exact⟨v,λw hw=>by simp only[execOp,Sem.run_bind,U w hw];rfl,Sh.fj Z⟩
 case extract t i=>
  unfold acE at h
  split at h
  ·rename_i vs hx
   split at h
   ·rename_i u hu;refine⟨u,λw _=>?_,h⟩;have al:vs[i]? =some u:=by simpa using hu
    simp[execOp,hx,Instr.extract,al]
   ·exact h.elim
  ·exact h.elim
 case call c=>
  obtain⟨b3,aa,V⟩:=c;have ha:aa.map (ev fr)=⟨nD fr aa.toList⟩:=by rw[Dn];apply ah3;simp
  split at h
  ·rename_i a l cap hc U;dsimp only at hc U;subst hc
   split at h
   ·rename_i t ts hts;obtain⟨hk,h⟩:=fo h;cases hkk:ai Ty t<;>rw[hkk] at hk<;>simp[Sr] at hk;obtain⟨d1,J,O⟩:=dJ hT hkk σ;rw[fm O] at J;refine⟨_,λw _=>?_,h⟩;have ht:V[0]? =some t:=by rw[<-aia,hts];rfl
    simp[execOp,resolve,invoke,builtin,Builtin.len_,ha,U,ht,bn J,goInt]
   ·exact h.elim
  ·rename_i s hc U;dsimp only at hc U;subst hc
   split at h
   ·rename_i t ts hts
    split at h
    ·rename_i hkk;obtain⟨d1,J,O⟩:=dJ hT hkk σ;rw[sG O] at J;refine⟨_,λw _=>?_,h⟩;have ht:V[0]? =some t:=by rw[<-aia,hts];rfl
     simp[execOp,resolve,invoke,builtin,Builtin.len_,ha,U,ht,bn J,goInt]
    ·exact h.elim
   ·exact h.elim
  ·rename_i hc _ _;dsimp only at hc;subst hc;obtain⟨v,U,Z⟩:=hrs _ _ h;refine⟨v,λw hw=>?_,Sh.fj Z⟩;have:=U w hw;simp only[execOp,resolve,invoke,builtin,Sem.run_bind,Sem.run_pure,Result.andThen_ok,ha,this]
  ·rename_i k a k' b hc U;dsimp only at hc U;subst hc;refine⟨_,λw _=>?_,h⟩;simp[execOp,resolve,invoke,builtin,Builtin.min_,ha,U,Builtin.min2]
  ·rename_i k a k' b hc U;dsimp only at hc U;subst hc;refine⟨_,λw _=>?_,h⟩;simp[execOp,resolve,invoke,builtin,Builtin.max_,ha,U,Builtin.max2]
  ·exact h.elim
end
def sI(P:Program)(Fn:FuncId->Bool):Prop:=∀g,Fn g=true->∃fn,P.funcs[g]? =some fn/\fn.body.isNone=false/\(fn.name=="runtime.NumGoroutine")=false
def Wx(P:Program)(g:FuncId):Bool:=match P.funcs[g]? with|some fn=> !fn.body.isNone&& !(fn.name=="runtime.NumGoroutine")|none=>false
def SA(P:Program)(lo:Nat):Nat->Bool
 |0=>true
 |n+1=>Wx P (lo+n)&&SA P lo n
theorem NY{P:Program}{lo:Nat}:∀{n:Nat},SA P lo n=true->∀g,lo<=g->g<lo+n->Wx P g=true
 |0,_,g,h1,h2=>ω
 |n+1,h,g,h1,h2=>by
  simp only[SA,ag1] at h
  by_cases hg:g=lo+n
  ·simp_all
  ·exact NY h.2 g h1 ω
theorem BJ{P:Program}{lo hi:Nat}(h:SA P lo (hi+1-lo)=true):sI P λg=>Nat.ble lo g&&Nat.ble g hi:=by
 intro g u;simp only[ag1,Nat.ble_eq] at u;have:=NY h g u.1 ω;unfold Wx at this
 grind
section
variable{P:Program}{Ty:TypeId->Option dD}{Fn:FuncId->Bool}{E:aiA->aiA->Prop}
theorem iB{o:Oper}{ρ:Operand->Value}{w w':aiA}{K:Value->aiA->Prop}{v:Value}(h:(execOp ρ o).run P w=.ok (.value v) w')(hE:E w w')(hK:K v w'):Dt P E o ρ w K:=by simp_all[Dt]
theorem NZ{o:Oper}{ρ:Operand->Value}{w w':aiA}{K:Value->aiA->Prop}(h:(execOp ρ o).run P w=.ok .skip w')(hE:E w w')(hK:K undef w'):Dt P E o ρ w K:=by simp_all[Dt]
theorem Ev.dI(w0:aiA):∀(vs:List Value)(w:aiA)(a:Addr)(i:Nat),Ev w0 w->Ev w0 (dI w a i vs)
 |[],_,_,_,h=>h
 |v::vs,w,a,i,h=>Ev.dI w0 vs _ a (i+1) (h.trans (Ev.setCell _ _ _))
theorem LM(v:Value):aK v=v.oneCell':=by rfl
theorem BK{w:aiA}{a b:Addr}{v u:Value}(h:w.cell? b=some u):∃u',(w.setCell a v).cell? b=some u':=by
 unfold World.cell? World.setCell at*
 grind
theorem sJ{w:aiA}{b:Addr}{x:Value}(a:Addr):∀(vs:List Value)(i:Nat),mQ w a i vs->mQ (w.setCell b x) a i vs
 |[],_,_=>trivial
 |v::vs,i,⟨h1,⟨u,h2⟩,h3,h4⟩=>⟨h1,BK h2,by simp_all,sJ a vs (i+1) h4⟩
theorem kR(a:Addr):∀(vs:List Value)(w:aiA)(i:Nat),mQ w a i vs->(storeCells a vs i).run P w=.ok () (dI w a i vs)
 |[],w,i,_=>by rfl
 |v::vs,w,i,⟨h1,⟨u,h2⟩,h3,h4⟩=>by
  have ih:=kR a vs (w.setCell (a.add i) v) (i+1) (sJ a vs (i+1) h4)
  simp_all[run_store,LM,storeCells,Sem.run_bind,dI]
theorem add_zero'(a:Addr):a.add 0=a:=by rfl
theorem aaj(hT:ec P Ty){t:TypeId}{i:dD}(hi:Ty t=some i){w:aiA}{ad:Addr}{v:Value}{k:aiA->Prop}(h:stv w ad i v k):
  ∃w',(storeVar t ad v).run P w=.ok () w'/\Ev w w'/\k w':=by
 obtain⟨O,d,ha⟩:=sE hT hi;unfold stv at h;cases hk:i.kd.isAgg with
 |true=>
  rw[hk] at h;cases v<;>dsimp only at h<;>first|exact h.elim|skip
  rename_i cs;obtain⟨hc,W,X⟩:=fo h;have hl:=wB _ _ hc;refine⟨_,?_,Ev.dI w _ _ _ _ (Ev.refl _),X _ rfl⟩;have U:cs.size=O.size:=by rw[<-ha.size,<-hl];simp
  simp[storeVar,cY ha.inf,Value.cells,U,kR _ _ _ _ W]
 |false=>
  rw[hk] at h;have h':bif Nat.beq i.size 1 then st1 w ad v k else False:=ω
  obtain⟨hc,⟨u,W⟩,X,V,Y⟩:=fo h';have U:O.size=1:=by rw[<-ha.size];simp_all
  refine⟨_,?_,Ev.setCell _ _ _,Y _ rfl⟩;have J:v.cells=#[v]:=by cases v<;>first|rfl|cases V
  have:=kR (P:=P) ad [v] w 0 ⟨V,⟨u,by simp_all[add_zero']⟩,by simp_all[add_zero'],trivial⟩;simp only[dI,add_zero'] at this;simp[storeVar,cY ha.inf,J,U,this]
theorem Ha(z:List Value):∀n,((Array.range (n*z.length)).map λk=>(⟨z⟩:Array Value)[k%z.length]!)=⟨(List.replicate n z).flatten⟩:=by
 intro n;apply ah3;simp only[Array.toList_map,Array.toList_range]
 induction n with
 |zero=>simp
 |succ n ih=>
  rw[aiq,List.range_add,ag7,List.replicate_succ',List.flatten_append,ih];congr 1;simp only[air,List.flatten_cons,List.flatten_nil,ahe]
  apply List.ext_getElem
  ·simp
  simp_all[Nat.mod_eq_of_lt]
theorem SB(z:List Value):∀n,gD n z=(List.replicate n z).flatten
 |0=>rfl
 |n+1=>by simp[gD,SB z n,ah1]
theorem N0(z:List Value):∀n,Ko n z=(List.replicate n z).flatten
 |0=>rfl
 |n+1=>by simp[Ko,Gt,N0 z n,ah1]
theorem dV(hE:∀a b,Ev a b->E a b){o:Oper}{ρ:Operand->Value}{w:aiA}{K:Value->aiA->Prop}{s:Sem Value}(he:execOp ρ o=(do pure (.value (<-s)))){R:Value->aiA->Prop}(h:aY P s w R)(hR:∀v w',R v w'->K v w'):Dt P E o ρ w K:=by
 obtain⟨v,w',O,J,u⟩:=h;refine iB (v:=v) (w':=w') ?_ (hE _ _ J) (hR _ _ u)
 simp_all
theorem Hb(hE:∀a b,Ev a b->E a b){o:Oper}{ρ:Operand->Value}{w:aiA}{K:Value->aiA->Prop}{s:Sem Unit}(he:execOp ρ o=(do s;pure .skip)){R:Unit->aiA->Prop}(h:aY P s w R)(hR:∀v w',R v w'->K undef w'):Dt P E o ρ w K:=by
 obtain⟨v,w',O,J,u⟩:=h;refine NZ (w':=w') ?_ (hE _ _ J) (hR _ _ u)
 simp_all
theorem UA{v:Value}{sh:Sh}{k:Value->Prop}(h:ac6 v sh k):k v:=by
 unfold ac6 at h
 split at h
 ·obtain⟨n,u,rfl,h⟩:=h;exact h
 ·obtain⟨us,rfl,J⟩:=BC h;exact J
 ·exact h.elim
theorem QL{v:Value}{sh:Sh}{k:Value->Prop}(h:acF v sh k):k v:=by
 rcases h with⟨rfl,h⟩|h
 ·exact h
 ·split at h
  ·obtain⟨us,J,O⟩:=BC h;rw[J];exact O
  ·obtain⟨n,u,J,O⟩:=h;rw[J];exact O
  ·exact h.elim
theorem um(hF:sI P Fn){g:FuncId}(hg:Fn g=true)(args:Array Value)(w:aiA):(callFunc g args).run P w=.ok (.enter g args) w:=by
 obtain⟨fn,U,V,O⟩:=hF g hg;have u:fn.name≠"runtime.NumGoroutine":=by simp_all
 have J:fn.body≠none:=λe=>by simp_all
 simp_all[callFunc]
theorem QM(hF:sI P Fn)(hE:∀a b,Ev a b->E a b){o:Oper}{fr:Fr}{w:aiA}{K:Value->aiA->Prop}{f:Operand}{args:Array Operand}{tys:Array TypeId}{sh:Sh}
  (ho:o.op=.call { callee:=.value f,args:=args,argTypes:=tys }) {d:Bool} (h:Wm P Fn E (ev fr f) (nD fr args.toList) sh w K d):Dt P E o (ev fr) w K:=by
 obtain⟨dst,op,type,pos,after,guard⟩:=o;dsimp only at ho;subst ho;have ha:args.map (ev fr)=⟨nD fr args.toList⟩:=by grind[Dn,Array.ext']
 unfold Wm at h
 split at h
 ·rename_i g first cap hv
  unfold orX at h;cases hg:Fn g with
  |false=>
   rw[hg] at h;cases d with
   |false=>exact h.elim
   |true=>
   obtain⟨v,w',Z,W,V⟩:=h;refine iB (v:=v) (w':=w') ?_ (hE _ _ W) (Sh.fj V);have Y:first++(⟨nD fr args.toList⟩:Array Value)++cap=⟨Fz first.toList (nD fr args.toList) cap.toList⟩:=by simp[LH]
   grind[execOp,resolve,Deferred.ofValue,invoke,Sem.run_bind,Sem.run_pure,Result.andThen_ok]
  |true=>
  rw[hg] at h;have h:=(by cases d<;>exact h:iA P E g (Fz first.toList (nD fr args.toList) cap.toList) w λv w'=>sh.is v λu=>K u w')
  have X:(execOp (ev fr) { dst:=dst,op:=.call { callee:=.value f,args:=args,argTypes:=tys },type:=type,pos:=pos,after:=after,guard:=guard }).run P w
    =.ok (.enter g ⟨Fz first.toList (nD fr args.toList) cap.toList⟩) w:=by
   have Y:first++(⟨nD fr args.toList⟩:Array Value)++cap=⟨Fz first.toList (nD fr args.toList) cap.toList⟩:=by simp[LH]
   grind[execOp,resolve,Deferred.ofValue,invoke,Sem.run_bind,Sem.run_pure,Result.andThen_ok,um]
  unfold Dt;rw[X];refine⟨hE _ _ (Ev.refl _),?_⟩;exact Calls.mono h λe w' ⟨v,Z,W,V⟩=>⟨v,Z,W,Sh.fj V⟩
 ·rename_i l first cap hv
  obtain⟨f',O,J,U,hy,hr⟩:=h
  have X:(execOp (ev fr) { dst:=dst,op:=.call { callee:=.value f,args:=args,argTypes:=tys },type:=type,pos:=pos,after:=after,guard:=guard }).run P w
    =.ok (.round l f' O J U) w:=by
   have Y:first++(⟨nD fr args.toList⟩:Array Value)=⟨NM first.toList (nD fr args.toList)⟩:=by simp[Gt]
   grind[execOp,resolve,Deferred.ofValue,invoke,Sem.run_bind,Sem.run_pure,Result.andThen_ok]
  grind[Dt,Ev.refl,RoundIn.mono,Sh.fj]
 simp_all
theorem Kv(hT:ec P Ty)(hF:sI P Fn)(hE:∀a b,Ev a b->E a b){o:Oper}{fr:Fr}{w:aiA}{K:Value->aiA->Prop}(h:Wn P Ty Fn E o fr w K):Dt P E o (ev fr) w K:=by
 have h0:=h;obtain⟨dst,op,type,pos,after,guard⟩:=o;unfold Wn at h;cases op<;>dsimp only at h<;>first|exact h.elim|skip
 case alloc t=>
  split at h
  ·rename_i i hi;obtain⟨J,d,ha⟩:=sE hT hi
   split at h
   ·rename_i z hz;have V:J.zero=some z:=by rw[<-ha.zero,hz]
    refine iB (w':={ w with heap:=w.heap.push (.cells ⟨cellsOf z⟩ t) }) ?_ (hE _ _ (Ev.push _ _)) (h _ _ rfl rfl);have e:z.cells=⟨cellsOf z⟩:=by rw[dU]
    simp[execOp,Instr.alloc,mR ha.inf V,newVar,newRow,e]
   ·exact h.elim
  ·exact h.elim
 case box t x=>
  refine iB (w':={ w with heap:=w.heap.push (.cells ⟨cellsOf (ev fr x)⟩ t) }) ?_ (hE _ _ (Ev.push _ _)) (h _ _ rfl rfl);have e:(ev fr x).cells=⟨cellsOf (ev fr x)⟩:=by rw[dU]
  simp[execOp,Instr.box,newVar,newRow,e]
 case buildSlice t n ps=>
  split at h
  ·rename_i e hk;obtain⟨d1,O,Z⟩:=dJ hT hk σ;rw[fm Z] at O
   split at h
   ·rename_i i hi;obtain⟨J,d,ha⟩:=sE hT hi
    split at h
    ·rename_i z hz;have V:J.zero=some z:=by rw[<-ha.zero,hz]
     obtain⟨hc,h⟩:=fo h;simp only[ag1,Nat.ble_eq] at hc;obtain⟨⟨hl,a5,a9⟩,hs⟩:=hc;have hl:=wB _ _ hl;obtain⟨cs,a8,h⟩:=Dx h;refine iB (w':={ w with heap:=w.heap.push (.cells ⟨cs⟩ e) }) ?_ (hE _ _ (Ev.push _ _)) (h _ _ rfl rfl);have hf:=fill_eq _ _ _ a8;have a4:z.cells=⟨cellsOf z⟩:=by rw[dU]
     have U:J.size=(cellsOf z).length:=by rw[hl,ha.size]
     have b3:n*J.size<=16777216:=by
      have:n*J.size<=4096*4096:=ah6 a5 (by rw[<-ha.size];exact a9);omega
     have a0:∀hh:n*J.size=0,n=0:=λhh=>by
      rcases Nat.mul_eq_zero.1 hh with h|h
      ·exact h
      ·rw[<-ha.size] at h;omega
     simp only[execOp,Instr.buildSlice,Sem.run_bind,bn O,cY ha.inf,Result.andThen_ok,parts_eq];rw[agW ω];have al:(λk=>some (k*i.size,i.size))=(λk=>some (k*J.size,J.size)):=by rw[ha.size]
     rw[al] at hf
     by_cases X:n*J.size=0
     ·have:=a0 X;subst this
      have av:Instr.fill (λi=>some (i*J.size,J.size)) ((Array.range 0).map λ_=>default) (E6 fr ps.toList)=some ⟨cs⟩:=by
       rw[show((Array.range 0).map λ_=>(default:Value))=(⟨Ko 0 (cellsOf z)⟩:Array Value) from by simp[Ko]];exact hf
      simp[av,newRow]
     ·simp only[X,if_false,Sem.run_bind,mR ha.inf V,Result.andThen_ok,Sem.run_pure,a4];have W:=Ha (cellsOf z) n;rw[<-U] at W;have:(⟨cellsOf z⟩:Array Value).size=J.size:=by simp[U]
      rw[this,W,<-N0,hf];simp[newRow]
    ·exact h.elim
   ·exact h.elim
  ·exact h.elim
 case store t a x=>
  split at h
  ·rename_i p i ha hi;obtain⟨ad,rfl,h⟩:=BI h;obtain⟨w',hr,aa,hK⟩:=aaj hT hi h;refine NZ (w':=w') ?_ (hE _ _ aa) hK;simp[execOp,Instr.storeAt,ha,Instr.sureAddr,hr]
  ·exact h.elim
 case convert s d x=>exact dV hE rfl h λv w' h=>Sh.fj h
 case makeMap t r=>
  cases r with
  |some r=>exact h.elim
  |none=>
   refine iB (w':={ w with heap:=w.heap.push (.map #[] 0) }) ?_ (hE _ _ (Ev.push _ _)) (h _ _ rfl rfl);simp[execOp,Instr.makeMap]
 case makeSlice t l c=>
  split at h
  ·rename_i e hk;obtain⟨d1,O,Z⟩:=dJ hT hk σ;rw[fm Z] at O
   split at h
   ·rename_i i k1 n1 k2 n2 hi hl hc;obtain⟨J,d,ha⟩:=sE hT hi;obtain⟨hb,h⟩:=fo h;unfold acD at h
    split at h
    ·rename_i z hz;rw[hz] at hb;simp only[ag1,Nat.ble_eq] at hb;obtain⟨⟨Y,b4⟩,hs⟩:=hb;have Y:=wB _ _ Y;obtain⟨⟨h1,rfl,h3⟩,hK⟩:=h;have V:J.zero=some z:=by rw[<-ha.zero,hz]
     have a4:z.cells=⟨cellsOf z⟩:=by rw[dU]
     have U:J.size=(cellsOf z).length:=by rw[Y,ha.size]
     refine iB (w':={ w with heap:=w.heap.push (.cells ⟨gD n1.toNat (cellsOf z)⟩ e) }) ?_ (hE _ _ (Ev.push _ _)) (hK _ _ rfl rfl);have a7:(1:Int)<=i.bytes:=ω
     have a5:n1<=140737488355328:=Int.le_trans (by have:=Int.mul_le_mul_of_nonneg_right a7 h1;omega) h3;have hw:IntKind.i64.wrap n1=n1:=Sp ξ;have b2:(J.bytes:Int)*n1<=140737488355328:=by rw[<-ha.bytes];exact h3
     have hA:¬n1<0:=ω
     have hB:¬(281474976710656:Int)<J.bytes*n1:=ω
     have W:=Ha (cellsOf z) n1.toNat;rw[<-U] at W;have b1:(⟨cellsOf z⟩:Array Value).size=J.size:=by simp[U]
     have a0:n1.toNat*J.size=0->n1.toNat=0:=λhh=>by
      rcases Nat.mul_eq_zero.1 hh with h|h
      ·exact h
      ·rw[<-ha.size] at h;omega
     have e0:∀f:Nat->Value,(Array.range 0).map f=#[]:=λ_=>σ
     have am:Array.map (λx=>(cellsOf z)[x%(cellsOf z).length]?.getD default) (Array.range (n1.toNat*J.size))=⟨(List.replicate n1.toNat (cellsOf z)).flatten⟩:=by
      rw[<-W,U];congr 1;funext k;simp
     by_cases X:n1.toNat*J.size=0
     ·have a6:=a0 X;simp[execOp,Instr.makeSlice,bn O,hl,hc,asInt,asIntOf,NT ha.inf,cY ha.inf,hw,hA,hB,a6,gD,newRow,e0]
     ·simp[execOp,Instr.makeSlice,bn O,hl,hc,asInt,asIntOf,NT ha.inf,cY ha.inf,hw,hA,hB,newRow,X,mR ha.inf V,a4,SB];rw[am]
    ·exact h.elim
   ·exact h.elim
  ·exact h.elim
 case lookup t m k ok=>exact dV hE rfl h λv w' h=>Sh.fj h
 case mapUpdate t m k x=>exact Hb hE rfl h λv w' h=>h
 case insert t m k x=>exact Hb hE rfl h λv w' h=>h
 case mapEntry t m k=>exact dV hE rfl h λv w' h=>Sh.fj h
 case entryStore t m s x=>exact Hb hE rfl h λv w' h=>h
 case range t x=>exact dV hE rfl h λv w' h=>Sh.fj h
 case next it isS=>exact dV hE rfl h λv w' h=>QL h
 case entry it=>exact dV hE rfl h λv w' h=>UA h
 case typeAssert x t u ok=>exact dV hE rfl h λv w' h=>Sh.fj h
 case call c=>
  obtain⟨callee,args,argTypes⟩:=c;have ha:args.map (ev fr)=⟨nD fr args.toList⟩:=by rw[Dn];apply ah3;simp
  cases callee with
  |value f=>exact QM hF hE rfl h
  |invoke r m=>
   obtain⟨g,as,h1,h2⟩:=h
   have he:(execOp (ev fr) { dst:=dst,op:=.call { callee:=.invoke r m,args:=args,argTypes:=argTypes },type:=type,pos:=pos,after:=after,guard:=guard }).run P w=.ok (.enter g ⟨as⟩) w:=by
    have e2:(#[ev fr r]++(⟨nD fr args.toList⟩:Array Value))[0]? =some (ev fr r):=σ
    have e3:(#[ev fr r]++(⟨nD fr args.toList⟩:Array Value)).extract 1 (#[ev fr r]++(⟨nD fr args.toList⟩:Array Value)).size=⟨nD fr args.toList⟩:=by
     apply ah3;simp
    simp only[execOp,resolve,ha,invoke,Sem.run_bind,Sem.run_pure,Result.andThen_ok,e2,e3,h1]
   unfold Dt;rw[he];refine⟨hE _ _ (Ev.refl _),?_⟩;exact Calls.mono h2 λe w' ⟨v,h1,h2,h3⟩=>⟨v,h1,h2,Sh.fj h3⟩
  |builtin b=>
   dsimp only at h;unfold biV at h;cases b<;>dsimp only at h<;>first|exact h.elim|skip
   case append=>exact dV (s:=Builtin.append_ argTypes type ⟨nD fr args.toList⟩) hE (by simp only[execOp,resolve,invoke,builtin,ha];rfl) h λv w' h=>Sh.fj h
   case copy=>exact dV (s:=Builtin.copy_ argTypes type ⟨nD fr args.toList⟩) hE (by simp only[execOp,resolve,invoke,builtin,ha];rfl) h λv w' h=>Sh.fj h
   case delete=>exact dV (s:=Builtin.delete_ argTypes type ⟨nD fr args.toList⟩) hE (by simp only[execOp,resolve,invoke,builtin,ha];rfl) h λv w' h=>h
   case clear=>exact dV (s:=Builtin.clear_ argTypes type ⟨nD fr args.toList⟩) hE (by simp only[execOp,resolve,invoke,builtin,ha];rfl) h λv w' h=>h
   case cap=>exact dV (s:=Builtin.cap_ argTypes type ⟨nD fr args.toList⟩) hE (by simp only[execOp,resolve,invoke,builtin,ha];rfl) h λv w' h=>Sh.fj h
   case unsafeSliceData=>exact dV (s:=Builtin.unsafeSliceData_ argTypes type ⟨nD fr args.toList⟩) hE (by simp only[execOp,resolve,invoke,builtin,ha];rfl) h λv w' h=>Sh.fj h
   case unsafeString=>exact dV (s:=Builtin.unsafeString_ argTypes type ⟨nD fr args.toList⟩) hE (by simp only[execOp,resolve,invoke,builtin,ha];rfl) h λv w' h=>Sh.fj h
theorem Wy{w:aiA}:∀(ad:Addr)(i:dD)(k:Value->Prop),ldv w ad i k->∃v,(∀w',w'=w->qF w' ad i v)/\k v:=
 λ_ _ _ h=>let⟨v,u,J⟩:=NU h;⟨v,λ_ e=>e▸u,J⟩
theorem Wz{w:aiA}:∀(s:Sem Value)(k:Value->Prop),rsW P w s k->∃v,(∀w',w'=w->s.run P w'=.ok v w')/\k v:=
 λ_ _ ⟨v,J,u⟩=>⟨v,λ_ e=>by simp_all,u⟩
theorem UB(hT:ec P Ty)(hF:sI P Fn)(hE:∀a b,Ev a b->E a b){all:List Oper}{o:Oper}{fr:Fr}{w:aiA}{K:Value->aiA->Prop}(hd:NN P Ty Fn E o fr w K->Dt P E o (ev fr) w K)(h:opK P Ty Fn E all o fr w K):Dt P E o (ev fr) w K:=by
 unfold opK at h
 split at h
 ·unfold afk at h
  split at h
  ·rename_i it d ho hdst;obtain⟨U,op,O,pos,J,u⟩:=o;dsimp only at ho hdst h;subst ho;refine dV hE rfl h λv w' h=>?_;obtain⟨us,rfl,V⟩:=BC h;exact V
  ·exact h.elim
 ·exact hd h
theorem WA(hT:ec P Ty)(hF:sI P Fn)(hE:∀a b,Ev a b->E a b){o:Oper}{fr:Fr}{w:aiA}{K:Value->aiA->Prop}(h:NN P Ty Fn E o fr w K):Dt P E o (ev fr) w K:=by
 cases hs:gM Ty o with
 |true=>
  have h':wD P Ty (ldv w) (rsW P w) o fr (λv=>K v w):=by simp_all[NN,cond_true]
  obtain⟨v,u,J⟩:=wI hT Wy Wz (C:=λw'=>w'=w) h';exact iB (u w rfl) (hE _ _ (Ev.refl _)) J
 |false=>
  have h':Wn P Ty Fn E o fr w K:=by simp_all[NN,cond_false]
  grind[Kv]
end
def wf(r:Option Nat):Fence:={ fn:=λ_=>True,depth:=none,alive:=false,round:=r }
def qG(ws:List Nat)(fr fr':Fr):Prop:=∀t,t∉ws->fl fr' t=fl fr t
theorem qG.refl(ws:List Nat)(fr:Fr):qG ws fr fr:=λ_ _=>rfl
theorem qG.mono{ws ws':List Nat}{a b:Fr}(h:qG ws a b)(hs:∀x∈ws,x∈ws'):qG ws' a b:=λt ht=>h t λu=>ht (hs t u)
theorem qG.trans{ws:List Nat}{a b c:Fr}(h:qG ws a b)(k:qG ws b c):qG ws a c:=λt ht=>(k t ht).trans (h t ht)
theorem qG.put{ws:List Nat}{N:Nat}{a b:Fr}(h:qG ws a b){d:Option Tmp}(v:Value)(hd:∀x,d=some x->x∈ws):qG ws a (Proofs.YtaoaemnefghnbaaGreatDoor.put N b d v):=by
 intro t ht;cases d with
 |none=>exact h t ht
 |some x=>rw[ob,agW (λ(e:x=t/\x<N)=>ht (e.1▸hd x rfl))];exact h t ht
section
variable{P:Program}{Ty:TypeId->Option dD}{Fn:FuncId->Bool}{E:aiA->aiA->Prop}
theorem semAt_eq{r:Option Nat}{ρ:Operand->Value}{o:Oper}(h:∀c,o.op≠.defer c):o.semAt r ρ=execOp ρ o:=by
 cases r with
 |none=>rfl
 |some l=>simp_all[Oper.semAt_some]
theorem N1{o:Oper}{ρ:Operand->Value}{w:aiA}{K:Value->aiA->Prop}(h:Dt P E o ρ w K):∀c,o.op≠.defer c:=by
 intro c hc;unfold Dt at h;simp only[execOp,hc,Sem.run_bind] at h;cases hr:(resolve ρ c o.type).run P w with
 |ok d w'=>simp_all
 |halt x w'=>simp_all
theorem N2{r:Option Nat}{n:Nat}{o:Oper}{a:Act}{w:aiA}{next:Act->aiA->Prop}{Q:Exit->Act->aiA->Prop}(h:Dt P E o a.eval w λv w'=>next (a.put o.dst v) w'):o.wpIn (wf r) n P a w next Q:=by
 refine⟨λ_ _=>trivial,?_⟩;have J:o.semAt (wf r).round a.eval=execOp a.eval o:=semAt_eq (N1 h);rw[J];unfold Dt at h
 split at h
 ·rename_i v w' hr;rw[hr];exact h.2
 ·rename_i w' hr;rw[hr];exact h.2
 ·rename_i f args w' hr;rw[hr];refine⟨λh=>(by cases h),?_⟩;have hc:CallsIn Fence.wide (n-1) P f args w' λe u=>∃v,e=.returned v/\E w' u/\next (a.put o.dst v) u:=callsIn_wide.2 h.2
  exact CallsIn.mono (F:=wf r) hc λe u ⟨v,J,_,O⟩=>by simp_all
 ·rename_i l f tmps assign body w' hr;rw[hr];refine⟨λh=>(by cases h),trivial,λc cs _=>?_⟩;obtain⟨e,u,⟨v,rfl,_,O⟩,U⟩:=h.2.2 c cs (room_wide _);exact⟨.returned v,u,O,U⟩
 simp_all
def kC(all:List Oper)(fr:Fr)(o:Oper):Bool:=
 match o.guard with
 |none=>true
 |some (j,t)=>match E7 all j with
  |some d=>(match fl fr d with|.bool b=>Sv b t|_=>false)
  |none=>false
theorem Dy{all:List Oper}{fr:Fr}{o:Oper}{yes no:Prop}:NP all fr o yes no↔(if kC all fr o=true then yes else no):=by grind[NP,kC,E7,fl,bool,Sv]
theorem LN:∀(l:List Oper)(n:Nat),Wp l n=l[n]?
 |[],n=>by rfl
 |o::l,0=>by rfl
 |o::l,n+1=>by simp[Wp,LN l n]
theorem WB(a b:Bool):Sv a b=(a==b):=by cases a<;>cases b<;>rfl
theorem Kw{N:Nat}{fr:Fr}(hf:Fits N fr)(ds:List Deferred)(all:List Oper)(o:Oper):Region.wanted o (yielded ⟨all⟩ (bf N fr ds).tmps)=kC all fr o:=by
 unfold Region.wanted kC;cases hg:o.guard with
 |none=>rfl
 |some g=>
  obtain⟨j,t⟩:=g;have J:E7 all j=((⟨all⟩:Array Oper)[j]?).bind (·.dst):=by grind[E7,LN]
  simp only[yielded,<-J];cases hdj:E7 all j with
  |none=>rfl
  |some d=>
   simp only[Option.bind_some];have u:(bf N fr ds).tmps[d]? =if d<N then some (fl fr d) else none:=by grind[bf]
   rw[u]
   by_cases h:d<N
   ·rw[ag0 h]
    grind[fl,WB]
   ·rw[agW h,hf d (Nat.le_of_not_lt h)];rfl
theorem qH{g:Bool}{v:Value}{k:Value->Prop}(h:G3 g v k):k v:=by
 unfold G3 at h
 split at h
 ·exact Uu h
 ·exact h
theorem Kx(hT:ec P Ty)(hF:sI P Fn)(hE:Jt E){N:Nat}{r:Option Nat}{n:Nat}{all:List Oper}{ds:List Deferred}{K:Fr->aiA->Prop}{Q:Exit->Act->aiA->Prop}:
  ∀(l:List Oper)(i:Nat)(fr:Fr)(w:aiA),Dq P Ty Fn E N all i l fr w K->Fits N fr->
   (∀fr' w',Fits N fr'->qG (dstsOf l) fr fr'->E w w'->K fr' w'->Q .normal (bf N fr' ds) w')->wpListIn (wf r) n P ⟨all⟩ Q l (bf N fr ds) w
 |[],i,fr,w,h,hf,hQ=>hQ fr w hf (qG.refl _ _) (hE.ofEv _ _ (Ev.refl w)) h
 |o::l,i,fr,w,h,hf,hQ=>by
  have sub:∀x,o.dst=some x->x∈dstsOf (o::l):=λx hx=>by simp[dstsOf,hx]
  have subl:∀x∈dstsOf l,x∈dstsOf (o::l):=λx hx=>by
   unfold dstsOf;cases o.dst<;>simp[hx]
  have next:∀v w',E w w'->Dq P Ty Fn E N all (i+1) l (put N fr o.dst v) w' K->wpListIn (wf r) n P ⟨all⟩ Q l ((bf N fr ds).put o.dst v) w':=λv w' hew hd=>by
   rw[Gn]
   exact Kx hT hF hE l (i+1) _ w' hd (wA hf _ _) λfr' w'' h1 h2 h3 h4=>
    hQ fr' w'' h1 (((qG.refl _ fr).put v sub).trans (h2.mono subl)) (hE.trans hew h3) h4
  simp only[Dq] at h
  rw[Dy] at h
  simp only[wpListIn,Kw hf]
  by_cases hw:kC all fr o=true
  ·rw[ag0 hw] at h ⊢
   have hs:=UB hT hF hE.ofEv (WA hT hF hE.ofEv) h
   refine N2 (E:=E) ?_
   rw[Gm N fr ds hf]
   exact hs.mono (λv w' hew hk=>next v w' hew (qH hk)) hE.trans
  ·rw[agW hw] at h ⊢
   exact⟨λ_ _=>trivial,next undef w (hE.ofEv _ _ (Ev.refl w)) h⟩
end
def ar(ls:List Bool):Array Bool:=⟨ls⟩
theorem LO:∀(ls:List Bool)(i:Nat),Wr ls i=(ar ls).getD i true
 |[],i=>by rfl
 |b::l,0=>by rfl
 |b::l,n+1=>by
  have:=LO l n
  simp_all[Wr,ar]
theorem N3:∀(ls:List Bool)(i:Nat),Sw ls i=(ar ls).getD i false
 |[],i=>by rfl
 |b::l,0=>by rfl
 |b::l,n+1=>by
  have:=N3 l n
  simp_all[Sw,ar]
theorem Hc:∀(ls:List Bool)(i:Nat),kP ls i=ls.set i true
 |[],i=>by rfl
 |b::l,0=>by rfl
 |b::l,n+1=>by simp[kP,Hc l n]
theorem yx(ls:List Bool)(i:Nat):ar (kP ls i)=(ar ls).setIfInBounds i true:=by simp[Hc,ar]
theorem UC(ls:List Bool)(i j:Nat):kP (kP ls i) j=kP (kP ls j) i:=by grind[Hc,List.set_comm]
theorem Hd{ls:List Bool}:∀{es:List Edge},G4 ls es=true↔∀e∈es,Region.binds .any e=true->(ar ls).getD e.on false=true
 |[]=>by simp[G4]
 |e::l=>by
  have ih:=Hd (ls:=ls) (es:=l)
  simp only[G4,ag1,ih,ag6,forall_eq_or_imp]
  grind[Region.binds,N3]
theorem Ky{i:Nat}:∀{es:List Edge},waits i es=true↔∃e∈es,Region.binds .any e=true/\e.on=i
 |[]=>by simp[waits]
 |e::l=>by
  have ih:=Ky (i:=i) (es:=l)
  simp only[waits,ahz,ih,ag6,exists_eq_or_imp]
  cases hg:e.ground<;>simp[Region.binds,hg]
theorem oh{ls:List Bool}{i:Nat}{o:Oper}:NQ ls i o=true↔(ar ls).getD i true=false/\∀e∈o.after,Region.binds .any e=true->(ar ls).getD e.on false=true:=by simp[NQ,Hd,LO]
theorem He{ls:List Bool}:∀{l:List Oper}{i:Nat}{x:Nat×Oper},x∈gE ls i l↔∃k,x.1=i+k/\l[k]? =some x.2/\NQ ls x.1 x.2=true
 |[],i,x=>by simp[gE]
 |o::l,i,x=>by
  have ih:=He (ls:=ls) (l:=l) (i:=i+1) (x:=x)
  have:x∈gE ls i (o::l)↔(x=(i,o)/\NQ ls i o=true)\/x∈gE ls (i+1) l:=by grind[gE,NQ]
  rw[this,ih]
  constructor
  ·rintro(⟨rfl,h⟩|⟨k,h1,h2,h3⟩)
   ·simp_all
   ·exact⟨k+1,ω,by simp_all,h3⟩
  grind
theorem jh{ls:List Bool}{l:List Oper}{x:Nat×Oper}:x∈gE ls 0 l↔l[x.1]? =some x.2/\NQ ls x.1 x.2=true:=by simp[He]
theorem rh{ls:List Bool}{l:List Oper}{j:Nat}:j∈Region.ready .any ⟨l⟩ (ar ls)↔∃o,(j,o)∈gE ls 0 l:=by
 rw[mem_ready]
 constructor
 ·simp_all[jh,oh]
 simp_all[jh,oh]
theorem Hf{ls:List Bool}{i j:Nat}{o:Oper}(h:NQ ls j o=true)(hne:j≠i):NQ (kP ls i) j o=true:=by
 rw[oh] at*;rw[yx];exact⟨by simp_all[Ne.symm],λe u hb=>getD_set_true (h.2 e u hb)⟩
theorem SC:∀l m,aad l m=l++m
 |[],_=>rfl
 |x::l,m=>by simp[aad,SC l m]
theorem LP:∀l,aae l=l.map (·.2)
 |[]=>rfl
 |(a,x)::l=>by simp[aae,LP l]
theorem WC(o:Op):∀x,x∈Ws o↔x∈o.operands:=by
 intro x;cases o<;>simp only[Ws,Op.operands]<;>try (simp;done)
 case build t ps=>simp[LP]
 case buildSlice t n ps=>simp[LP]
 case makeFunc fn a b=>simp[SC]
 case slice t y l h m=>cases l<;>cases h<;>cases m<;>simp[aac]
 grind[Call.operands]
theorem Dz{t:Nat}:∀{l:List Operand}{m:List Nat},t∈Kq l m↔Operand.tmp t∈l\/t∈m
 |[],m=>by simp[Kq]
 |x::l,m=>by
  have ih:=Dz (t:=t) (l:=l) (m:=m)
  cases x<;>simp[Kq,ih,or_assoc]
theorem wJ{x:Nat}:∀{l:List Nat},wF x l=true↔x∈l
 |[]=>by simp[wF]
 |y::l=>by simp[wF,wJ (l:=l)]
theorem UD{all:List Oper}{x y:Oper}(h:Dr all x y=true):
  (∀d,x.dst=some d->d∉looks all y)/\(∀d,x.dst=some d->y.dst≠some d)/\(∀d,y.dst=some d->d∉looks all x):=by
 simp only[Dr,ag1] at h;obtain⟨⟨U,V⟩,J⟩:=h
 refine⟨λd u=>?_,λd u O=>?_,λd u=>?_⟩
 ·grind[LI,Bool.not_eq_true',wJ]
 ·simp_all[acG]
 grind[LI,Bool.not_eq_true',wJ]
theorem Kz{all:List Oper}{ls:List Bool}{i:Nat}{o:Oper}:∀{l:List Oper}{j:Nat},Sy all ls i o j l=true->∀k p,l[k]? =some p->j+k≠i->(ar ls).getD (j+k) true=false->waits i p.after.toList=false->Dr all o p=true
 |[],j,h,k,p,hk,_,_,_=>by simp_all
 |q::l,j,h,k,p,hk,hne,hb,hw=>by
  simp only[Sy,ag1,ahz,Nat.beq_eq] at h
  cases k with
  |zero=>
   simp_all[Option.some.injEq,Nat.add_zero,LO]
  |succ k=>
   exact Kz h.2 k p (by simp_all) ω (by grind) hw
def ext(a b:Fr):Prop:=∀t,fl a t=fl b t
theorem SD{N:Nat}{a b:Fr}(h:ext a b)(d:Option Tmp)(v:Value):ext (put N a d v) (put N b d v):=by
 intro t;cases d with
 |none=>exact h t
 |some d=>rw[ob,ob,h t]
theorem put_comm{N:Nat}{a:Fr}{x y:Option Tmp}{v u:Value}(h:∀d,x=some d->y≠some d):ext (put N (put N a x v) y u) (put N (put N a y u) x v):=by
 intro t;cases x with
 |none=>rfl
 |some d=>
  cases y with
  |none=>rfl
  |some e=>
   have J:d≠e:=λO=>h d rfl (by grind);simp only[ob]
   grind
theorem adg{a b:Fr}(h:ext a b):ev a=ev b:=by
 funext x;cases x<;>simp[ev,h _]
theorem UE{all:List Oper}{a b:Fr}(h:ext a b)(o:Oper):kC all a o=kC all b o:=by
 unfold kC;simp only[h _]
theorem QO{all:List Oper}{o:Oper}{t:Nat}(h:Operand.tmp t∈o.op.operands):t∈looks all o:=
 Dz.2 (.inl ((WC o.op _).2 h))
theorem N4{all:List Oper}{N:Nat}{fr:Fr}{o:Oper}(hs:∀cs b,o.op≠.select cs b){d:Option Tmp}{v:Value}(h:∀x,d=some x->x∉looks all o):execOp (ev (put N fr d v)) o=execOp (ev fr) o:=by
 refine execOp_congr o hs λx u=>?_;cases x with
 |tmp t=>
  cases d with
  |none=>rfl
  |some e=>
   simp only[ev,ob];rw[agW];rintro⟨rfl,_⟩;exact h e rfl (QO u)
 |_=>rfl
theorem N5{all:List Oper}{N:Nat}{fr:Fr}{o:Oper}{d:Option Tmp}{v:Value}(h:∀x,d=some x->x∉looks all o):kC all (put N fr d v) o=kC all fr o:=by
 cases d with
 |none=>rfl
 |some e=>
  unfold kC;cases hg:o.guard with
  |none=>rfl
  |some g=>
   obtain⟨j,t⟩:=g;dsimp only;cases hd:E7 all j with
   |none=>rfl
   |some d=>
    have u:d∈looks all o:=by simp_all[looks,Dz]
    simp only[ob]
    grind
section
variable{P:Program}{Ty:TypeId->Option dD}{Fn:FuncId->Bool}{E:aiA->aiA->Prop}{N:Nat}{C:aiA->Prop}{all:List Oper}{Kend:Fr->aiA->Prop}
theorem WE{o:Oper}{ρ ρ':Operand->Value}{w:aiA}{K:Value->aiA->Prop}(he:execOp ρ o=execOp ρ' o)(h:Dt P E o ρ w K):Dt P E o ρ' w K:=by simp_all[Dt]
def cS(Ty:TypeId->Option dD)(all:List Oper)(C:aiA->Prop)(o:Oper)(w w':aiA):Prop:=(gM Ty o=true->w'=w)/\(gM Ty o=false->G5 Ty all o.after.toList=true->C w')
def wK(P:Program)(Ty:TypeId->Option dD)(E:aiA->aiA->Prop)(N:Nat)(C:aiA->Prop)(all:List Oper)(Kend:Fr->aiA->Prop):Nat->List Bool->Fr->aiA->Prop
 |0,ls,fr,w=>gE ls 0 all=[]/\Kend fr w
 |n+1,ls,fr,w=>(gE ls 0 all=[]->Kend fr w)/\∀x∈gE ls 0 all,
   if kC all fr x.2=true then Dt P E x.2 (ev fr) w λv w'=>cS Ty all C x.2 w w'/\wK P Ty E N C all Kend n (kP ls x.1) (put N fr x.2.dst v) w'
   else wK P Ty E N C all Kend n (kP ls x.1) (put N fr x.2.dst undef) w
theorem Hg(hE:Jt E)(hK:∀a b w,ext a b->Kend a w->Kend b w):∀(n:Nat)(ls:List Bool)(a b:Fr)(w:aiA),ext a b->wK P Ty E N C all Kend n ls a w->wK P Ty E N C all Kend n ls b w
 |0,ls,a,b,w,he,h=>⟨h.1,hK a b w he h.2⟩
 |n+1,ls,a,b,w,he,h=>by
  refine⟨λh0=>hK a b w he (h.1 h0),λx hx=>?_⟩
  have:=h.2 x hx
  rw[UE he] at this
  split
  ·rename_i hw
   rw[ag0 hw] at this
   rw[<-adg he]
   exact this.mono (λv w' _ hk=>⟨hk.1,Hg hE hK n _ _ _ w' (SD he _ _) hk.2⟩) hE.trans
  ·rename_i hw
   rw[agW hw] at this
   exact Hg hE hK n _ _ _ w (SD he _ _) this
def Cl(all:List Oper)(ls:List Bool):Prop:=∀j o,all[j]? =some o->(ar ls).getD j false=true->∀e∈o.after,Region.binds .any e=true->(ar ls).getD e.on false=true
theorem DA{i:Nat}:∀{es:List Edge}{m:List Nat},i∈BE es m↔(∃e∈es,Region.binds .any e=true/\e.on=i)\/i∈m
 |[],m=>by simp[BE]
 |e::l,m=>by
  have ih:=DA (i:=i) (es:=l) (m:=m)
  have e1:(∃x∈e::l,Region.binds .any x=true/\x.on=i)↔(Region.binds .any e=true/\e.on=i)\/∃x∈l,Region.binds .any x=true/\x.on=i:=σ
  rw[e1,or_assoc,<-ih]
  have hb:Region.binds .any e=(match e.ground with|.textOnly _|.gcOnly _=>false|_=>true):=by rfl
  rw[hb]
  conv=>lhs;unfold BE
  grind
theorem Ag{ls:List Bool}(hcl:Cl all ls):∀(n:Nat)(todo done:List Nat),(∀j∈todo,(ar ls).getD j false=true)->(∀j∈done,(ar ls).getD j false=true)->∀j∈clo all n todo done,(ar ls).getD j false=true
 |0,_,done,_,h2,j,hj=>h2 j hj
 |n+1,[],done,_,h2,j,hj=>h2 j hj
 |n+1,k::todo,done,h1,h2,j,hj=>by
  unfold clo at hj
  have hk:=h1 k σ
  split at hj
  ·exact Ag hcl n todo done (λj hj=>h1 j (by grind)) h2 j hj
  ·refine Ag hcl n _ _ (λj hj=>?_) (λj hj=>?_) j hj
   ·split at hj
    ·rename_i o ho
     rw[LN] at ho
     rcases DA.1 hj with⟨e,he,hb,rfl⟩|hj
     ·exact hcl k o ho hk e (by simp_all) hb
     simp_all
    simp_all
   grind
theorem N6{cl:List Nat}:∀{l:List Oper}{j:Nat},Kr Ty cl j l=false->∀k o,l[k]? =some o->gM Ty o=true->j+k∈cl
 |[],j,_,k,o,hk,_=>by simp at hk
 |q::l,j,h,k,o,hk,hs=>by
  simp only[Kr,Bool.or_eq_false_iff,Bool.and_eq_false_iff,Bool.not_eq_false'] at h
  cases k with
  |zero=>
   simp only[aiw,Option.some.injEq] at hk
   subst hk
   rcases h.1 with h1|h1
   ·rw[hs] at h1;cases h1
   ·exact wJ.1 h1
  |succ k=>have:=N6 h.2 k o (by simpa using hk) hs;rwa [show j+1+k=j+(k+1) by omega] at this
theorem BL{cl:List Nat}:∀{l:List Oper}{j:Nat},Af Ty cl j l=false->∀(k:Nat)(o:Oper),l[k]? =some o->BF Ty o=true->j+k∈cl
 |[],j,_,k,o,hk,_=>by simp_all
 |p::l,j,h,k,o,hk,hs=>by
  simp only[Af,Bool.or_eq_false_iff,Bool.and_eq_false_iff,Bool.not_eq_false'] at h
  cases k with
  |zero=>
   simp_all[Option.some.injEq,wJ]
  |succ k=>have:=BL h.2 k o (by simp_all) hs;grind
theorem E_{ls:List Bool}{i:Nat}{oi:Oper}(hcl:Cl all ls)(hr:NQ ls i oi=true)(h:G5 Ty all oi.after.toList=false)(k:Nat)(o:Oper)(hk:all[k]? =some o)(hs:BF Ty o=true):(ar ls).getD k false=true:=by
 have J:=BL h k o hk hs;rw[aii] at J;refine Ag hcl _ _ _ (λj u=>?_) (λj u=>by grind) k J
 rcases DA.1 u with⟨e,O,hb,rfl⟩|u
 ·simp_all[oh]
 simp_all
theorem KA{cl:List Nat}:∀{l:List Oper}{j:Nat},Af Ty cl j l=true->Kr Ty cl j l=true
 |[],j,h=>by grind[Af]
 |p::l,j,h=>by
  simp only[Af,ahz,ag1] at h
  simp only[Kr,ahz,ag1]
  rcases h with⟨h1,h2⟩|h
  ·simp_all[BF]
  ·exact .inr (KA h)
theorem N7{o:Oper}(h:G5 Ty all o.after.toList=true):Ks Ty all o=true:=by
 unfold Ks
 split
 ·omega
 ·exact KA h
theorem N8{ls:List Bool}{i:Nat}{oi:Oper}(hcl:Cl all ls)(hr:NQ ls i oi=true)(h:Ks Ty all oi=false)(k:Nat)(o:Oper)(hk:all[k]? =some o)(hs:BF Ty o=true):(ar ls).getD k false=true:=by grind[E_,G5,N7]
theorem Cl.set{ls:List Bool}{i:Nat}{oi:Oper}(hcl:Cl all ls)(hi:all[i]? =some oi)(hr:NQ ls i oi=true):Cl all (kP ls i):=by
 intro j o J hl e O hb;rw[yx] at hl ⊢
 by_cases u:i=j
 ·grind[getD_set_true,oh]
 ·rw[getD_set_ne false u] at hl;exact getD_set_true (hcl j o J hl e O hb)
theorem UF{ls:List Bool}{i j:Nat}{oj:Oper}(hi:(ar ls).getD i true=false)(hj:NQ ls j oj=true):waits i oj.after.toList=false:=by
 cases hw:waits i oj.after.toList with
 |false=>rfl
 |true=>
  obtain⟨e,u,hb,rfl⟩:=Ky.1 hw
  grind[oh,Nat.lt_or_ge,ar,Array.getElem?_eq_none]
theorem Ah(hE:Jt E)(hK:∀a b w,ext a b->Kend a w->Kend b w)(hsel:∀(k:Nat)(o:Oper) cs b,all[k]? =some o->o.op≠.select cs b)
  {i:Nat} {oi:Oper} {v:Value} {D:aiA->Prop} (hi:all[i]? =some oi) (hst:gM Ty oi=true) (hD:(∀w,D w)\/(BF Ty oi=true/\∀w,C w->D w)):∀(n:Nat)(ls:List Bool)(fr:Fr)(w:aiA),Cl all ls->
   (∀j oj,all[j]? =some oj->j≠i->(ar ls).getD j true=false->waits i oj.after.toList=false->Dr all oi oj=true)->
   NQ ls i oi=true->((kC all fr oi=true/\∀w,D w->(execOp (ev fr) oi).run P w=.ok (.value v) w)\/(kC all fr oi=false/\v=undef))->(BF Ty oi=true->C w)->
   wK P Ty E N C all Kend n (kP ls i) (put N fr oi.dst v) w->wK P Ty E N C all Kend (n+1) ls fr w:=by
 have aa:∀w,(BF Ty oi=true->C w)->D w:=λw h=>by
  rcases hD with hD|⟨h1,h2⟩
  ·exact hD w
  ·exact h2 w (h h1)
 have same:∀(n:Nat)(ls:List Bool)(fr:Fr)(w:aiA),((kC all fr oi=true/\∀w,D w->(execOp (ev fr) oi).run P w=.ok (.value v) w)\/(kC all fr oi=false/\v=undef))->D w->
   wK P Ty E N C all Kend n (kP ls i) (put N fr oi.dst v) w->
   (if kC all fr oi=true then Dt P E oi (ev fr) w λv w'=>cS Ty all C oi w w'/\wK P Ty E N C all Kend n (kP ls i) (put N fr oi.dst v) w'
    else wK P Ty E N C all Kend n (kP ls i) (put N fr oi.dst undef) w):=by
  intro n ls fr w hy a5 H
  rcases hy with⟨hw,hv⟩|⟨hw,rfl⟩
  ·rw[ag0 hw];exact iB (hv w a5) (hE.ofEv _ _ (Ev.refl w)) ⟨⟨λ_=>rfl,λh=>by rw[hst] at h;cases h⟩,H⟩
  simp_all
 intro n
 induction n with
 |zero=>
  intro ls fr w a0 O hr hy hC H;have J:(i,oi)∈gE ls 0 all:=jh.2 ⟨hi,hr⟩;refine⟨λh=>(by rw[h] at J;cases J),λx hx=>?_⟩;obtain⟨V,U⟩:=jh.1 hx
  by_cases W:x.1=i
  ·grind
  ·have:x∈gE (kP ls i) 0 all:=jh.2 ⟨V,Hf U W⟩;rw[H.1] at this;simp_all
 |succ n ih=>
  intro ls fr w a0 O hr hy hC H;have J:(i,oi)∈gE ls 0 all:=jh.2 ⟨hi,hr⟩;refine⟨λh=>(by rw[h] at J;cases J),λx hx=>?_⟩;obtain⟨V,U⟩:=jh.1 hx
  by_cases W:x.1=i
  ·grind
  ·have h1:=H.2 x (jh.2 ⟨V,Hf U W⟩);have a6:(ar ls).getD i true=false:=(oh.1 hr).1;have a8:=UF a6 U;have a9:=O x.1 x.2 V W (oh.1 U).1 a8;obtain⟨a1,a2,a3⟩:=UD a9;have Z:BF Ty oi=true->G5 Ty all x.2.after.toList=true:=λY=>by grind[G5,E_,Nat.lt_or_ge,ar,Array.getElem?_eq_none]
   have a4:∀u,((kC all (put N fr x.2.dst u) oi=true/\∀w,D w->(execOp (ev (put N fr x.2.dst u)) oi).run P w=.ok (.value v) w)\/(kC all (put N fr x.2.dst u) oi=false/\v=undef)):=λu=>by
    rw[N5 a3,N4 (all:=all) (hsel i oi · · hi) a3];omega
   have X:∀j oj,all[j]? =some oj->j≠i->(ar (kP ls x.1)).getD j true=false->waits i oj.after.toList=false->Dr all oi oj=true:=λj oj h1 h2 h3 h4=>by
    refine O j oj h1 h2 ?_ h4;rw[yx] at h3
    by_cases ad:x.1=j
    ·simp_all
    simp_all
   have go:∀u w',(BF Ty oi=true->C w')->wK P Ty E N C all Kend n (kP (kP ls i) x.1) (put N (put N fr oi.dst v) x.2.dst u) w'->wK P Ty E N C all Kend (n+1) (kP ls x.1) (put N fr x.2.dst u) w':=λu w' a7 hA=>by
    refine ih (kP ls x.1) (put N fr x.2.dst u) w' (a0.set V U) X (Hf hr (Ne.symm W)) (a4 u) a7 ?_;rw[UC];exact Hg hE hK n _ _ _ w' (put_comm a2) hA
   rw[N5 a1] at h1
   split
   ·rename_i hw;rw[ag0 hw] at h1;have h2:=WE (N4 (all:=all) (hsel x.1 x.2 · · V) a1) h1;refine h2.mono (λu w' _ hk=>⟨hk.1,go u w' (λY=>?_) hk.2⟩) hE.trans;cases hs:gM Ty x.2 with
    |true=>rw[hk.1.1 hs];exact hC Y
    |false=>exact hk.1.2 hs (Z Y)
   grind
theorem vk{ls:List Bool}:∀{l:List Oper}{i:Nat}{x:Nat×Oper},jL Ty ls i l=some x->∃k,x.1=i+k/\l[k]? =some x.2/\gM Ty x.2=true/\NQ ls x.1 x.2=true
 |[],i,x,h=>by grind[jL]
 |o::l,i,x,h=>by
  simp only[jL,Bool.cond_eq_ite] at h
  split at h
  ·rename_i hc
   cases h
   simp_all
  ·obtain⟨k,h1,h2,h3⟩:=vk h
   exact⟨k+1,ω,by simp_all,h3⟩
theorem N9{f:Nat×Oper->Prop}:∀{l:List (Nat×Oper)},ac9 l f->∀x∈l,f x
 |[],_,x,hx=>by cases hx
 |[y],h,x,hx=>by simp at hx;rw[hx];exact h
 |y::z::l,h,x,hx=>by
  obtain⟨h1,h2⟩:=h
  rcases ag6.1 hx with rfl|hx
  ·exact h1
  ·exact N9 h2 x hx
theorem LQ(hE:Jt E){C C':aiA->Prop}(hC:∀w,C' w->C w):∀(n:Nat)(ls:List Bool)(fr:Fr)(w:aiA),wK P Ty E N C' all Kend n ls fr w->wK P Ty E N C all Kend n ls fr w
 |0,ls,fr,w,h=>by simp_all[wK]
 |n+1,ls,fr,w,h=>by
  refine⟨h.1,λx hx=>?_⟩
  have h1:=h.2 x hx
  split
  ·rename_i hw
   rw[ag0 hw] at h1
   exact h1.mono (λv w' _ hk=>⟨⟨hk.1.1,λh1 h2=>hC _ (hk.1.2 h1 h2)⟩,LQ hE hC n _ _ w' hk.2⟩) hE.trans
  ·rename_i hw
   rw[agW hw] at h1
   exact LQ hE hC n _ _ w h1
theorem QP{ld ld':Addr->dD->(Value->Prop)->Prop}{rs rs':Sem Value->(Value->Prop)->Prop}{o:Oper}{fr:Fr}{K:Value->Prop}(hp:LJ Ty o=true)(h:wD P Ty ld rs o fr K):wD P Ty ld' rs' o fr K:=by
 obtain⟨U,op,O,pos,J,u⟩:=o;cases op<;>simp only[LJ,Bool.false_eq_true] at hp
 case binOp op t x y yt=>
  unfold wD at h ⊢;dsimp only at h ⊢;rw[hp] at h ⊢;exact h
 all_goals exact h
theorem vl{ls:List Bool}:∀{l:List Oper}{i:Nat},jL Ty ls i l=none->∀(k:Nat)(o:Oper),l[k]? =some o->NQ ls (i+k) o=true->gM Ty o=false
 |[],i,_,k,o,hk,_=>by simp_all
 |p::l,i,h,k,o,hk,hr=>by
  simp only[jL,Bool.cond_eq_ite] at h
  split at h
  ·grind
  ·rename_i hc
   cases k with
   |zero=>
    simp_all
   |succ k=>exact vl h k o (by simp_all) (by grind)
theorem kD(hT:ec P Ty)(hF:sI P Fn)(hE:Jt E){K0:Fr->aiA->Prop}(hsub:∀fr w,K0 fr w->Kend fr w)(hK:∀a b w,ext a b->Kend a w->Kend b w)(hsel:∀(k:Nat)(o:Oper) cs b,all[k]? =some o->o.op≠.select cs b):
  ∀(n:Nat)(C:aiA->Prop)(ls:List Bool)(fr:Fr)(w:aiA),Cl all ls->(C w\/∀k o,all[k]? =some o->BF Ty o=true->(ar ls).getD k true=true)->E8 P Ty Fn E N C all K0 n ls fr w->wK P Ty E N C all Kend n ls fr w
 |0,C,ls,fr,w,_,_,h=>by
  unfold E8 at h
  split at h
  ·rename_i h0;exact⟨h0,hsub _ _ h⟩
  simp_all
 |n+1,C,ls,fr,w,hcl,hinv,h=>by
  have listed:∀j,(C w\/∀k o,all[k]? =some o->BF Ty o=true->(ar (kP ls j)).getD k true=true):=λj=>by
   rcases hinv with h|h
   ·simp_all
   ·refine .inr λk o hk hs=>?_
    rw[yx]
    by_cases hjk:j=k
    ·simp_all
    simp_all
  unfold E8 at h
  split at h
  ·rename_i i o hfs
   obtain⟨k,hk1,hk2,hst,hr⟩:=vk hfs
   rw[aii] at hk1
   dsimp only at hk1 hk2 hst hr
   subst hk1
   obtain⟨hfr,h⟩:=a_.1 h
   have hC:BF Ty o=true->C w:=λhrd=>hinv.resolve_right λh=>by simp_all[oh]
   have hfree:=λj oj h1 h2 h3 h4=>Kz hfr j oj h1 (by rw[aii];exact h2) (by rw[aii];exact h3) h4
   rw[Dy] at h
   by_cases hw:kC all fr o=true
   ·rw[ag0 hw] at h
    by_cases hp:LJ Ty o=true
    ·obtain⟨v,h1,h2⟩:=wI hT (C:=λ_=>True) (ld:=λad i k=>∃v,(∀w,True->qF w ad i v)/\k v) (rs:=λs k=>∃v,(∀w,True->s.run P w=.ok v w)/\k v) (λ_ _ _ h=>h) (λ_ _ h=>h) (QP hp h)
     exact Ah hE hK hsel hk2 hst (D:=λ_=>True) (.inl λ_=>trivial) n ls fr w hcl hfree hr (.inl ⟨hw,h1⟩) hC (kD hT hF hE hsub hK hsel n _ _ _ w (hcl.set hk2 hr) (listed i) (qH h2))
    ·obtain⟨v,h1,h2⟩:=wI hT (C:=C) (λ_ _ _ h=>Wt h) (λ_ _ h=>h) h
     exact Ah hE hK hsel hk2 hst (D:=C) (.inr ⟨by simp_all[BF],λ_ h=>h⟩) n ls fr w hcl hfree hr (.inl ⟨hw,h1⟩) hC (kD hT hF hE hsub hK hsel n _ _ _ w (hcl.set hk2 hr) (listed i) (qH h2))
   ·rw[agW hw] at h
    exact Ah hE hK hsel hk2 hst (D:=λ_=>True) (.inl λ_=>trivial) n ls fr w hcl hfree hr (.inr ⟨by simp_all,rfl⟩) hC (kD hT hF hE hsub hK hsel n _ _ _ w (hcl.set hk2 hr) (listed i) h)
  ·rename_i hfs
   split at h
   ·rename_i h0
    exact⟨λ_=>hsub _ _ h,λx hx=>by simp_all⟩
   ·rename_i es hne
    refine⟨λh0=>absurd h0 hne,λx hx=>?_⟩
    have h1:=N9 h x hx
    rw[Dy] at h1
    obtain⟨hx1,hx2⟩:=jh.1 hx
    split
    ·rename_i hw
     rw[ag0 hw] at h1
     refine(Kv hT hF hE.ofEv h1).mono (λv w' _ hk=>?_) hE.trans
     have hk:=qH hk
     have eff:∀{X:aiA->Prop},(Ks Ty all x.2=true->X w')->gM Ty x.2=false->cS Ty all X x.2 w w':=λhX hs=>⟨λh=>(by simp_all),λ_ hn=>hX (N7 hn)⟩
     have hes:gM Ty x.2=false:=vl hfs x.1 x.2 hx1 (by simp_all)
     cases hn:Ks Ty all x.2 with
     |true=>
      rw[hn] at hk
      unfold cCs at hk
      dsimp only at hk
      split at hk
      ·obtain⟨C',k1,k2,k3⟩:=hk
       exact⟨eff (λ_=>k2 _ k1) hes,LQ hE k2 n _ _ w' (kD hT hF hE hsub hK hsel n C' _ _ w' (hcl.set hx1 hx2) (.inl k1) k3)⟩
      ·exact⟨eff (λ_=>hk.1) hes,kD hT hF hE hsub hK hsel n _ _ _ w' (hcl.set hx1 hx2) (.inl hk.1) hk.2⟩
     |false=>
      rw[hn] at hk
      refine⟨eff (λh=>(by rw[hn] at h;cases h)) hes,kD hT hF hE hsub hK hsel n _ _ _ w' (hcl.set hx1 hx2) (.inr λk o hk' hs=>?_) hk⟩
      grind[N8,ar,kP,yx,getD_set_true,Nat.lt_or_ge,Array.getElem?_eq_none]
    ·rename_i hw
     rw[agW hw] at h1
     exact kD hT hF hE hsub hK hsel n _ _ _ w (hcl.set hx1 hx2) (listed _) h1
end
def V3(D:Nat):Deferred:={ target:=.collected D,args:=#[] }
def Mk(rf:Bool)(w0 w:aiA)(ds:List Deferred):Prop:=(rf=false->ds=[])/\∃Ds:List Nat,ds=Ds.map V3/\Ds.Nodup/\∀D∈Ds,w0.heap.size<=D/\w.heap[D]? =some (Obj.deferred (some []))
theorem Mk.nil{rf:Bool}(w0 w:aiA):Mk rf w0 w []:=⟨λ_=>rfl,[],rfl,List.nodup_nil,λ_ h=>by grind⟩
section
variable{P:Program}{Ty:TypeId->Option dD}{Fn:FuncId->Bool}{E:aiA->aiA->Prop}{rf:Bool}
theorem Mk.trans(hE:Jt E){w0 w1 w2:aiA}{d1 d2:List Deferred}(h0:E w0 w1)(h12:E w1 w2)(h1:Mk rf w0 w1 d1)(h2:Mk rf w1 w2 d2):Mk rf w0 w2 (d2++d1):=by
 obtain⟨X,U,rfl,n1,J⟩:=h1;obtain⟨W,V,rfl,n2,u⟩:=h2
 refine⟨λh=>(by simp_all),V++U,σ,?_,?_⟩
 ·grind
 ·intro D O
  rcases agX.1 O with h|h
  ·exact⟨ahq (hE.size h0) (u D h).1,(u D h).2⟩
  ·exact⟨(J D h).1,hE.dfr h12 _ _ (J D h).2⟩
def QN(rf:Bool)(E:aiA->aiA->Prop)(N:Nat)(ws:List Nat)(fr0:Fr)(w0:aiA)(ds:List Deferred)(n r:Fr->aiA->Prop)(x:Nat->Fr->aiA->Prop):Exit->Act->aiA->Prop
 |.normal,a,w=>∃fr ds',a=bf N fr (ds'++ds)/\Fits N fr/\qG ws fr0 fr/\E w0 w/\Mk rf w0 w ds'/\n fr w
 |.ret,a,w=>∃fr ds',a=bf N fr (ds'++ds)/\Fits N fr/\qG ws fr0 fr/\E w0 w/\Mk rf w0 w ds'/\r fr w
 |.exit i,a,w=>∃fr ds',a=bf N fr (ds'++ds)/\Fits N fr/\qG ws fr0 fr/\E w0 w/\Mk rf w0 w ds'/\x i fr w
 |_,_,_=>False
theorem QN.mono{N:Nat}{ws ws':List Nat}{fr0:Fr}{w0:aiA}{ds:List Deferred}{n r n' r':Fr->aiA->Prop}{x x':Nat->Fr->aiA->Prop}
  (hs:∀t∈ws,t∈ws') (hn:∀fr w,qG ws fr0 fr->E w0 w->n fr w->n' fr w) (hr:∀fr w,r fr w->r' fr w) (hx:∀i fr w,x i fr w->x' i fr w) {e:Exit} {a:Act} {w:aiA}
  (h:QN rf E N ws fr0 w0 ds n r x e a w):QN rf E N ws' fr0 w0 ds n' r' x' e a w:=by
 cases e<;>try exact h.elim
 all_goals (obtain⟨fr,u,W,X,J,O,U,V⟩:=h)
 ·exact⟨fr,u,W,X,J.mono hs,O,U,hn fr w J O V⟩
 ·exact⟨fr,u,W,X,J.mono hs,O,U,hx _ fr w V⟩
 ·exact⟨fr,u,W,X,J.mono hs,O,U,hr fr w V⟩
theorem QN.later(hE:Jt E){N:Nat}{ws ws':List Nat}{fr0 fr1:Fr}{w0 w1:aiA}{ds d1:List Deferred}{n r:Fr->aiA->Prop}{x:Nat->Fr->aiA->Prop}
  (hs:∀t∈ws',t∈ws) (ha:qG ws fr0 fr1) (he:E w0 w1) (hm:Mk rf w0 w1 d1) {e:Exit} {a:Act} {w:aiA}
  (h:QN rf E N ws' fr1 w1 (d1++ds) n r x e a w):QN rf E N ws fr0 w0 ds n r x e a w:=by
 cases e<;>try exact h.elim
 all_goals
  obtain⟨fr,u,X,W,O,J,U,V⟩:=h;exact⟨fr,u++d1,by simp_all,W,ha.trans (O.mono hs),hE.trans he J,Mk.trans hE he J hm U,V⟩
theorem LR:∀l m,QE l m=l++m
 |[],_=>rfl
 |x::l,m=>by simp[QE,LR l m]
theorem SE(a b:Code):sB (.seq a b)=sB a++sB b:=by simp[sB,LR]
theorem N_(c:Operand)(a b:Code):sB (.cond c a b)=sB a++sB b:=by simp[sB,LR]
def WG(c:Cs)(v:Value):Prop:=∀f:Value->Prop,c.all f->f v
theorem Cs.LS{β:Type}(c:Cs)(b:β)(v:Value):c.ap (c.cst b) v b=b:=by
 cases c<;>cases v<;>simp only[Cs.ap,Cs.cst]<;>try rfl
 ·simp
 ·rename_i fn first cap;cases fn<;>try rfl
  obtain⟨first⟩:=first;obtain⟨cap⟩:=cap;cases first<;>rfl
theorem Cs.BM{β:Type}{c:Cs}{g:c.arr β}{v:Value}{d:β}(D:β->Prop)(hd:¬D d)(h:D (c.ap g v d)):WG c v:=by
 intro f ha;cases c<;>cases v<;>simp only[Cs.ap] at h<;>try exact absurd h hd
 case int.int k k' n=>
  cases hb:Nat.beq (kx k) (kx k')<;>rw[hb] at h
  ·exact absurd h hd
  ·rw[<-Wh hb];exact ha n
 case fn.func fn first cap=>
  cases fn<;>try exact absurd h hd
  obtain⟨first⟩:=first
  obtain⟨cap⟩:=cap
  cases first
  ·exact ha _ _
  ·exact absurd h hd
 all_goals (first|exact ha _|exact ha _ _|exact ha _ _ _)
theorem LU{β:Type}(d:β):∀(l:List Cs)(vs:List Value),apC l (QD l d) vs d=d
 |[],[]=>rfl
 |[],_::_=>rfl
 |c::l,[]=>rfl
 |c::l,v::vs=>by
  show apC l (c.ap (c.cst (QD l d)) v (QD l d)) vs d=d
  rw[Cs.LS];exact LU d l vs
theorem KB{β:Type}(d:β)(D:β->Prop)(hd:¬D d):∀{l:List Cs}{g:Uv l β}{vs:List Value},D (apC l g vs d)->∀f:List Value->Prop,Z_ l f->f vs
 |[],g,[],_=>λf ha=>ha
 |[],g,v::vs,h=>absurd h hd
 |c::l,g,[],h=>absurd h hd
 |c::l,g,v::vs,h=>λf ha=>by
  have h1:WG c v:=Cs.BM (β:=Uv l β) (g:=g) (d:=QD l d) (λk=>D (apC l k vs d)) (by simp_all[LU]) h
  exact KB d D hd (l:=l) h (λvs=>f (v::vs)) (h1 _ ha)
theorem S1.LS{β:Type}(c:S1)(b:β)(v:Value):c.ap (c.cst b) v b=b:=by
 cases c with
 |one c=>cases v<;>exact Cs.LS c b _
 |agg l=>cases v<;>first|exact LU b l _|rfl
theorem S1.BM{β:Type}{c:S1}{g:c.arr β}{v:Value}{d:β}(D:β->Prop)(hd:¬D d)(h:D (c.ap g v d)):∀f:Value->Prop,c.all f->f v:=by
 cases c with
 |one c=>exact Cs.BM D hd (by cases v<;>exact h)
 |agg l=>
  cases v<;>try exact absurd h hd
  rename_i cs;intro f ha;obtain⟨cs⟩:=cs;exact KB d D hd (l:=l) h (λvs=>f (.agg ⟨vs⟩)) ha
theorem SF{β:Type}(d:β):∀(l:List S1)(vs:List Value),Kp l (Uw l d) vs d=d
 |[],[]=>rfl
 |[],_::_=>rfl
 |c::l,[]=>rfl
 |c::l,v::vs=>by
  show Kp l (c.ap (c.cst (Uw l d)) v (Uw l d)) vs d=d
  rw[S1.LS];exact SF d l vs
theorem DB{β:Type}(d:β)(D:β->Prop)(hd:¬D d):∀{l:List S1}{g:G2 l β}{vs:List Value},D (Kp l g vs d)->∀f:List Value->Prop,NO l f->f vs
 |[],g,[],_=>λf ha=>ha
 |[],g,v::vs,h=>absurd h hd
 |c::l,g,[],h=>absurd h hd
 |c::l,g,v::vs,h=>λf ha=>by
  have h1:=S1.BM (β:=G2 l β) (c:=c) (g:=g) (v:=v) (d:=Uw l d) (λk=>D (Kp l k vs d)) (by simp_all[SF]) h
  exact DB d D hd (l:=l) h (λvs=>f (v::vs)) (h1 _ ha)
theorem DC{N:Nat}{d:Nat->Value}(t:Nat)(ht:t<N):∀(ws:List Nat)(fr:Fr),(∀s,fl fr s=d s\/s∉ws)\/True->fl (vj N d ws fr) t=if t∈ws then d t else fl fr t
 |[],fr,_=>by rfl
 |s::ws,fr,_=>by
  rw[vj,DC t ht ws _ (.inr trivial)]
  by_cases h:t∈ws
  ·grind
  ·rw[agW h,ob]
   grind
theorem Hh{N:Nat}(t:Nat)(ht:t<N)(fr2:Fr):∀(lv:List (Nat×S1))(fr:Fr),fl (qg N fr lv (wE fr2 lv)) t=if t∈lv.map (·.1) then fl fr2 t else fl fr t
 |[],fr=>by rfl
 |(s,c)::lv,fr=>by
  rw[wE,qg,Hh t ht fr2 lv]
  by_cases h:t∈lv.map (·.1)
  ·simp_all
  ·rw[agW h,ob]
   grind
theorem pk{N:Nat}{d:Nat->Value}:∀(ws:List Nat){fr:Fr},Fits N fr->Fits N (vj N d ws fr)
 |[],_,h=>h
 |s::ws,_,h=>pk ws (wA h _ _)
theorem oZ{N:Nat}:∀(lv:List (Nat×S1))(vs:List Value){fr:Fr},Fits N fr->Fits N (qg N fr lv vs)
 |[],_,_,h=>h
 |(s,c)::lv,[],_,h=>h
 |(s,c)::lv,v::vs,_,h=>oZ lv vs (wA h _ _)
theorem Hi{N:Nat}{ws:List Nat}{fr fr2:Fr}(lv:List (Nat×S1))(ds:List Deferred)(ha:qG ws fr fr2):
  bf N (qg N (vj N (fl fr2) ws fr) lv (wE fr2 lv)) ds=bf N fr2 ds:=by
 refine E4 ds λt ht=>?_;rw[Hh t ht]
 split
 ·rfl
 ·rw[DC t ht ws fr (.inr trivial)]
  split
  ·rfl
  ·rename_i h;exact(ha t h).symm
end
section
variable{P:Program}{Ty:TypeId->Option dD}{Fn:FuncId->Bool}{E:aiA->aiA->Prop}{N:Nat}{ro:Option Nat}{k:Nat}
theorem DD{ws:List Nat}{fr fr2:Fr}(lv:List (Nat×S1))(hf:Fits N fr)(ha:qG ws fr fr2):qG ws fr (qg N (vj N (fl fr2) ws fr) lv (wE fr2 lv)):=by
 intro t ht
 by_cases hN:t<N
 ·rw[Hh t hN]
  split
  ·exact ha t ht
  simp_all[DC]
 ·rw[oZ lv _ (pk ws hf) t (Nat.le_of_not_lt hN),hf t (Nat.le_of_not_lt hN)]
theorem KC(hE:Jt E){C:aiA->Prop}{all:List Oper}{Kend:Fr->aiA->Prop}{ds:List Deferred}{Q:Exit->Act->aiA->Prop}:
  ∀(n:Nat)(ls:List Bool)(fr:Fr)(w:aiA),wK P Ty E N C all Kend n ls fr w->Fits N fr->
   (∀fr' w',Fits N fr'->qG (dstsOf all) fr fr'->E w w'->Kend fr' w'->Q .normal (bf N fr' ds) w')->wpAnyIn (wf ro) k P .any ⟨all⟩ Q n (ar ls) (bf N fr ds) w
 |0,ls,fr,w,h,hf,hQ=>by
  refine⟨?_,hQ fr w hf (qG.refl _ _) (hE.ofEv _ _ (Ev.refl w)) h.2⟩
  cases hr:Region.ready .any ⟨all⟩ (ar ls) with
  |nil=>rfl
  |cons j l=>
   have:j∈Region.ready .any ⟨all⟩ (ar ls):=by simp_all
   obtain⟨o,ho⟩:=rh.1 this
   rw[h.1] at ho;grind
 |n+1,ls,fr,w,h,hf,hQ=>by
  refine⟨λh0=>?_,λj hj=>?_⟩
  ·refine hQ fr w hf (qG.refl _ _) (hE.ofEv _ _ (Ev.refl w)) (h.1 ?_)
   cases hr:gE ls 0 all with
   |nil=>rfl
   |cons x l=>
    have:x.1∈Region.ready .any ⟨all⟩ (ar ls):=rh.2 ⟨x.2,by simp_all⟩
    simp_all
  ·obtain⟨o,ho⟩:=rh.1 hj
   have hx:=h.2 (j,o) ho
   obtain⟨h1,h2⟩:=jh.1 ho
   dsimp only at hx h1 h2
   have ho':(⟨all⟩:Array Oper)[j]? =some o:=by simp_all
   unfold wpOpIn
   simp only[ho',Kw hf]
   have sub:∀x,o.dst=some x->x∈dstsOf all:=by
    intro x hx
    have:∀(l:List Oper)(j:Nat),l[j]? =some o->x∈dstsOf l:=by
     intro l
     induction l with
     |nil=>simp
     |cons p l ih=>
      grind[dstsOf]
    grind
   have next:∀v w',E w w'->wK P Ty E N C all Kend n (kP ls j) (put N fr o.dst v) w'->wpAnyIn (wf ro) k P .any ⟨all⟩ Q n ((ar ls).setIfInBounds j true) ((bf N fr ds).put o.dst v) w':=λv w' hew hd=>by
    rw[Gn,<-yx]
    exact KC hE n _ _ w' hd (wA hf _ _) λfr' w'' h1 h2 h3 h4=>hQ fr' w'' h1 (((qG.refl _ fr).put v sub).trans h2) (hE.trans hew h3) h4
   split
   ·rename_i hw
    rw[ag0 hw] at hx
    refine N2 (E:=E) ?_
    rw[Gm N fr ds hf]
    refine hx.mono (λv w' hew hk=>next v w' hew ?_) hE.trans
    simp_all
   ·rename_i hw
    rw[agW hw] at hx
    exact⟨λ_ _=>trivial,next undef w (hE.ofEv _ _ (Ev.refl w)) hx⟩
theorem SG:∀l,aaf.lenO l=l.length
 |[]=>rfl
 |_::l=>by simp[aaf.lenO,SG l]
theorem Hj:∀n,Sx n=List.replicate n false
 |0=>rfl
 |n+1=>by simp[Sx,Hj n,ah1]
theorem Oa:∀{ops:List Oper},Sz ops=true->∀(k:Nat)(o:Oper) cs b,ops[k]? =some o->o.op≠.select cs b
 |[],_,k,o,cs,b,hk=>by simp_all
 |p::l,h,k,o,cs,b,hk=>by
  simp only[Sz,ag1] at h
  cases k with
  |zero=>grind
  |succ k=>exact Oa h.2 k o cs b (by simp_all)
theorem adh(n j:Nat):(ar (List.replicate n false)).getD j false=false:=by
 by_cases h:j<n<;>simp[ar,h]
theorem UG(hT:ec P Ty)(hF:sI P Fn)(hE:Jt E)(hm:P.follows .mixedOrders=true){id:Nat}{ops:Array Oper}{draw:Bool}{fr:Fr}{w:aiA}{K:Fr->aiA->Prop}{ds:List Deferred}{Q:Exit->Act->aiA->Prop}
  (h:aaf P Ty Fn E N ops.toList draw fr w K) (hf:Fits N fr)
  (hQ:∀fr' w',Fits N fr'->qG (dstsOf ops.toList) fr fr'->E w w'->K fr' w'->Q .normal (bf N fr' ds) w'):(Code.region id ops draw).wpIn (wf ro) k P Q (bf N fr ds) w:=by
 cases draw with
 |false=>
  refine wpIn_region_list ?_;exact Kx hT hF hE ops.toList 0 fr w h hf hQ
 |true=>
  refine wpIn_region_any hm ?_;obtain⟨V,h⟩:=a_.1 h;obtain⟨C,hC,hd⟩:=h _ rfl;have Y:∀(a b:Fr)(w:aiA),ext a b->(∃u,ext u a/\K u w)->∃u,ext u b/\K u w:=λa b w X ⟨f,U,O⟩=>⟨f,λt=>(U t).trans (X t),O⟩;have:=kD hT hF hE (Kend:=λfr w=>∃u,ext u fr/\K u w) (λfr w h=>⟨fr,λ_=>rfl,h⟩) Y (Oa V) _ _ _ fr _ (λj o _ hl=>by grind[Hj,adh]) (.inl hC) hd;rw[SG,Hj] at this;have e:(Array.replicate ops.size false)=ar (List.replicate ops.toList.length false):=by rfl
  rw[e];have e2:ops.size=ops.toList.length:=σ
  rw[e2];refine KC hE (ds:=ds) (Q:=Q) _ _ fr _ this hf λfr' w' U O W ⟨u,J,Z⟩=>?_;rw[E4 ds (fr:=fr') (fr':=u) λt _=>(J t).symm];exact hQ u w' (λt ht=>by rw[J t];exact U t ht) (λt ht=>by rw[J t];exact O t ht) (hE.trans (hE.ofEv _ _ (Ev.drew w _)) W) Z
end
structure Hk(l:Nat)(w w':aiA):Prop where
 os:w'.os=w.os
 tape:w'.tape=w.tape
 output:w'.output=w.output
 size:w.heap.size<=w'.heap.size
 dfr:∀(b:Nat)(d:Option (List Deferred)),w.heap[b]? =some (Obj.deferred d)->w'.heap[b]? =some (Obj.deferred d)
 lop:∀(b:Nat)(d:Loop),b≠l->w.heap[b]? =some (Obj.loop d)->w'.heap[b]? =some (Obj.loop d)
theorem Hk.trans{l:Nat}{a b c:aiA}(h:Hk l a b)(k:Hk l b c):Hk l a c:=
 ⟨k.os.trans h.os,k.tape.trans h.tape,k.output.trans h.output,ahq h.size k.size,λx d u=>k.dfr x d (h.dfr x d u),λx d hl u=>k.lop x d hl (h.lop x d hl u)⟩
theorem Hk.of{l:Nat}{a b:aiA}(h:Ev a b):Hk l a b:=⟨h.os,h.tape,h.output,h.size,h.dfr,λx d _ u=>h.lop x d u⟩
theorem afo(l:Nat):Jt (Hk l):=⟨λh k=>h.trans k,λ_ _ h=>.of h,λh k d u=>h.dfr k d u,λh=>h.size⟩
theorem Hk.putObj{l:Nat}{w:aiA}{r r':Loop}(h:w.heap[l]? =some (.loop r)):Hk l w (w.putObj l (.loop r')):=by
 refine⟨rfl,rfl,rfl,σ,λb d hb=>?_,λb d u hb=>?_⟩
 ·grind[World.putObj_heap_other]
 simp_all[World.putObj_heap_other]
theorem Ev.back{l:Nat}{a b c:aiA}(h1:Ev a b)(h:Hk l b c)(hl:a.heap.size<=l):Ev a c:=
 ⟨h.os.trans h1.os,h.tape.trans h1.tape,h.output.trans h1.output,ahq h1.size h.size,λx d u=>h.dfr x d (h1.dfr x d u),
  λx d u=>h.lop x d (λe=>by simp_all) (h1.lop x d u)⟩
theorem St.putObj{w:aiA}{b:Nat}{o:Obj}{L:List aE}(h:St w (blk b o::L))(o':Obj)(ho:NG o'=true:=by rfl):St (w.putObj b o') (blk b o'::L):=h.setObj o' ho
theorem St.alloc{w:aiA}{L:List aE}(h:St w L)(o:Obj)(ho:NG o=true:=by rfl):St (w.alloc o) (blk w.heap.size o::L):=h.push o ho
theorem St.adi{w:aiA}{L:List aE}(h:St w L)(d:Option (List Deferred)):St (w.alloc (.deferred d)) L:=h.eq (Wg w d)
theorem SH{c:Cs}{q p:Value->Prop}(h:c.ex q)(ha:c.all p):∃v,q v/\p v:=by
 cases c<;>simp only[Cs.ex,Cs.all] at h ha
 case slice=>obtain⟨a,l,c,h⟩:=h;exact⟨_,h,ha _ _ _⟩
 case fn=>obtain⟨a,l,h⟩:=h;exact⟨_,h,ha _ _⟩
 case ifc=>obtain⟨a,l,h⟩:=h;exact⟨_,h,ha _ _⟩
 all_goals (obtain⟨a,h⟩:=h;exact⟨_,h,ha _⟩)
theorem aak{l:List Cs}:∀{q p:List Value->Prop},exC l q->Z_ l p->∃vs,q vs/\p vs:=by
 induction l with
 |nil=>exactλh k=>⟨[],h,k⟩
 |cons c l ih=>intro q p h k;obtain⟨v,h,k⟩:=SH h k;grind
theorem WH{c:S1}{q p:Value->Prop}(h:c.ex q)(ha:c.all p):∃v,q v/\p v:=by
 cases c with
 |one c=>exact SH h ha
 |agg l=>obtain⟨vs,h,k⟩:=aak h ha;grind
theorem aal{l:List S1}:∀{q p:List Value->Prop},exS l q->NO l p->∃vs,vs.length=l.length/\q vs/\p vs:=by
 induction l with
 |nil=>exactλh k=>⟨[],rfl,h,k⟩
 |cons c l ih=>intro q p h k;obtain⟨v,h,k⟩:=WH h k;grind
theorem Ob{p:Nat->Prop}:∀{l:List Nat},ade l p->∀j,wF j l=true->p j
 |[],_,j,h=>by simp[wF] at h
 |[a],h,j,hj=>by
  simp only[wF,Bool.or_false] at hj
  rw[aim hj];exact h
 |a::b::l,h,j,hj=>by
  obtain⟨h1,h2⟩:=h
  by_cases e:Nat.beq j a=true
  ·rw[aim e];exact h1
  ·refine Ob h2 j ?_
   simp_all[wF]
theorem SI:∀lv,(By lv).length=lv.length
 |[]=>rfl
 |_::l=>by simp[By,SI l]
theorem KD:∀{ps:List Nat}{lv:List (Nat×S1)},wG ps lv=true->ps.length=lv.length
 |[],[],_=>rfl
 |[],_::_,h=>by grind[wG]
 |_::_,[],h=>by grind[wG]
 |a::l,(b,c)::m,h=>by simp only[wG,ag1] at h;simp[KD h.2]
theorem KE{N:Nat}{d:List Deferred}:∀(ps:List Nat)(lv:List (Nat×S1))(vs:List Value)(fr:Fr),wG ps lv=true->vs.length=lv.length->
  (ps.zip vs).foldl (λ(t:Array Value)(x:Nat×Value)=>t.setIfInBounds x.1 x.2) (bf N fr d).tmps=(bf N (qg N fr lv vs) d).tmps
 |[],[],vs,fr,_,hl=>by rfl
 |[],_::_,_,_,h,_=>by grind[wG]
 |_::_,[],_,_,h,_=>by grind[wG]
 |a::l,(b,c)::m,[],fr,h,hl=>by rfl
 |a::l,(b,c)::m,v::vs,fr,h,hl=>by
  simp only[wG,ag1] at h
  have hab:=aim h.1
  subst hab
  simp only[List.zip_cons_cons,List.foldl_cons,qg]
  have:=Gn N fr d (some a) v
  rw[<-KE l m vs _ h.2 (by simp_all),<-this]
  rfl
section
variable{P:Program}{Ty:TypeId->Option dD}{Fn:FuncId->Bool}{E:aiA->aiA->Prop}{N:Nat}{k:Nat}{rf:Bool}
theorem UH(hrf:rf=true)(hT:ec P Ty)(hF:sI P Fn)(hE:Jt E)(hEE:∀a b,E a b->Ev a b)(A:aW){f:Operand}{ps:Array Tmp}{a b:Code}{fr:Fr}{w:aiA}{n r:Fr->aiA->Prop}{x:Nat->Fr->aiA->Prop}{ds:List Deferred}
    (iha:∀(ro:Option Nat)(k:Nat)(fr:Fr)(w:aiA)(n r:Fr->aiA->Prop)(x:Nat->Fr->aiA->Prop),den P Ty Fn E N A a fr w n r x->Fits N fr->∀ds,a.wpIn (wf ro) k P (QN rf E N (sB a) fr w ds n r x) (bf N fr ds) w)
    (ihb:∀(ro:Option Nat)(k:Nat)(fr:Fr)(w:aiA)(n r:Fr->aiA->Prop)(x:Nat->Fr->aiA->Prop),den P Ty Fn E N A b fr w n r x->Fits N fr->∀ds,b.wpIn (wf ro) k P (QN rf E N (sB b) fr w ds n r x) (bf N fr ds) w)
    {g:FuncId} {first cap:Array Value} {lv:List (Nat×S1)} (hv:ev fr f=.func (.func g) first cap) (hg:Fn g=true) (hps:wG ps.toList lv=true)
    (h : afn P g first.toList cap.toList (By lv) (kQ b) w
          (λvs w K=>den P Ty Fn E N A a (qg N fr lv vs) w K (λ_ _=>False) (λ_ _ _=>False))
          (λfr1 w n' r' x'=>den P Ty Fn E N A b fr1 w (λ_ w=>n' w) (λ_ w=>r' w) (λj _ w=>x' j w)) (n fr) (r fr) (λj=>x j fr))
    (hf:Fits N fr):(Code.rangeFunc f ps a b).wpIn (wf none) k P (QN rf E N [] fr w ds n r x) (bf N fr ds) w:=by
  obtain⟨xs,D,Q,J,Jr,Jx0,L,h0,hQL,hI,hty,hrd0,hn,hr,hx0⟩:=h
  let Jx:Nat->aE:=λj=>aV [pu (wF j (kQ b)=true),Jx0 j]
  have jx:∀j w L,St w (Jx j::L)↔pj (wF j (kQ b)) (St w (Jx0 j::L)):=λj w L=>by
    rw[a_];exact St.flat.trans St.pu
  have hx:∀j w',St w' (Jx j::D::L)->x j fr w':=λj w' hs=>by
    obtain⟨h1,h2⟩:=a_.1 ((jx j w' _).1 hs)
    exact Ob hx0 j h1 w' h2
  have hrd:∀i,NO (By lv) λvs=>xs[i]? =some vs->∀L' w,NR L' L->St w (J i::L')->
      den P Ty Fn E N A a (qg N fr lv vs) w (λfr1 w1=>∃M:aE,St w1 (M::L')/\∀L' w,NR L' L->St w (M::L')->
        den P Ty Fn E N A b fr1 w (λ_ w'=>St w' (J (i+1)::L')) (λ_ w'=>St w' (Jr::L')) (λj _ w'=>St w' (Jx j::L'))) (λ_ _=>False) (λ_ _ _=>False):=λi=>by simp_all
  refine wpIn_rangeFunc λfn _=>?_
  let rec0:Loop:={ state:=.ready,pending:=none,fn,tmps:=(bf N fr ds).tmps,params:=ps,assign:=a,body:=b,defers:=w.heap.size }
  let w1:aiA:=(w.alloc (.deferred (some []))).alloc (.loop rec0)
  have hl:w.heap.size+1=(w.alloc (.deferred (some []))).heap.size:=σ
  have ew1:Ev w w1:=(Ev.push w _).trans (Ev.push _ _)
  have he:(f:Operand)=f:=rfl
  have e2:first++(#[.func (.yield (w.heap.size+1)) #[] #[]]:Array Value)++cap=⟨Fz first.toList [.func (.yield (w.heap.size+1)) #[] #[]] cap.toList⟩:=by simp[LH]
  have hev:(bf N fr ds).eval f=.func (.func g) first cap:=by simp_all[Qy]
  refine⟨w.heap.size+1,[V3 w.heap.size],w1,⟨.fn (.func g) cap,first++ #[.func (.yield (w.heap.size+1)) #[] #[]]⟩,w1,g,⟨Fz first.toList [.func (.yield (w.heap.size+1)) #[] #[]] cap.toList⟩,w1,
    run_enterLoop_outer fn _ ps a b,?_,λ_ _=>trivial,?_,λh=>(by cases h),?_⟩
  · simp only[resolve,List.map_toArray,ahw,List.map_nil,hev,Deferred.ofValue,Sem.run_pure]
    rfl
  · grind[invoke,um]
  · have hcall:iA P (Hk (w.heap.size+1)) g (Fz first.toList [.func (.yield (w.heap.size+1)) #[] #[]] cap.toList) w1 _:=
      hI (w.heap.size+1) (Hk (w.heap.size+1)) (afo _) (λi=>aV [J i,blk (w.heap.size+1) (.loop rec0)])
        (ex λc:Option Nat=>match c with
          |none=>aV [Jr,blk (w.heap.size+1) (.loop { rec0 with state:=.done,pending:=some .ret })]
          |some j=>aV [Jx j,blk (w.heap.size+1) (.loop { rec0 with state:=.done,pending:=some (.exit j) })])
        L w1 ?_ hQL ?_
    · refine callsIn_wide.2 ?_
      refine Calls.mono hcall ?_
      rintro e w3⟨v,rfl,hX,hQ⟩
      have fin:∀(st:LoopState)(pd:Option Code)(M:aE),st≠.busy->St w3 (M::blk (w.heap.size+1) (.loop { rec0 with state:=st,pending:=pd })::D::L)->
          ∃w4,(Instr.endLoop (w.heap.size+1)).run P w3=.ok pd w4/\St w4 (M::D::L)/\E w w4/\Mk rf w w4 [V3 w.heap.size]:=by
        intro st pd M hst hs
        have hs':=hs.swap
        have hg:=hs'.get
        refine⟨_,run_endLoop hg hst,(hs'.putObj _).tail,?_,?_⟩
        · exact hE.ofEv _ _ (ew1.back (hX.trans (Hk.putObj hg)) ω)
        · refine⟨λh=>(by simp_all),[w.heap.size],rfl,σ,λd hd=>?_⟩
          simp only[ag_] at hd
          subst hd
          refine⟨agT _,?_⟩
          refine(hX.trans (Hk.putObj hg)).dfr _ _ ?_
          show((w.heap.push _).push _)[w.heap.size]? =_
          grind
      have qn:∀w4,E w w4->Mk rf w w4 [V3 w.heap.size]->∀{p:Prop},p->∃fr' ds',{ (bf N fr ds) with defers:=[V3 w.heap.size]++(bf N fr ds).defers }=bf N fr' (ds'++ds)/\Fits N fr'/\qG [] fr fr'/\E w w4/\Mk rf w w4 ds'/\(fr'=fr/\p):=
        λw4 h1 h2 _ hp=>⟨fr,[V3 w.heap.size],rfl,hf,qG.refl _ _,h1,h2,rfl,hp⟩
      rcases hQ with hQ|hQ
      · have hQ:=St.flat.1 hQ
        obtain⟨w4,h1,h2,h3,h4⟩:=fin .ready none _ σ hQ
        refine⟨none,w4,h1,?_⟩
        obtain⟨fr',ds',g1,g2,g3,g4,g5,rfl,g6⟩:=qn w4 h3 h4 (hn w4 h2)
        exact⟨_,ds',g1,g2,g3,g4,g5,g6⟩
      · obtain⟨c,hQ⟩:=St.ex.1 hQ
        cases c with
        |none=>
          have hQ:=St.flat.1 hQ
          obtain⟨w4,h1,h2,h3,h4⟩:=fin .done (some .ret) _ σ hQ
          refine⟨some .ret,w4,h1,wpIn_ret ?_⟩
          obtain⟨fr',ds',g1,g2,g3,g4,g5,rfl,g6⟩:=qn w4 h3 h4 (hr w4 h2)
          exact⟨_,ds',g1,g2,g3,g4,g5,g6⟩
        |some j=>
          have hQ:=St.flat.1 hQ
          obtain⟨w4,h1,h2,h3,h4⟩:=fin .done (some (.exit j)) _ σ hQ
          refine⟨some (.exit j),w4,h1,wpIn_exit ?_⟩
          obtain⟨fr',ds',g1,g2,g3,g4,g5,rfl,g6⟩:=qn w4 h3 h4 (hx j w4 h2)
          exact⟨_,ds',g1,g2,g3,g4,g5,g6⟩
    · have h1:=(h0.adi (some [])).alloc (.loop rec0)
      rw[<-hl] at h1
      refine St.flat.2 ?_
      exact h1.swap
    · intro i us hi L' w' hsup hs
      have hs1:=St.flat.1 hs
      have hg:=hs1.swap.get
      obtain⟨vs,hvl,hve,hvs⟩:=aal (hty us (agL hi)) (hrd i)
      subst hve
      have hlen:us.length=lv.length:=by grind[SI]
      have hpl:=KD hps
      have hden:=hvs hi (blk (w.heap.size+1) (.loop rec0)::L') w' (λh hh=>hsup h (aj hh)) hs1
      refine⟨fn,(bf N (qg N fr lv us) []).tmps,a,b,?_,?_⟩
      · have hy:=run_yield (P:=P) (args:=⟨us⟩) hg (by grind)
        rw[hy]
        have hz:(ps.zip (⟨us⟩:Array Value)).foldl (λ(t:Array Value)(x:Nat×Value)=>t.setIfInBounds x.1 x.2) (bf N fr ds).tmps=(bf N (qg N fr lv us) []).tmps:=by
          rw[show(bf N (qg N fr lv us) []).tmps=(bf N (qg N fr lv us) ds).tmps from rfl,<-KE ps.toList lv us fr hps hlen,<-Array.foldl_toList]
          simp
        grind
      · refine roundIn_of_wpIn trivial ?_
        have hfit:Fits N (qg N fr lv us):=oZ lv _ hf
        refine wpIn_mono (iha (some (w.heap.size+1)) 0 _ w' _ _ _ hden hfit []) λe a1 w1' hq=>?_
        cases e with
        |normal=>
          obtain⟨fr1,ds1,rfl,q2,q3,q4,q5,M,q6,q7⟩:=hq
          have hs2:=q6.swap
          have hg2:=hs2.get
          refine⟨_,run_beginRound hg2 rfl,?_⟩
          have hs3:=(hs2.putObj (.loop { rec0 with state:=.busy })).swap
          have hx3:Hk (w.heap.size+1) w' (w1'.putObj (w.heap.size+1) (.loop { rec0 with state:=.busy })):=(Hk.of (hEE _ _ q4)).trans (Hk.putObj hg2)
          refine wpIn_mono (ihb (some (w.heap.size+1)) 0 _ _ _ _ _ (q7 _ _ (λh hh=>hsup h (aj hh)) hs3) q2 _) λe a2 w2 hq=>?_
          cases e with
          |normal=>
            obtain⟨fr2,ds2,rfl,p2,p3,p4,p5,p6⟩:=hq
            have hs4:=p6.swap
            have hg4:=hs4.get
            refine⟨_,_,run_endRound none hg4,_,rfl,(hx3.trans (Hk.of (hEE _ _ p4))).trans (Hk.putObj hg4),.inl ⟨rfl,St.flat.2 (hs4.putObj _).swap⟩⟩
          |ret=>
            obtain⟨fr2,ds2,rfl,p2,p3,p4,p5,p6⟩:=hq
            have hs4:=p6.swap
            have hg4:=hs4.get
            refine⟨_,_,run_endRound (some .ret) hg4,_,rfl,(hx3.trans (Hk.of (hEE _ _ p4))).trans (Hk.putObj hg4),.inr ⟨rfl,St.ex.2 ⟨none,St.flat.2 (hs4.putObj _).swap⟩⟩⟩
          |exit j=>
            obtain⟨fr2,ds2,rfl,p2,p3,p4,p5,p6⟩:=hq
            have hs4:=p6.swap
            have hg4:=hs4.get
            refine⟨_,_,run_endRound (some (.exit j)) hg4,_,rfl,(hx3.trans (Hk.of (hEE _ _ p4))).trans (Hk.putObj hg4),.inr ⟨rfl,St.ex.2 ⟨some j,St.flat.2 (hs4.putObj _).swap⟩⟩⟩
          |goto l=>exact hq.elim
          |panic ch=>exact hq.elim
          |outgrown=>exact hq.elim
        |ret=>obtain⟨_,_,_,_,_,_,_,hh⟩:=hq;grind
        |exit j=>obtain⟨_,_,_,_,_,_,_,hh⟩:=hq;grind
        |goto l=>exact hq.elim
        |panic ch=>exact hq.elim
        |outgrown=>exact hq.elim
end
section
variable{P:Program}{Ty:TypeId->Option dD}{Fn:FuncId->Bool}{E:aiA->aiA->Prop}{N:Nat}{rf:Bool}
theorem WJ{v:Value}{a b:Prop}(h:brV v a b):∃t,v=.bool t/\(if t then a else b):=by
 unfold brV at h
 split at h
 ·rename_i c;refine⟨c,rfl,?_⟩;cases c<;>exact h
 simp_all
theorem kE{b:Frame}{a:Act}{k:List Item}{cs:List Frame}{w:aiA}{c:Code}:step P (lone (b.atR a (.code (.scope c)::k)) cs w)=.next (lone (b.atR a (.code c:: .inScope c::k)) cs w):=
 step_lone_go (by rfl)
theorem JD{b:Frame}{a:Act}{k:List Item}{cs:List Frame}{w:aiA}{c:Code}:step P (lone (b.atR a (.inScope c::k)) cs w)=.next (lone (b.atR a k) cs w):=
 step_lone_go (by rfl)
theorem QQ{F:Fence}{n:Nat}{a:Act}{w:aiA}{Q:Exit->Act->aiA->Prop}{c:Code}(hQ:∀l a w,¬Q (.goto l) a w)(h:c.wpIn F n P Q a w):(Code.scope c).wpIn F n P Q a w:=by
 intro b k cs W hb V;have h0:(lone (b.atR a (.code (.scope c)::k)) cs w).fenced P F:=fenced_calm hb V rfl;obtain⟨e,O,U,J,u⟩:=h b (.inScope c::k) cs W hb V;cases e with
 |normal=>exact⟨.normal,O,U,J,.head h0 kE (StepsIn.trans u (.one (fenced_calm hb V rfl) JD))⟩
 |exit id=>
  have hx:exitTo id (.inScope c::k)=exitTo id k:=by rfl
  exact⟨.exit id,O,U,J,λk' Y=>.head h0 kE (u.1 k' (by simp_all)),
   λX Y=>let⟨Z,h1,h2⟩:=u.2 X (by simp_all);⟨Z,h1,.head h0 kE h2⟩⟩
 |goto l=>simp_all
 |ret=>exact⟨_,O,U,J,.of_steps (.one h0 kE) u⟩
 |panic ch=>exact⟨_,O,U,J,.of_steps (.one h0 kE) u⟩
 |outgrown=>exact⟨_,O,U,J,.of_steps (.one h0 kE) u⟩
theorem KF{ws:List Nat}{fr fr2:Fr}{lv:List (Nat×S1)}{J:G2 (By lv) (aiA->Prop)}{w:aiA}{b:Fr->aiA->Prop}
  (hJ:Kp (By lv) J (wE fr2 lv) (λ_=>False) w) (hb:∀(d:Nat->Value),NO (By lv) λvs=>∀w,Kp (By lv) J vs (λ_=>False) w->b (qg N (vj N d ws fr) lv vs) w):
  b (qg N (vj N (fl fr2) ws fr) lv (wE fr2 lv)) w:=
 DB (λ_=>False) (λf=>f w) (λh=>h) hJ _ (hb (fl fr2)) w hJ
theorem afp{i j:Nat}{p q:Prop}(h:bif Nat.beq i j then p else q):if i=j then p else q:=by simp_all
def aam(a:Act):List (Nat×S1)->List Value
 |[]=>[]
 |(s,_)::l=>a.tmps.getD s undef::aam a l
theorem SJ{fr:Fr}{ds:List Deferred}(hf:Fits N fr):∀lv,aam (bf N fr ds) lv=wE fr lv
 |[]=>rfl
 |(s,c)::l=>by
  have h1:=yr N fr ds hf s
  show(bf N fr ds).tmps.getD s undef::aam (bf N fr ds) l=fl fr s::wE fr l
  rw[h1,SJ hf l]
theorem yy(hT:ec P Ty)(hF:sI P Fn)(hE:Jt E)(hm:P.follows .mixedOrders=true)(A:aW):∀(c:Code)(ro:Option Nat)(_:dT c=true->ro=none/\rf=true/\∀a b,E a b->Ev a b)(k:Nat)(fr:Fr)(w:aiA)(n r:Fr->aiA->Prop)(x:Nat->Fr->aiA->Prop),
  den P Ty Fn E N A c fr w n r x->Fits N fr->∀ds,c.wpIn (wf ro) k P (QN rf E N (sB c) fr w ds n r x) (bf N fr ds) w:=by
 have Y:∀w,E w w:=λw=>hE.ofEv _ _ (Ev.refl w);intro c
 induction c with
 |skip=>exactλro U k fr w n r x h hf ds=>wpIn_skip ⟨fr,[],rfl,hf,qG.refl _ _,Y w,Mk.nil _ _,h⟩
 |region id ops draw=>
  intro ro U k fr w n r x h hf ds;exact UG hT hF hE hm h hf λu w' h1 h2 h3 Z=>⟨u,[],rfl,h1,h2,h3,Mk.nil _ _,Z⟩
 |seq a b iha ihb=>
  intro ro U k fr w n r x h hf ds;have a0:=λ(h:dT a=true)=>U (by grind[dT]);have a5:=λ(h:dT b=true)=>U (by grind[dT]);have sa:∀t∈sB a,t∈sB (.seq a b):=λt ht=>by simp_all[SE]
  have sb:∀t∈sB b,t∈sB (.seq a b):=λt ht=>by simp_all[SE]
  refine wpIn_seq ?_
  have key:∀n',den P Ty Fn E N A a fr w n' r x->(∀u w',Fits N u->qG (sB a) fr u->E w w'->n' u w'->∃O,(∀d,bf N O d=bf N u d)/\Fits N O/\qG (sB a) fr O/\den P Ty Fn E N A b O w' n r x)->
    a.wpIn (wf ro) k P (Exit.then (b.wpIn (wf ro) k P (QN rf E N (sB (.seq a b)) fr w ds n r x)) (QN rf E N (sB (.seq a b)) fr w ds n r x)) (bf N fr ds) w:=by
   intro n' hd hn;refine wpIn_mono (iha ro a0 k fr w n' r x hd hf ds) λe a' w' W=>?_;cases e with
   |normal=>
    obtain⟨u,V,rfl,h2,h3,Z,h5,h6⟩:=W;obtain⟨O,g1,g2,g3,g4⟩:=hn u w' h2 h3 Z h6
    show b.wpIn (wf ro) k P _ _ w'
    rw[<-g1];exact wpIn_mono (ihb ro a5 k O w' n r x g4 g2 (V++ds)) λe a w W=>QN.later hE sb (g3.mono sa) Z h5 W
   |ret=>exact QN.mono sa (λ_ _ _ _ h=>h) (λ_ _ h=>h) (λ_ _ _ h=>h) (n:=n') (n':=n') W
   |exit i=>exact QN.mono sa (λ_ _ _ _ h=>h) (λ_ _ h=>h) (λ_ _ _ h=>h) (n:=n') (n':=n') W
   |goto l=>exact W.elim
   |panic ch=>exact W.elim
   |outgrown=>exact W.elim
  simp only[den] at h
  split at h
  ·rename_i lv _;obtain⟨J,h1,h2⟩:=h;refine key _ h1 λu w' g1 g2 g3 g4=>⟨_,λd=>Hi lv d g2,oZ lv _ (pk _ hf),DD lv hf g2,KF (b:=λfr w=>den P Ty Fn E N A b fr w n r x) g4 h2⟩
  grind
 |cond c a b iha ihb=>
  intro ro U k fr w n r x h hf ds;have a0:=λ(h:dT a=true)=>U (by grind[dT]);have a5:=λ(h:dT b=true)=>U (by grind[dT]);obtain⟨t,ht,h⟩:=WJ h;have he:(bf N fr ds).eval c=.bool t:=by simp_all[Qy]
  refine wpIn_cond he ?_;cases t with
  |true=>exact wpIn_mono (iha ro a0 k fr w n r x h hf ds) λe a w W=>QN.mono (λt ht=>by simp_all[N_]) (λ_ _ _ _ h=>h) (λ_ _ h=>h) (λ_ _ _ h=>h) W
  |false=>exact wpIn_mono (ihb ro a5 k fr w n r x h hf ds) λe a w W=>QN.mono (λt ht=>by simp_all[N_]) (λ_ _ _ _ h=>h) (λ_ _ h=>h) (λ_ _ _ h=>h) W
 |block id a iha=>
  intro ro U k fr w n r x h hf ds;have a0:=λ(h:dT a=true)=>U (by simp_all[dT]);refine wpIn_block ?_
  have key:∀n',den P Ty Fn E N A a fr w n' r (λj fr w=>bif Nat.beq j id then n' fr w else x j fr w)->(∀u w',Fits N u->qG (sB a) fr u->n' u w'->∃O,(∀d,bf N O d=bf N u d)/\Fits N O/\qG (sB a) fr O/\n O w')->
    a.wpIn (wf ro) k P (Exit.inBlock id (QN rf E N (sB (.block id a)) fr w ds n r x)) (bf N fr ds) w:=by
   intro n' hd hn
   have b2:∀u V w',Fits N u->qG (sB a) fr u->E w w'->Mk rf w w' V->n' u w'->QN rf E N (sB (.block id a)) fr w ds n r x .normal (bf N u (V++ds)) w':=λu V w' h2 h3 Z h5 h6=>by
    obtain⟨O,g1,g2,g3,g4⟩:=hn u w' h2 h3 h6;exact⟨O,V,(g1 _).symm,g2,g3,Z,h5,g4⟩
   refine wpIn_mono (iha ro a0 k fr w n' r _ hd hf ds) λe a' w' W=>?_;cases e with
   |normal=>obtain⟨u,V,rfl,h2,h3,Z,h5,h6⟩:=W;exact b2 u V w' h2 h3 Z h5 h6
   |exit i=>
    obtain⟨u,V,rfl,h2,h3,Z,h5,h6⟩:=W;have h6:=afp h6;simp only[Exit.inBlock]
    split
    ·simp_all
    ·rename_i hi;rw[agW hi] at h6;exact⟨u,V,rfl,h2,h3,Z,h5,h6⟩
   |ret=>exact W
   |goto l=>exact W.elim
   |panic ch=>exact W.elim
   |outgrown=>exact W.elim
  simp only[den] at h
  split at h
  ·rename_i lv _;obtain⟨J,h1,h2⟩:=h;refine key _ h1 λu w' g1 g2 g4=>⟨_,λd=>Hi lv d g2,oZ lv _ (pk _ hf),DD lv hf g2,KF g4 h2⟩
  grind
 |loop a iha=>
  intro ro U k fr w n r x h hf ds;have a0:=λ(h:dT a=true)=>U (by simp_all[dT]);simp only[den] at h
  split at h
  ·rename_i lv _;obtain⟨I,m,h0,hr⟩:=h
   refine wpIn_loop (λa' w'=>∃X V,a'=bf N X (V++ds)/\Fits N X/\qG (sB a) fr X/\E w w'/\Mk rf w w' V/\Kp (By lv) I (wE X lv) (λ_=>False) w')
    (λa' w'=>Kp (By lv) m (aam a' lv) (λ_=>0) w') ⟨fr,[],rfl,hf,qG.refl _ _,Y w,Mk.nil _ _,h0⟩ ?_
   rintro _ w'⟨X,V,rfl,h2,h3,Z,h5,h6⟩;have a7:Fits N (qg N (vj N (fl X) (sB a) fr) lv (wE X lv)):=oZ lv _ (pk _ hf);have a4:=DD (N:=N) lv hf h3
   have hb:=DB (λ_=>False) (λf=>f w') (λh=>h) h6 (λvs=>∀w,Kp (By lv) I vs (λ_=>False) w->den P Ty Fn E N A a (qg N (vj N (fl X) (sB a) fr) lv vs) w
    (λu w'=>Kp (By lv) I (wE u lv) (λ_=>False) w'/\Kp (By lv) m (wE u lv) (λ_=>0) w'<Kp (By lv) m vs (λ_=>0) w) r x) (hr (fl X)) w' h6
   have hw:=iha ro a0 k _ w' _ r x hb a7 (V++ds);rw[Hi lv (V++ds) h3] at hw;refine wpIn_mono hw λe a' a8 W=>?_;cases e with
   |normal=>
    obtain⟨b1,ad,rfl,g2,g3,g4,g5,g6,g7⟩:=W;refine⟨⟨b1,ad++V,σ,g2,a4.trans g3,hE.trans Z g4,Mk.trans hE Z g4 h5 g5,g6⟩,?_⟩
    simp_all[SJ]
   |ret=>
    have a6:QN rf E N (sB a) _ w' (V++ds) n r x (.ret) a' a8:=W;exact QN.later hE (λ_ h=>h) a4 Z h5 a6
   |exit i=>
    have a6:QN rf E N (sB a) _ w' (V++ds) n r x (.exit i) a' a8:=W;exact QN.later hE (λ_ h=>h) a4 Z h5 a6
   |goto l=>exact W.elim
   |panic ch=>exact W.elim
   |outgrown=>exact W.elim
  simp_all
 |exit i=>exactλro U k fr w n r x h hf ds=>wpIn_exit ⟨fr,[],rfl,hf,qG.refl _ _,Y w,Mk.nil _ _,h⟩
 |ret=>exactλro U k fr w n r x h hf ds=>wpIn_ret ⟨fr,[],rfl,hf,qG.refl _ _,Y w,Mk.nil _ _,h⟩
 |label l=>exactλro U k fr w n r x h hf ds=>wpIn_label ⟨fr,[],rfl,hf,qG.refl _ _,Y w,Mk.nil _ _,h⟩
 |rangeFunc f ps a b iha ihb=>
  intro ro U k fr w n r x h hf ds;obtain⟨rfl,a9,aa⟩:=U rfl;simp only[den] at h;obtain⟨al,h⟩:=a_.1 h;simp only[ag1,aid] at al
  split at h
  ·rename_i g first cap lv hv hlv
   obtain⟨am,h⟩:=a_.1 h;obtain⟨av,h⟩:=a_.1 h;exact UH a9 hT hF hE aa A (λro k=>iha ro (λe=>by simp_all) k) (λro k=>ihb ro (λe=>by simp_all) k) hv av am h hf
  simp_all
 |scope a iha=>
  intro ro U k fr w n r x h hf ds;exact QQ (λl a w W=>W.elim) (iha ro (λh=>U (by simp_all[dT])) k fr w n r x h hf ds)
 |goto l=>exactλro U k fr w n r x h hf ds=>h.elim
 |refuse y=>exactλro U k fr w n r x h hf ds=>h.elim
end
section
variable{P:Program}{Ty:TypeId->Option dD}{Fn:FuncId->Bool}{E:aiA->aiA->Prop}{N:Nat}
theorem WK{w w':aiA}(h:hp w'=hp w){a:Addr}{i:dD}{v:Value}(hl:qF w a i v):qF w' a i v:=by grind[qF,NK,cG]
def afq(tmps:Array Value):ResultVar->Sem Value
 |.tmp t=>pure (tmps.getD t undef)
 |.cell a t=>do loadVar t (<-asAddr (tmps.getD a undef))
theorem go_sound(hT:ec P Ty){fr:Fr}{ds:List Deferred}{w:aiA}(hf:Fits N fr):∀(l:List ResultVar)(k:List Value->Prop),Jw.go Ty fr w l k->
  ∃vs,(∀w',hp w'=hp w->(l.mapM (afq (bf N fr ds).tmps)).run P w'=.ok vs w')/\k vs
 |[],k,h=>⟨[],λw' _=>rfl,h⟩
 |.tmp t::l,k,h=>by
  obtain⟨vs,h1,h2⟩:=go_sound hT hf l _ h
  refine⟨_,λw' hw=>?_,h2⟩
  rw[List.mapM_cons,Sem.run_bind]
  show(Sem.run P (pure ((bf N fr ds).tmps.getD t undef)) w').andThen _=_
  simp only[Sem.run_pure,Result.andThen_ok,Sem.run_bind]
  rw[h1 w' hw,yr N fr ds hf]
  simp
 |.cell a t::l,k,h=>by
  unfold Jw.go at h
  split at h
  ·rename_i p i ha hi
   obtain⟨ad,hp',h5⟩:=BI h
   subst hp'
   obtain⟨v,hl,h6⟩:=NU h5
   obtain⟨vs,h1,h2⟩:=go_sound hT hf l _ h6
   refine⟨_,λw' hw=>?_,h2⟩
   rw[List.mapM_cons,Sem.run_bind]
   show(Sem.run P (do loadVar t (<-asAddr ((bf N fr ds).tmps.getD a undef))) w').andThen _=_
   simp only[Sem.run_bind,yr N fr ds hf,ha,asAddr,Sem.run_pure,Result.andThen_ok]
   rw[Kt hT hi (WK hw hl)]
   simp only[Result.andThen_ok]
   rw[h1 w' hw]
   simp
  simp_all
theorem DE(hT:ec P Ty){fn:Func}{fr:Fr}{ds:List Deferred}{w:aiA}(hf:Fits N fr){R:Value->Prop}(h:Jw P Ty fn.results.toList fr w R):
  ∃v,(∀w',hp w'=hp w->(results fn (bf N fr ds).tmps).run P w'=.ok v w')/\R v:=by
 obtain⟨vs,U,u⟩:=go_sound (ds:=ds) hT hf _ _ h
 refine⟨if h:vs.length=1 then vs[0] else .tuple ⟨vs⟩,λw' O=>?_,?_⟩
 ·have J:results fn (bf N fr ds).tmps=(do let vs<-fn.results.mapM (afq (bf N fr ds).tmps);pure (if h:vs.size=1 then vs[0] else .tuple vs)):=by rfl
  rw[J,Array.mapM_eq_mapM_toList,map_eq_pure_bind]
  simp_all
 ·split at u
  ·simpa using u
  ·rename_i hne
   split
   ·rename_i hl;cases vs with
    |nil=>simp at hl
    |cons v l=>cases l with
     |nil=>exact absurd rfl (hne v)
     |cons _ _=>simp at hl
   ·exact u
theorem Fa{F:Fence}{n:Nat}{fn:Func}{tmps:Array Value}{R:Ending->aiA->Prop}{w0:aiA}(hE:Jt E):∀(Ds:List Nat)(w:aiA),Ds.Nodup->(∀D∈Ds,w0.heap.size<=D/\w.heap[D]? =some (Obj.deferred (some [])))->Ev w0 w->
  (∀w',hp w'=hp w->Ev w0 w'->∃v,(results fn tmps).run P w'=.ok v w'/\R (.returned v) w')->LeavesInM F n P fn tmps R (Ds.map V3) .returning w
 |[],w,_,_,he,h=>h w rfl he
 |D::Ds,w,hn,hD,he,h=>by
  obtain⟨h1,h2⟩:=hD D σ
  rw[ahE] at hn
  refine⟨σ,.inl ⟨D,_,rfl,run_takeDeferred h2,?_⟩⟩
  have hhp:hp (w.putObj D (.deferred none))=hp w:=aaa h2
  have he':Ev w0 (w.putObj D (.deferred none)):=by
   refine⟨he.os,he.tape,he.output,by simpa using he.size,λb d hb=>?_,λb d hb=>?_⟩
   ·rw[World.putObj_heap_other];exact he.dfr _ _ hb
    grind
   ·rw[World.putObj_heap_other];exact he.lop _ _ hb
    grind
  refine Fa hE Ds _ hn.2 (λD' h'=>?_) he' λw' g1 g2=>h w' (g1.trans hhp) g2
  grind[World.putObj_heap_other]
theorem wL:∀(l:List Value)(i t:Nat),fl (FA i l) t=if i<=t then(l[t-i]?).getD undef else undef
 |[],i,t=>by simp[FA,fl]
 |v::l,i,t=>by
  simp only[FA]
  rw[Dp,wL l (i+1) t]
  grind
theorem WL(hT:ec P Ty)(hF:sI P Fn)(hm:P.follows .mixedOrders=true){f:FuncId}{fn:Func}(hfn:P.funcs[f]? =some fn)(A:aW)(hE:Jt E)
  (hro:(match fn.body with|some c=>dT c|none=>false)=true->∀a b,E a b->Ev a b) {args:List Value} {w:aiA} {R:Value->aiA->Prop}
  (h:Z6 P Ty Fn E A fn args w R):iA P E f args w R:=by
 unfold Z6 at h;cases hb:fn.body with
 |none=>rw[hb] at h;exact h.elim
 |some c=>
  rw[hb] at h hro;dsimp only at h hro;obtain⟨W,h⟩:=fo h;have W:=LD _ _ W;refine callsIn_wide.1 (callsIn_of_wp_marks (F:=Fence.wide) (n:=0) hfn hb trivial ?_)
  have ha:({ tmps:=(⟨args⟩:Array Value)++Array.replicate (fn.ntmps-(⟨args⟩:Array Value).size) undef,defers:=[] }:Act)=bf fn.ntmps (FA 0 args) []:=by
   simp only[bf,Act.mk.injEq,and_true];apply ah3;apply ahp
   grind[Array.toList_append,Array.toList_replicate,List.getElem?_append_left,List.getElem?_range,wL,List.getElem?_append_right,List.getElem?_eq_none,List.range]
  rw[ha]
  have V:Fits fn.ntmps (FA 0 args):=λt ht=>by
   rw[wL,ag0 (agP _),ahk ω];rfl
  have fin:∀J w',(∃fr u,J=bf fn.ntmps fr (u++[])/\Fits fn.ntmps fr/\qG (sB c) (FA 0 args) fr/\E w w'/\Mk (dT c) w w' u/\Jw P Ty fn.results.toList fr w' λv=>QF c R v w')->
    LeavesInM Fence.wide 0 P fn J.tmps (λe w'=>∃v,e=.returned v/\E w w'/\R v w') J.defers .returning w':=by
   rintro J w'⟨fr,u,rfl,h1,h2,Z,⟨h0,U,rfl,h4,h5⟩,h6⟩;obtain⟨v,g1,g2⟩:=DE (ds:=(U.map V3)++[]) hT h1 h6
   show LeavesInM Fence.wide 0 P fn (bf fn.ntmps fr (U.map V3++[])).tmps _ (U.map V3++[]) .returning w'
   cases hrf:dT c with
   |true=>
    have X:=hro hrf;simp only[QF,hrf,cond_true] at g2;generalize (bf fn.ntmps fr (U.map V3++[])).tmps=tm at g1;rw[ahe];exact Fa hE U w' h4 h5 (X _ _ Z) λw2 k1 k2=>⟨v,g1 w2 k1,v,rfl,hE.ofEv _ _ k2,g2 w2 k1⟩
   |false=>
    simp only[QF,hrf,cond_false] at g2;have hd:=h0 hrf;generalize (bf fn.ntmps fr (U.map V3++[])).tmps=tm at g1;rw[hd];exact⟨v,g1 w' rfl,v,rfl,Z,g2⟩
  refine wpIn_mono (yy hT hF hE hm A c none (λY=>⟨rfl,Y,hro Y⟩) 0 _ w _ _ _ h V []) λe J w' O=>?_;cases e with
  |normal=>exact fin J w' O
  |ret=>exact fin J w' O
  |exit i=>obtain⟨_,_,_,_,_,_,_,Y⟩:=O;simp_all
  |goto l=>exact O.elim
  |panic ch=>exact O.elim
  |outgrown=>exact O.elim
def QR(fn:Func):Bool:=match fn.body with|some c=>dT c|none=>false
theorem WM(hT:ec P Ty)(hF:sI P Fn)(hm:P.follows .mixedOrders=true){f:FuncId}{fn:Func}(hfn:P.funcs[f]? =some fn)(A:aW){args:List Value}{w:aiA}{R:Value->aiA->Prop}
  (h:Z6 P Ty Fn Ev A fn args w R):ay P f args w R:=WL hT hF hm hfn A ac2 (λ_ _ _ h=>h) h
theorem aan(hT:ec P Ty)(hF:sI P Fn)(hm:P.follows .mixedOrders=true){f:FuncId}{fn:Func}(hfn:P.funcs[f]? =some fn)(A:aW)(hE:Jt E)(hb:QR fn=false){args:List Value}{w:aiA}{R:Value->aiA->Prop}
  (h:Z6 P Ty Fn E A fn args w R):iA P E f args w R:=WL hT hF hm hfn A hE (λh=>absurd (hb.symm.trans h) σ) h
end
abbrev WP:=aiA->Prop
abbrev lP(l:List (Nat×S1)):=G2 (By l) (aiA->Prop)
abbrev lN(l:List (Nat×S1)):=G2 (By l) (aiA->Nat)
abbrev aN:S1:=S1.one (Cs.int IntKind.i64)
abbrev kT:S1:=S1.one Cs.slice
abbrev yV:S1:=S1.one Cs.bool
abbrev iI(n:Int):Value:=.int .i64 n
abbrev vS(a:aiz)(l c:Nat):Value:=.slice a l c
abbrev zS:=vS none 0 0
abbrev vP(a:aiz):Value:=.pointer a
abbrev vB(b:Bool):Value:=.bool b
abbrev vA(a:Array Value):Value:=.agg a
abbrev vG(l:List Value):Value:=.agg (Array.mk l)
abbrev vT(a:Array Value):Value:=.tuple a
abbrev aM(k:Nat):Addr:=⟨k,0,none⟩
abbrev oC(l:List Value)(t:TypeId):Obj:=.cells (Array.mk l) t
abbrev fW(t:TypeId)(xs:Array Value):Sem Value:=Builtin.append_ (Array.mk [t,t]) t xs
def az(b:Nat)(vs:List Value):aE:=λh=>∃e,h b=some (.cells ⟨vs⟩ e (0,0))
section
variable{P:Program}{w w':aiA}{L:List aE}{b:Nat}{vs:List Value}{e:TypeId}{A B C D:aE}
theorem jM:St w (az b vs::L)↔∃e,St w (blk b (.cells ⟨vs⟩ e (0,0))::L):=
 ⟨λ⟨J,u,d,s1,s2,⟨e,ha⟩,hl⟩=>⟨e,J,u,d,s1,s2,ha,hl⟩,λ⟨e,J,u,d,s1,s2,ha,hl⟩=>⟨J,u,d,s1,s2,⟨e,ha⟩,hl⟩⟩
theorem St.cell(h:St w (az b vs::L))(i:Nat):w.cell? ⟨b,i,none⟩=vs[i]?:=by
 obtain⟨e,h⟩:=jM.1 h;have:=h.get
 simp_all[World.cell?]
theorem St.frozen(h:St w (az b vs::L))(i:Nat)(s:Option _):w.frozen? ⟨b,i,s⟩=false:=by
 obtain⟨e,h⟩:=jM.1 h;have:=h.get
 simp_all[World.frozen?]
theorem St.adj(h:St w (az b vs::L))(i:Nat)(v:Value):St (w.setCell ⟨b,i,none⟩ v) (az b (vs.set i v)::L):=by
 obtain⟨e,h⟩:=jM.1 h;have:=St.setCell h i v
 grind[jM]
theorem nS{o:Obj}{k:Nat->aiA->Prop}(h:St w L)(hk:∀b w',St w' (blk b o::L)->k b w')(ho:NG o=true:=by rfl):new w o k:=
 λb w' hb u=>by subst hb;subst u;exact hk _ _ (h.push o ho)
theorem ag{k:Nat->aiA->Prop}(h:St w L)(hk:∀b w',St w' (az b vs::L)->k b w'):new w (.cells (Array.mk vs) e) k:=nS h λb w' h=>hk b w' (jM.2 ⟨_,h⟩)
theorem aR{i:Nat}{v:Value}{k:aiA->Prop}(h:St w (az b vs::L))(hi:i<vs.length)(hk:∀w',St w' (az b (vs.set i v)::L)->k w')(hv:aK v=true:=by rfl):st1 w ⟨b,i,none⟩ v k:=
 ⟨⟨vs[i],by rw[h.cell];simp⟩,h.frozen i none,hv,λw' u=>by subst u;exact hk _ (h.adj i v)⟩
theorem St.setCells:∀(news pre post:List Value){w:aiA},news.length<=post.length->St w (az b (pre++post)::L)->St (w.setCells b pre.length news) (az b (pre++news++post.drop news.length)::L)
 |[],pre,post,w,_,h=>by simp_all[World.setCells]
 |v::r,pre,[],w,hl,h=>by simp_all
 |v::r,pre,p::post,w,hl,h=>by
  have h1:=h.adj pre.length v
  have e1:(pre++p::post).set pre.length v=(pre++[v])++post:=σ
  rw[e1] at h1
  have h2:=St.setCells r (pre++[v]) post (by simpa using hl) h1
  have e2:(pre++[v]).length=pre.length+1:=σ
  rw[e2] at h2
  simpa[World.setCells] using h2
theorem add_lit(b o j:Nat):(⟨b,o,none⟩:Addr).add j=⟨b,o+j,none⟩:=by simp[Addr.add]
theorem ak(b j:Nat):(⟨b,0,none⟩:Addr).add j=⟨b,j,none⟩:=by simp[add_lit]
theorem add_add(a:Addr)(i j:Nat):(a.add i).add j=a.add (i+j):=by grind[Addr.add,Nat.add_assoc]
def own(sz:Nat)(a:aiz)(l c:Nat)(vs:List Value):aE:=λh=>
 (a=none/\l=0/\c=0/\vs=[])\/∃b pre cs post,a=some ⟨b,List.length pre,none⟩/\az b (pre++(vs++(cs++post))) h/\vs.length=l*sz/\(vs++cs).length=c*sz/\l<=c
theorem aI(sz:Nat)(h:St w L):St w (own sz none 0 0 []::L):=
 ⟨λ_=>none,hp w,λ_=>.inl rfl,λ_ _ h=>(nomatch h),sZZ,.inl ⟨rfl,rfl,rfl,rfl⟩,h⟩
theorem dE{sz l c:Nat}{a:aiz}(h:St w (own sz a l c vs::L)):
  (a=none/\l=0/\c=0/\vs=[])\/∃b pre cs post,a=some ⟨b,List.length pre,none⟩/\St w (az b (pre++(vs++(cs++post)))::L)/\vs.length=l*sz/\(vs++cs).length=c*sz/\l<=c:=by
 obtain⟨X,U,d,s1,s2,ha,hl⟩:=h
 rcases ha with ha|⟨b,pre,cs,post,u,J,V,W,O⟩
 ·simp_all
 ·exact .inr ⟨b,pre,cs,post,u,⟨X,U,d,s1,s2,J,hl⟩,V,W,O⟩
theorem fp{sz l c:Nat}{pre cs post:List Value}(h:St w (az b (pre++(vs++(cs++post)))::L))(h1:vs.length=l*sz)(h2:(vs++cs).length=c*sz)(h3:l<=c):St w (own sz (some ⟨b,pre.length,none⟩) l c vs::L):=
 h.head λh ha=>.inr ⟨b,pre,cs,post,rfl,ha,h1,h2,h3⟩
theorem bg{sz l c:Nat}{cs:List Value}(h:St w (az b (vs++cs)::L))(h1:vs.length=l*sz)(h2:(vs++cs).length=c*sz)(h3:l<=c):St w (own sz (some ⟨b,0,none⟩) l c vs::L):=
 fp (pre:=[]) (post:=[]) (by simp_all) h1 h2 h3
theorem fk{sz l c:Nat}{a:aiz}(h:St w (own sz a l c vs::L)):vs.length=l*sz:=by
 rcases dE h with⟨_,rfl,_,rfl⟩|⟨_,_,_,_,_,_,h,_⟩
 ·simp
 omega
theorem bD{sz l c:Nat}{a:aiz}(h:St w (own sz a l c vs::L)):l<=c:=by
 rcases dE h with⟨_,rfl,_,rfl⟩|⟨_,_,_,_,_,_,_,_,h⟩
 ·omega
 omega
theorem cO{sz l c:Nat}{a:aiz}(h:St w (own sz a l c vs::L)){j:Nat}{v:Value}(hj:vs[j]? =some v):∃ad,a=some ad/\w.cell? (ad.add j)=some v:=by
 rcases dE h with⟨_,_,_,rfl⟩|⟨b,J,cs,u,rfl,h,_⟩
 ·simp_all
 ·refine⟨_,rfl,?_⟩;rw[add_lit,h.cell,ahg ω,ahC,ag8 (agN.1 hj).1];omega
theorem aao{t tx ty:TypeId}{i:TypeInfo}{z:Value}(ht:P.underlying t=some (.slice e))(hi:P.info? e=some i)(hz:i.zero=some z)(hzs:z.cells.size=i.size)
  {a:aiz} {l c:Nat} (h:St w (own i.size a l c vs::L)) {x:Value} {n:Nat} {news:List Value} (hs:Src P i.size tx x n news w) (hb:(l+n)*i.bytes<=140737488355328) (h63:l+n<=9223372036854775807):
  aY P (Builtin.append_ (Array.mk [t,tx]) ty (Array.mk [vS a l c,x])) w λv w'=>∃a' c',v=vS a' (l+n) c'/\St w' (own i.size a' (l+n) c' (vs++news)::L):=by
 have a0:=hs.newsLen
 have U:c<l+n->(Builtin.firstCells i.size l (vS a l c)).run P w.drew=.ok vs.toArray w.drew->(vs.length=l*i.size)->St w L->
   aY P (Builtin.append_ (Array.mk [t,tx]) ty (Array.mk [vS a l c,x])) w λv w'=>∃a' c',v=vS a' (l+n) c'/\St w' (own i.size a' (l+n) c' (vs++news)::L):=by
  intro hg W Z hL;have hr:=run_append_grow_src (P:=P) w t tx ty e i z ht hi hz a l c vs W x n news hs hg ω (growslice_fits hg hb);refine⟨_,_,hr,(Ev.drew w _).trans (Ev.push _ _),_,_,rfl,?_⟩;have Y:=grownCap_ge w (l+n) c e;have V:St w.drew L:=hL.same rfl;have h2:=V.push (.cells ((vs++news).toArray++Builtin.zeroCells z.cells (grownCap w (l+n) c e-(l+n))) e)
  have h3:St (w.drew.alloc (.cells ((vs++news).toArray++Builtin.zeroCells z.cells (grownCap w (l+n) c e-(l+n))) e)) (az w.heap.size ((vs++news)++(Builtin.zeroCells z.cells (grownCap w (l+n) c e-(l+n))).toList)::L):=by
   have:((vs++news).toArray++Builtin.zeroCells z.cells (grownCap w (l+n) c e-(l+n)))=⟨(vs++news)++(Builtin.zeroCells z.cells (grownCap w (l+n) c e-(l+n))).toList⟩:=σ
   rw[this] at h2 ⊢;exact jM.2 ⟨_,h2⟩
  refine bg h3 ?_ ?_ Y
  ·grind
  ·rw[agV,agV,Z,a0,<-Nat.add_mul,aiy,size_zeroCells,hzs,<-Nat.add_mul]
   simp_all
 rcases dE h with⟨rfl,rfl,rfl,rfl⟩|⟨b,J,cs,u,rfl,hc,V,h2,h3⟩
 ·rcases ain n with rfl|hn
  ·have:news=[]:=ag2 ω;subst this;refine⟨.slice none 0 0,w,?_,Ev.refl w,none,0,rfl,h⟩;rcases hs.kind with⟨e',hk⟩|hk<;>simp[Builtin.append_,run_underlying ht,run_underlying hk,sizeOf,typeInfo,hi,hs.len,hs.cells]
  ·exact U ω (run_firstCells_none w.drew _ _ _ _) σ h.tail
 ·by_cases O:l+n<=c
  ·have a4:news.length<=cs.length:=by
    have h4:(l+n)*i.size<=c*i.size:=ahO _ O
    grind
   have hr:=run_append_room_src (P:=P) w t tx ty e i ht hi b J.length l c x n news hs O
    (λj X=>by
     rw[hc.cell,<-V]
     grind)
    (λj X=>hc.frozen _ _)
   have e0:J++(vs++(cs++u))=(J++vs)++(cs++u):=σ
   rw[e0] at hc;have h5:=hc.setCells news (J++vs) (cs++u) (by grind);rw[agV,V] at h5
   refine⟨_,_,hr,?_,_,_,rfl,?_⟩
   ·have:∀(news:List Value)(w0 w:aiA)(o:Nat),Ev w0 w->Ev w0 (w.setCells b o news):=by
     intro news
     induction news with
     |nil=>exactλ_ _ _ h=>h
     |cons v r ih=>exactλw0 w o h=>ih w0 _ (o+1) (h.trans (Ev.setCell w _ v))
    grind[Ev.refl]
   ·have e1:(J++vs)++news++(cs++u).drop news.length=J++((vs++news)++(cs.drop news.length++u)):=by grind
    grind[fp,List.length_append,Nat.add_mul,List.length_drop]
  ·refine U ω (run_firstCells_some w.drew _ _ _ _ _ _ V λj v X=>?_) V h.tail;rw[add_lit];have:=hc.cell (J.length+j);rw[ahg ω,ahC,ag8 (agN.1 X).1,X] at this
   simp_all
theorem ji{Ty:TypeId->Option dD}(hT:ec P Ty){t tx ty:TypeId}{i:dD}{z:Value}(hk:ai Ty t=.slice e)(hi:Ty e=some i)(hz:i.zero=some z)(hzs:(cellsOf z).length=i.size)
  {a:aiz} {l c:Nat} (h:St w (own i.size a l c vs::L)) {x:Value} {n:Nat} {news:List Value} (hs:Src P i.size tx x n news w) (hb:(l+n)*i.bytes<=140737488355328) (h63:l+n<=9223372036854775807):
  aY P (Builtin.append_ (Array.mk [t,tx]) ty (Array.mk [vS a l c,x])) w λv w'=>∃a' c',v=vS a' (l+n) c'/\St w' (own i.size a' (l+n) c' (vs++news)::L):=by
 obtain⟨d,U,J⟩:=dJ hT hk σ;rw[fm J] at U;obtain⟨u,d2,ha⟩:=sE hT hi;have O:z.cells.size=u.size:=by rw[<-ha.size,<-hzs,dU];simp
 rw[ha.size] at*;rw[ha.bytes] at hb;exact aao U ha.inf (by rw[<-ha.zero,hz]) O h hs hb h63
theorem gA{Ty:TypeId->Option dD}(hT:ec P Ty){tx e':TypeId}(hk:ai Ty tx=.slice e'){size:Nat}{a:aiz}{n c:Nat}{news:List Value}(hl:news.length=n*size)
  (hn:n=0\/∃ad,a=some ad/\∀j u,news[j]? =some u->w.cell? (ad.add j)=some u) (h1:∀u∈news,aK u=true):Src P size tx (vS a n c) n news w:=by
 obtain⟨d,O,J⟩:=dJ hT hk σ;rw[fm J] at O;cases a with
 |none=>
  rcases hn with rfl|⟨ad,h,_⟩
  ·simp_all[ag2,Src.ofNil]
  simp_all
 |some ad=>
  refine Src.ofSlice w O ad n c news hl ?_ λu U=>by simp_all[LM]
  grind
end
theorem wrap_u64(n:Nat)(h:n<2^64):IntKind.u64.wrap (n:Int)=n:=by grind[Int.emod_eq_of_lt,IntKind.wrap,IntKind.signed,IntKind.bits]
theorem Oc(n:Nat):BitVec.ofInt 64 (n:Int)=BitVec.ofNat 64 n:=by rfl
theorem Hl{a b:Nat}(ha:a<2^64)(hb:b<2^64):ph .and .u64 (a:Int) (b:Int)=((a&&& b:Nat):Int):=by
 show IntKind.u64.wrap (((BitVec.ofInt 64 (a:Int))&&& (BitVec.ofInt 64 (b:Int))).toNat:Int)=_
 grind[Oc,BitVec.toNat_and,BitVec.toNat_ofNat,Nat.mod_eq_of_lt,wrap_u64,Nat.and_lt_two_pow]
theorem aap{a b:Nat}(ha:a<2^64)(hb:b<2^64):ph .or .u64 (a:Int) (b:Int)=((a|||b:Nat):Int):=by
 show IntKind.u64.wrap (((BitVec.ofInt 64 (a:Int))|||(BitVec.ofInt 64 (b:Int))).toNat:Int)=_
 grind[Oc,BitVec.toNat_or,BitVec.toNat_ofNat,Nat.mod_eq_of_lt,wrap_u64,Nat.or_lt_two_pow]
theorem WN{s:Nat}(h:s<64):Wi .u64 1 (s:Int)=((2^s:Nat):Int):=by
 simp only[Wi,IntKind.bits,agZ,Int.one_mul];rw[ais ω];have u:((2:Int)^s)=((2^s:Nat):Int):=σ
 rw[u,wrap_u64 _ (Nat.pow_lt_pow_right ω h)]
theorem Hm{n s:Nat}(h:s<64):aZ .u64 (n:Int) (s:Int)=((n/2^s:Nat):Int):=by grind[aZ,IntKind.bits,Int.toNat_natCast,Nat.min_eq_left,Int.fdiv_eq_ediv_of_nonneg,Int.natCast_nonneg]
theorem Ai(k:Nat):Int.tdiv (k:Int) 64=((k/64:Nat):Int):=by rfl
theorem QS(k:Nat):Int.tmod (k:Int) 64=((k%64:Nat):Int):=by rfl
theorem Od{n s:Nat}(hn:n<2^64)(h:s<64):(ph .and .u64 (aZ .u64 (n:Int) (s:Int)) 1==1)=n.testBit s:=by
 rw[Hm h];have:(1:Int)=((1:Nat):Int):=rfl;rw[this,Hl (Nat.lt_of_le_of_lt (Nat.div_le_self _ _) hn) ω]
 grind
def JE(P:Program)(E:aiA->aiA->Prop)(g:FuncId)(args:List Value)(w:aiA)(R:aiA->Prop):Prop:=
 CallsDIn Fence.wide 0 P g ⟨args⟩ .returning w λe u' w'=>∃v,e=.returned v/\u'=.returning/\E w w'/\R w'
def afr(N:Nat)(o1 o2:Oper)(fr:Fr)(K:FuncId->List Value->Fr->Prop):Prop:=
 match o1.op,o1.dst,o1.guard,o2.op,o2.dst,o2.guard with
 |.makeFunc (.func g) first cap,some d,none,.defer c,none,none=>(match c.callee,first.toList,c.args.toList with
  |.value (.tmp t),[],[]=>pj (Nat.beq t d&&Nat.ble (d+1) N) (K g (nD fr cap.toList) ((d,.func (.func g) ⟨[]⟩ ⟨nD fr cap.toList⟩)::fr))
  |_,_,_=>False)
 |_,_,_,_,_,_=>False
def fnD(P:Program)(Ty:TypeId->Option dD)(Fn:FuncId->Bool)(E:aiA->aiA->Prop)(A:aW)(fn:Func)(args:List Value)(w:aiA)(R:Value->aiA->Prop):Prop:=
 match fn.body with
 |some (.seq a (.seq (.region _ ops false) b))=>(match ops.toList with
  |[o1,o2]=>bif leL args fn.ntmps&&(!dT a&& !dT b) then
    den P Ty Fn E fn.ntmps A a (FA 0 args) w (λa c=>afr fn.ntmps o1 o2 a λa d e=>pj (Fn a)
     (den P Ty Fn E fn.ntmps A b e c (λb c=>JE P E a d c λa=>Jw P Ty fn.results.toList b a λb=>R b a)
      (λb c=>JE P E a d c λa=>Jw P Ty fn.results.toList b a λb=>R b a) λ_ _ _=>False)) (λ_ _=>False) (λ_ _ _=>False)
   else False
  |_=>False)
 |_=>False
section
variable{P:Program}{Ty:TypeId->Option dD}{Fn:FuncId->Bool}{E:aiA->aiA->Prop}{N:Nat}
theorem Oe(args:List Value)(n:Nat)(hle:args.length<=n):({ tmps:=(⟨args⟩:Array Value)++Array.replicate (n-(⟨args⟩:Array Value).size) undef,defers:=[] }:Act)=bf n (FA 0 args) []:=by
 simp only[bf,Act.mk.injEq,and_true];apply ah3;apply ahp;intro i;simp only[Array.toList_append,Array.toList_replicate,agS]
 grind[List.getElem?_append_left,List.getElem?_range,wL,List.getElem?_append_right,List.getElem?_eq_none,List.range]
theorem KG{args:List Value}{n:Nat}(hle:args.length<=n):Fits n (FA 0 args):=λt ht=>by
 rw[wL,ag0 (agP _),ahk ω];rfl
theorem aaq(hT:ec P Ty)(hF:sI P Fn)(hm:P.follows .mixedOrders=true){f:FuncId}{fn:Func}(hfn:P.funcs[f]? =some fn)(A:aW)(hE:Jt E)(hb:QR fn=false){args:List Value}{w:aiA}{R:aiA->Prop}
  (h:Z6 P Ty Fn E A fn args w λ_ w=>R w):JE P E f args w R:=by
 unfold Z6 at h;cases hbd:fn.body with
 |none=>simp_all
 |some c=>
  have W:dT c=false:=by simp_all[QR]
  rw[hbd] at h;dsimp only at h;obtain⟨J,h⟩:=fo h;have J:=LD _ _ J;refine CallsDIn.mono (callsDIn_of_wp (F:=Fence.wide) (n:=0) (R:=λe w'=>∃v,e=.returned v/\E w w'/\R w') hfn hbd trivial ?_) λe u' w' ⟨hu,v,he,X,Y⟩=>⟨v,he,hu,X,Y⟩;rw[Oe args _ J]
  have fin:∀U w',(∃fr O,U=bf fn.ntmps fr (O++[])/\Fits fn.ntmps fr/\qG (sB c) (FA 0 args) fr/\E w w'/\Mk false w w' O/\Jw P Ty fn.results.toList fr w' λv=>QF c (λ_ w=>R w) v w')->
    U.defers=[]/\∃v,(results fn U.tmps).run P w'=.ok v w'/\∃v',Ending.returned v=.returned v'/\E w w'/\R w':=by
   rintro U w'⟨fr,O,rfl,X,Y,h3,⟨h0,_⟩,h6⟩;have hd:=h0 rfl;subst hd;obtain⟨v,g1,g2⟩:=DE (ds:=[]) hT X h6;simp only[QF,W,cond_false] at g2;exact⟨rfl,v,g1 w' rfl,v,rfl,h3,g2⟩
  refine wpIn_mono (yy (rf:=false) hT hF hE hm A c none (λZ=>absurd (W.symm.trans Z) σ) 0 _ w _ _ _ h (KG J) []) λe U w' V=>?_;cases e with
  |normal=>exact fin U w' V
  |ret=>exact fin U w' V
  |exit i=>obtain⟨_,_,_,_,_,_,_,Z⟩:=V;simp_all
  |goto l=>exact V.elim
  |panic ch=>exact V.elim
  |outgrown=>exact V.elim
theorem aar(hT:ec P Ty)(hF:sI P Fn)(hm:P.follows .mixedOrders=true){f:FuncId}{fn:Func}(hfn:P.funcs[f]? =some fn)(A:aW)(hE:Jt E){args:List Value}{w:aiA}{R:Value->aiA->Prop}
  (h:fnD P Ty Fn E A fn args w R):iA P E f args w R:=by
 unfold fnD at h
 split at h
 ·rename_i a id ops b hbd
  split at h
  ·rename_i o1 o2 hops;obtain⟨J,h⟩:=fo h;simp only[ag1,aid] at J;obtain⟨J,ra,rb⟩:=J;have J:=LD _ _ J;refine callsIn_wide.1 (callsIn_of_wp_marks (F:=Fence.wide) (n:=0) hfn hbd trivial ?_);rw[Oe args _ J];have b7:∀w,E w w:=λw=>hE.ofEv _ _ (Ev.refl w);refine wpIn_seq ?_;refine wpIn_mono (yy (rf:=false) hT hF hE hm A a none (λhh=>absurd (ra.symm.trans hh) σ) 0 _ w _ _ _ h (KG J) []) λe Y W O=>?_;cases e with
   |ret=>obtain⟨_,_,_,_,_,_,_,hh⟩:=O;simp_all
   |exit i=>obtain⟨_,_,_,_,_,_,_,hh⟩:=O;simp_all
   |goto l=>exact O.elim
   |panic ch=>exact O.elim
   |outgrown=>exact O.elim
   |normal=>
    obtain⟨fr,X,rfl,h1,_,b4,⟨h0,_⟩,V⟩:=O;have hd:=h0 rfl;subst hd
    show(Code.seq (.region id ops false) b).wpIn (wf none) 0 P _ (bf fn.ntmps fr []) W
    obtain⟨ba,bc,aa,a9,b3,bi⟩:=o1;obtain⟨b6,be,am,a4,ad,bl⟩:=o2;unfold afr at V;dsimp only at V
    split at V
    ·rename_i g first cap d c _
     split at V
     ·rename_i t hcal hfst hargs;obtain⟨hc,V⟩:=a_.1 V;simp only[ag1,Nat.ble_eq] at hc;obtain⟨Z,bz⟩:=hc;have Z:=aim Z;subst Z;obtain⟨hg,V⟩:=a_.1 V;obtain⟨callee,a0,a7⟩:=c;dsimp only at hcal hargs;subst hcal;have b5:first=#[]:=by simp_all
      have b1:a0=#[]:=by simp_all
      subst b5 b1;have bb:cap.map (ev fr)=⟨nD fr cap.toList⟩:=by grind[Dn,Array.ext']
      refine wpIn_seq (wpIn_region_list ?_);rw[hops]
      have a6:put fn.ntmps fr (some t) (.func (.func g) ⟨[]⟩ ⟨nD fr cap.toList⟩)=(t,.func (.func g) ⟨[]⟩ ⟨nD fr cap.toList⟩)::fr:=by
       rw[GZ,ag0 ω]
      have a8:Fits fn.ntmps ((t,.func (.func g) ⟨[]⟩ ⟨nD fr cap.toList⟩)::fr):=by grind[wA]
      have b2:(bf fn.ntmps fr []).eval=ev fr:=Gm _ _ _ h1;have e1:(execOp (ev fr) { dst:=some t,op:=.makeFunc (.func g) #[] cap,type:=aa,pos:=a9,after:=b3,guard:=none }).run P W=.ok (.value (.func (.func g) ⟨[]⟩ ⟨nD fr cap.toList⟩)) W:=by simp_all[execOp,Instr.makeFunc]
      have e2:(execOp (ev ((t,.func (.func g) ⟨[]⟩ ⟨nD fr cap.toList⟩)::fr)) { dst:=none,op:=.defer { callee:=.value (.tmp t),args:=#[],argTypes:=a7 },type:=am,pos:=a4,after:=ad,guard:=none }).run P W=.ok (.defer { target:=.fn (.func g) ⟨nD fr cap.toList⟩,args:=#[] }) W:=by simp[execOp,resolve,ev,fl,Deferred.ofValue]
      have a5:∀(al:List Oper)(tm:Array Value)(o:Oper),o.guard=none->Region.wanted o (yielded ⟨al⟩ tm)=true:=λal tm o h=>by simp_all[Region.wanted]
      simp only[wpListIn];rw[ag0 (a5 _ _ _ rfl)];refine⟨λ_ _=>trivial,?_⟩;rw[show(wf none).round=none from rfl,semAt_eq σ,b2,e1,Oper.uponIn_value,Gn,a6];rw[ag0 (a5 _ _ _ rfl)];refine⟨λ_ _=>trivial,?_⟩;rw[Gm _ _ _ a8];rw[show(wf none).round=none from rfl,show∀ρ(o:Oper),o.semAt none ρ=execOp ρ o fromλ_ _=>rfl,e2,Oper.uponIn_defer]
      show b.wpIn (wf none) 0 P _ (bf fn.ntmps ((t,.func (.func g) ⟨[]⟩ ⟨nD fr cap.toList⟩)::fr) [{ target:=.fn (.func g) ⟨nD fr cap.toList⟩,args:=#[] }]) W
      have fin:∀Y w',(∃U X,Y=bf fn.ntmps U (X++[{ target:=.fn (.func g) ⟨nD fr cap.toList⟩,args:=#[] }])/\Fits fn.ntmps U/\qG (sB b) ((t,.func (.func g) ⟨[]⟩ ⟨nD fr cap.toList⟩)::fr) U/\E W w'/\Mk false W w' X/\
        JE P E g (nD fr cap.toList) w' λw2=>Jw P Ty fn.results.toList U w2 λv=>R v w2)->
        LeavesInM Fence.wide 0 P fn Y.tmps (λe w'=>∃v,e=.returned v/\E w w'/\R v w') Y.defers .returning w':=by
       rintro Y w'⟨U,X,rfl,k1,_,k3,⟨k0,_⟩,k6⟩;have hd:=k0 rfl;subst hd
       show LeavesInM Fence.wide 0 P fn (bf fn.ntmps U [{ target:=.fn (.func g) ⟨nD fr cap.toList⟩,args:=#[] }]).tmps _ [{ target:=.fn (.func g) ⟨nD fr cap.toList⟩,args:=#[] }] .returning w'
       refine⟨σ,.inr ⟨λh=>(by cases h),.func g,⟨nD fr cap.toList⟩,g,⟨nD fr cap.toList⟩,rfl,?_,λ_ _=>trivial,?_⟩⟩
       ·grind[invoke,um]
       ·refine CallsDIn.mono k6 λe u' w2 ⟨v,he,hu,av,hr⟩=>?_;subst he hu;obtain⟨v,g1,g2⟩:=DE (ds:=[{ target:=.fn (.func g) ⟨nD fr cap.toList⟩,args:=#[] }]) hT k1 hr;exact⟨v,g1 w2 rfl,v,rfl,hE.trans b4 (hE.trans k3 av),g2⟩
      refine wpIn_mono (yy (rf:=false) hT hF hE hm A b none (λhh=>absurd (rb.symm.trans hh) σ) 0 _ W _ _ _ V a8 [{ target:=.fn (.func g) ⟨nD fr cap.toList⟩,args:=#[] }]) λe Y w' O=>?_;cases e with
      |normal=>exact fin Y w' O
      |ret=>exact fin Y w' O
      |exit i=>obtain⟨_,_,_,_,_,_,_,hh⟩:=O;simp_all
      |goto l=>exact O.elim
      |panic ch=>exact O.elim
      |outgrown=>exact O.elim
     simp_all
    simp_all
  ·exact h.elim
 ·exact h.elim
end
end Go.Proofs.YtaoaemnefghnbaaGreatDoor
