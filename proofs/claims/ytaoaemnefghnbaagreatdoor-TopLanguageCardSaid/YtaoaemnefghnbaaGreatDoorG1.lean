/- A part of the claim. -/
import Derived.RangeFuncIn
import Derived.RangeFuncLeaves
import Derived.TacticsIn
import Derived.Deep.Quiet
import Derived.Laws.Sem
import Derived.Laws.Cells
import Derived.KernelRfl
import Derived.IntWalk
import Derived.Laws.Slices
import Derived.OrdersIn
import Derived.RangeFuncRecord
import Derived.Deep.AppendSrc
set_option linter.unusedVariables false
set_option linter.unusedSectionVars false
set_option maxRecDepth 100000
set_option maxHeartbeats 16000000
abbrev Go.E:=Option Go.Addr
abbrev Go.ga:=Go.World
abbrev Go.ah:=Go.Value
abbrev Go.aC:=Go.TypeId
abbrev Go.aM:=Go.FuncId
abbrev Go.iI:=Go.Program
abbrev Go.vB:=Go.Oper
abbrev Go.vP:=Go.Addr
abbrev Go.vS:=ByteArray
abbrev Go.St:=Go.Operand
namespace Go
abbrev gg:=@List.mem_of_getElem?
abbrev gn:=@List.getElem?_eq_getElem
abbrev gJ:=@List.getElem?_eq_some_iff
abbrev hY:=@of_decide_eq_false
abbrev gZ:=@of_decide_eq_true
abbrev iw:=@List.take_add_one
abbrev gu:=@Nat.zero_le
abbrev iE:=@List.getElem?_map
abbrev gP:=@Nat.le_refl
abbrev jX:=@List.getD_eq_getElem?_getD
abbrev jw:=@List.length_append
abbrev iU:=@List.mem_append
abbrev je:=@Int.toNat_natCast
abbrev iz:=@List.mem_map
abbrev jy:=@List.take_of_length_le
abbrev gv:=@if_neg
abbrev j2:=@List.eq_nil_of_length_eq_zero
abbrev jR:=@List.getElem?_of_mem
abbrev gD:=@if_pos
abbrev jl:=@List.take_length
abbrev jn:=@Bool.and_eq_true
abbrev jO:=@List.length_map
abbrev jT:=@List.append_assoc
abbrev jA:=@List.mem_singleton
abbrev jb:=@List.mem_cons
abbrev ki:=@List.getElem?_append_left
abbrev jI:=@List.map_append
abbrev jM:=@decide_eq_false
abbrev l9:=@List.take_append_drop
abbrev jK:=@List.append_nil
abbrev jV:=@decide_eq_true_eq
abbrev jY:=@List.mem_range
abbrev kL:=@List.getElem?_append_right
abbrev lA:=@List.getElem?_eq_none
abbrev kh:=@List.mem_filter
abbrev kr:=@List.flatMap_append
abbrev j3:=@Nat.le_trans
abbrev k5:=@List.length_take
abbrev lQ:=@List.length_cons
abbrev vH:=@List.drop_eq_getElem_cons
abbrev kF:=@Int.natCast_nonneg
abbrev lX:=@List.filter_append
abbrev kv:=@List.ext_getElem?
abbrev kI:=@List.getElem?_drop
abbrev mr:=@List.length_filter_le
abbrev kG:=@decide_eq_true
abbrev kf:=@List.map_set
abbrev kj:=@Bool.or_eq_true
abbrev ky:=@List.length_set
abbrev lC:=@List.flatMap_cons
abbrev kn:=@List.map_cons
abbrev kS:=@List.nodup_append
abbrev lE:=@List.getElem?_zipWith
abbrev ot:=@List.nodup_iff_pairwise_ne
abbrev k8:=@List.range_succ
abbrev lF:=@List.pairwise_map
abbrev kN:=@List.nodup_cons
abbrev mu:=@Nat.add_sub_cancel_left
abbrev mw:=@Classical.byContradiction
abbrev lh:=@List.perm_middle
abbrev nN:=@List.getElem?_take
abbrev kA:=@Nat.mul_one
abbrev tH:=@List.length_nil
abbrev lR:=@List.mem_flatMap
abbrev oT:=@List.length_range
abbrev ou:=@List.mem_cons_of_mem
abbrev my:=@List.pairwise_cons
abbrev lG:=@Bool.eq_iff_iff
abbrev pC:=@List.getElem?_range
abbrev nO:=@Nat.mul_le_mul_right
abbrev sd:=@List.pairwise_iff_getElem
abbrev oZ:=@List.exists_mem_of_ne_nil
abbrev oB:=@Option.toList_some
abbrev mB:=@Nat.pos_of_ne_zero
abbrev l7:=@List.nil_append
abbrev o7:=@List.set_append_right
abbrev oF:=@List.length_replicate
abbrev mE:=@List.all_eq_true
abbrev qL:=@List.map_congr_left
abbrev oH:=@List.replicate_succ
abbrev lH:=@Nat.sub_self
abbrev lI:=@Array.ext'
abbrev pE:=@List.replicate_succ'
abbrev qR:=@List.length_drop
abbrev qV:=@List.getElem?_set_ne
abbrev sk:=@Array.getElem?_eq_some_iff
abbrev lS:=@Nat.zero_add
abbrev tJ:=@List.filter_eq_nil_iff
abbrev vJ:=@List.getElem?_inj
abbrev qW:=@List.length_pos_iff
abbrev oI:=@Option.map_some
abbrev tL:=@Array.getElem?_modify
abbrev vL:=@Array.getElem?_toList
abbrev pK:=@List.length_singleton
abbrev o8:=@Bool.false_eq_true
abbrev pL:=@List.getElem_mem
abbrev qY:=@List.getElem?_cons_succ
abbrev q8:=@List.getElem?_set
abbrev ri:=@Bool.not_eq_true'
abbrev sm:=@List.filter_congr
abbrev rj:=@Option.map_eq_some_iff
abbrev tO:=@List.set_eq_take_append_cons_drop
abbrev sq:=@List.getElem?_set_self
abbrev rm:=@Nat.eq_of_beq_eq_true
abbrev o9:=@List.drop_drop
abbrev sw:=@List.getLast?_eq_getElem?
abbrev sy:=@Option.isSome_iff_exists
abbrev pP:=@Nat.succ_mul
abbrev nQ:=@List.map_map
abbrev pS:=@Nat.min_eq_left
abbrev rr:=@List.mem_of_mem_drop
abbrev ry:=@List.foldl_append
abbrev sF:=@Nat.lt_trichotomy
abbrev oJ:=@Bool.true_and
abbrev sL:=@List.getElem?_cons_zero
abbrev xC:=@List.getElem?_replicate
abbrev tQ:=@decide_eq_false_iff_not
abbrev rz:=@Array.length_toList
end Go
namespace Go.Proofs.YtaoaemnefghnbaaGreatDoor
abbrev At:=List Bool
abbrev Ay:=List ah
abbrev Az:=List Int
abbrev A0:=List Nat
abbrev A5:=List (List Bool)
abbrev A7:=List (List Int)
abbrev A9:=List (List Nat)
abbrev Bb:=List (List ah)
abbrev ν:=Nat->ah
theorem U{p:Prop}(h:p:=by omega):p:=h
theorem G{p:Prop}(h:p:=by grind):p:=h
theorem η{p:Prop}(h:p:=by simp_all):p:=h
theorem ξ{p q:Prop}(h:p/\q:=by omega):p/\q:=h
theorem V{p:Prop}(h:p:=by simp):p:=h
inductive Cs where
 |int (k:IntKind)|bool|str|slice|ptr|map|fn|val|ifc
 deriving Inhabited
inductive S1 where
 |one (c:Cs)|agg (l:List Cs)
 deriving Inhabited
inductive Sh where
 |s (x:S1)|tup (l:List S1)
 deriving Inhabited
def Cs.ex:Cs->(ah->Prop)->Prop
 |.int k,p=>∃n:Int,p (.int k n)
 |.bool,p=>∃b:Bool,p (.bool b)
 |.str,p=>∃s:vS,p (.string s)
 |.slice,p=>∃(a:E)(l c:Nat),p (.slice a l c)
 |.ptr,p=>∃a:E,p (.pointer a)
 |.map,p=>∃r:Option Nat,p (.map r)
 |.fn,p=>∃(g:aM)(c:Ay),p (.func (.func g) #[] ⟨c⟩)
 |.val,p=>∃v:ah,p v
 |.ifc,p=>∃(t:aC)(v:ah),p (.iface t v)
def Cs.all:Cs->(ah->Prop)->Prop
 |.int k,p=>∀n:Int,p (.int k n)
 |.bool,p=>∀b:Bool,p (.bool b)
 |.str,p=>∀s:vS,p (.string s)
 |.slice,p=>∀(a:E)(l c:Nat),p (.slice a l c)
 |.ptr,p=>∀a:E,p (.pointer a)
 |.map,p=>∀r:Option Nat,p (.map r)
 |.fn,p=>∀(g:aM)(c:Ay),p (.func (.func g) #[] ⟨c⟩)
 |.val,p=>∀v:ah,p v
 |.ifc,p=>∀(t:aC)(v:ah),p (.iface t v)
def rB:List Cs->(Ay->Prop)->Prop
 |[],p=>p []
 |c::l,p=>c.ex λv=>rB l λvs=>p (v::vs)
def tS:List Cs->(Ay->Prop)->Prop
 |[],p=>p []
 |c::l,p=>c.all λv=>tS l λvs=>p (v::vs)
def S1.ex:S1->(ah->Prop)->Prop
 |.one c,p=>c.ex p
 |.agg l,p=>rB l λvs=>p (.agg ⟨vs⟩)
def S1.all:S1->(ah->Prop)->Prop
 |.one c,p=>c.all p
 |.agg l,p=>tS l λvs=>p (.agg ⟨vs⟩)
def pb:List S1->(Ay->Prop)->Prop
 |[],p=>p []
 |c::l,p=>c.ex λv=>pb l λvs=>p (v::vs)
def Sh.ex:Sh->(ah->Prop)->Prop
 |.s x,p=>x.ex p
 |.tup l,p=>pb l λvs=>p (.tuple ⟨vs⟩)
def Sh.is(sh:Sh)(v:ah)(k:ah->Prop):Prop:=sh.ex λu=>v=u/\k u
theorem Cs.o_{c:Cs}{p:ah->Prop}(h:c.ex p):∃v,p v:=by
 cases c<;>simp only[Cs.ex] at h
 case slice=>obtain⟨a,l,c,h⟩:=h;exact⟨_,h⟩
 case fn=>obtain⟨a,l,h⟩:=h;exact⟨_,h⟩
 case ifc=>obtain⟨a,l,h⟩:=h;exact⟨_,h⟩
 all_goals (obtain⟨a,h⟩:=h;exact⟨_,h⟩)
theorem IH{l:List Cs}:∀{p:Ay->Prop},rB l p->∃v,v.length=l.length/\p v:=by
 induction l with
 |nil=>exactλh=>⟨[],rfl,h⟩
 |cons a l b=>intro p h;obtain⟨v,h⟩:=Cs.o_ h;grind
theorem S1.o_{c:S1}{p:ah->Prop}(h:c.ex p):∃v,p v:=by
 cases c with
 |one c=>exact Cs.o_ h
 |agg a=>obtain⟨b,_,h⟩:=IH h;grind
theorem C6{l:List S1}:∀{p:Ay->Prop},pb l p->∃v,p v:=by
 induction l with
 |nil=>exactλh=>⟨[],h⟩
 |cons a l b=>intro p h;obtain⟨v,h⟩:=S1.o_ h;grind
theorem Sh.o_{c:Sh}{p:ah->Prop}(h:c.ex p):∃v,p v:=by
 cases c with
 |s c=>exact S1.o_ h
 |tup a=>obtain⟨b,h⟩:=C6 h;grind
theorem Sh.fF{a:Sh}{v:ah}{k:ah->Prop}(h:a.is v k):k v:=by
 obtain⟨b,rfl,h⟩:=Sh.o_ h;exact h
inductive Kd where
 |bool|int (k:IntKind)|string|slice (e:aC)|ptr (e:aC)|map (k e:aC)|struct|array (n:Nat) (e:aC)|func|iface|tuple|other
 deriving Inhabited
def iW:TypeDesc->Kd
 |.bool=>.bool|.int k=>.int k|.string=>.string|.slice e=>.slice e|.pointer e=>.ptr e|.map k e=>.map k e
 |.struct _=>.struct|.array n e=>.array n e|.func ..=>.func|.interface _=>.iface|.tuple _=>.tuple|_=>.other
def Cs.of:ah->Cs
 |.int k _=>.int k|.bool _=>.bool|.string _=>.str|.slice ..=>.slice|.pointer _=>.ptr|.map _=>.map|.nilFunc=>.fn|.nilIface=>.ifc|_=>.val
def S1.of:ah->S1
 |.agg cs=>.agg (cs.toList.map Cs.of)
 |v=>.one (Cs.of v)
structure dL where
 kd:Kd
 size:Nat
 bytes:Nat
 zero:Option ah
 flds:List (Nat×Nat×Bool)      --offset,size,is the field's type a struct or an array
 tup:List S1
 cmp:Bool:=false
 deriving Inhabited
def Kd.isAgg:Kd->Bool
 |.struct|.array ..=>true
 |_=>false
def ES(P:iI):TypeDesc->Bool
 |.struct fs=>fs.toList.all λf=>(P.info? f.type).isSome&&(P.underlying f.type).isSome
 |_=>true
def sM(P:iI)(t:aC):Option dL:=
  match P.info? t,P.underlying t with
  |some i,some d=>bif ES P d then some
    { kd:=iW d,size:=i.size,bytes:=i.bytes,zero:=i.zero,cmp:=i.comparable
      flds:=match d with
        |.struct fs=>fs.toList.map λf=>(f.offset,P.cellsOf f.type,match P.underlying f.type with|some (.struct _)|some (.array ..)=>true|_=>false)
        |_=>[]
      tup:=match d with
        |.tuple ts=>ts.toList.map λe=>S1.of (((P.info? e).bind (·.zero)).getD undef)
        |_=>[] } else none
  |_,_=>none
def fb(P:iI)(Ty:aC->Option dL):Prop:=∀t i,Ty t=some i->∃c,sM P t=some { i with cmp:=c }
def Wj:List (aC×dL)->aC->Option dL
 |[],_=>none
 |(t,i)::l,u=>bif Nat.beq t u then some i else Wj l u
theorem Uo{P:iI}{l:List (aC×dL)}(h:l.map (λa=>sM P a.1)=l.map (λa=>some a.2)):fb P (Wj l):=by
 intro c d a
 induction l with
 |nil=>simp_all[Wj]
 |cons e l g=>
  obtain⟨f,i⟩:=e;simp only[kn,List.cons.injEq] at h;simp only[Wj,Bool.cond_eq_ite] at a
  by_cases b:Nat.beq f c=true
  ·rw[gD b] at a;cases a;rw[<-rm b];exact⟨d.cmp,h.1⟩
  simp_all
def Sk(Ty:aC->Option dL)(t:aC):Sh:=
 match Ty t with
 |some i=>match i.kd with|.tuple=>.tup i.tup|_=>(match i.zero with|some z=>.s (S1.of z)|none=>.s (.one .val))
 |none=>.s (.one .val)
structure Ev(w w':ga):Prop where
 os:w'.os=w.os
 tape:w'.tape=w.tape
 output:w'.output=w.output
 size:w.heap.size<=w'.heap.size
 dfr:∀(b:Nat)(d:Option (List Deferred)),w.heap[b]? =some (Obj.deferred d)->w'.heap[b]? =some (Obj.deferred d)
 lop:∀(b:Nat)(d:Loop),w.heap[b]? =some (Obj.loop d)->w'.heap[b]? =some (Obj.loop d)
theorem Ev.refl(w:ga):Ev w w:=⟨rfl,rfl,rfl,gP _,λ_ _ h=>h,λ_ _ h=>h⟩
theorem Ev.trans{a b c:ga}(h:Ev a b)(k:Ev b c):Ev a c:=
 ⟨k.os.trans h.os,k.tape.trans h.tape,k.output.trans h.output,j3 h.size k.size,λd e f=>k.dfr d e<|h.dfr d e f,λd e f=>k.lop d e<|h.lop d e f⟩
theorem Ev.drew(w:ga)(n:Nat):Ev w { w with drawn:=n }:=⟨rfl,rfl,rfl,gP _,λ_ _ h=>h,λ_ _ h=>h⟩
theorem Ev.push(w:ga)(o:Obj):Ev w { w with heap:=w.heap.push o }:=by
 refine⟨rfl,rfl,rfl,V,?_,?_⟩<;>
 ·grind
theorem Ev.setCell(w:ga)(a:vP)(v:ah):Ev w (w.setCell a v):=by
 refine⟨rfl,rfl,rfl,V,?_,?_⟩<;>
 ·simp_all[World.setCell,tL]
structure K8(E:ga->ga->Prop):Prop where
 trans:∀{a b c:ga},E a b->E b c->E a c
 ofEv:∀a b:ga,Ev a b->E a b
 dfr:∀{a b:ga},E a b->∀(k:Nat)(d:Option (List Deferred)),a.heap[k]? =some (Obj.deferred d)->b.heap[k]? =some (Obj.deferred d)
 size:∀{a b:ga},E a b->a.heap.size<=b.heap.size
theorem vN:K8 Ev:=⟨λa b=>a.trans b,λ_ _ a=>a,λa b c d=>a.dfr b c d,λa=>a.size⟩
def jm(P:iI)(E:ga->ga->Prop)(f:aM)(args:Ay)(w:ga)(R:ah->ga->Prop):Prop:=
 Calls P f ⟨args⟩ w λa b=>∃c,a=.returned c/\E w b/\R c b
abbrev aA(P:iI)(f:aM)(args:Ay)(w:ga)(R:ah->ga->Prop):Prop:=jm P Ev f args w R
theorem aA.mono{P:iI}{f:aM}{args:Ay}{w:ga}{R a:ah->ga->Prop}(h:aA P f args w R)(b:∀v w',R v w'->a v w'):aA P f args w a:=
 Calls.mono h λ_ _ ⟨v,c,d,e⟩=>⟨v,c,d,b _ _ e⟩
theorem jm.mono{P:iI}{E:ga->ga->Prop}{f:aM}{args:Ay}{w:ga}{R a:ah->ga->Prop}(h:jm P E f args w R)(b:∀v w',R v w'->a v w'):jm P E f args w a:=
 Calls.mono h λ_ _ ⟨v,c,d,e⟩=>⟨v,c,d,b _ _ e⟩
theorem aA.toE{P:iI}{E:ga->ga->Prop}(a:K8 E){f:aM}{args:Ay}{w:ga}{R:ah->ga->Prop}(h:aA P f args w R):jm P E f args w R:=
 Calls.mono h λ_ _ ⟨b,c,d,e⟩=>⟨b,c,a.ofEv _ _ d,e⟩
def bg{α:Type}(P:iI)(s:Sem α)(w:ga)(R:α->ga->Prop):Prop:=
 ∃v w',s.run P w=.ok v w'/\Ev w w'/\R v w'
theorem bg.mono{α:Type}{P:iI}{s:Sem α}{w:ga}{R a:α->ga->Prop}(h:bg P s w R)(b:∀v w',R v w'->a v w'):bg P s w a:=
 let⟨v,w',c,d,e⟩:=h;⟨v,w',c,d,b _ _ e⟩
abbrev Fr:=List (Nat×ah)
def fG:Fr->Nat->ah
 |[],_=>undef
 |(d,v)::l,t=>bif Nat.beq d t then v else fG l t
def put(n:Nat)(fr:Fr):Option Tmp->ah->Fr
 |some d,v=>bif Nat.ble (d+1) n then(d,v)::fr else fr
 |none,_=>fr
def ev(fr:Fr):St->ah
 |.tmp t=>fG fr t
 |.const v=>v
 |.global g=>.pointer (some ⟨g,0,none⟩)
 |.func f=>.func (.func f) #[] #[]
def oz(fr:Fr):List St->Ay
 |[]=>[]
 |x::l=>ev fr x::oz fr l
theorem ET(fr:Fr):∀l,oz fr l=l.map (ev fr)
 |[]=>rfl
 |x::l=>by simp[oz,ET fr l]
def bp(n:Nat)(fr:Fr)(ds:List Deferred):Act:={ tmps:=⟨(List.range n).map (fG fr)⟩,defers:=ds }
def jt(n:Nat)(fr:Fr):Prop:=∀t,n<=t->fG fr t=undef
theorem zX(n:Nat)(fr:Fr)(ds:List Deferred)(b:jt n fr)(t:Nat):(bp n fr ds).tmps.getD t undef=fG fr t:=by
 by_cases a:t<n
 ·simp[bp,a]
 ·simp[bp,a,b t U]
theorem Sv(n:Nat)(fr:Fr)(ds:List Deferred)(a:jt n fr)(x:St):(bp n fr ds).eval x=ev fr x:=by
 cases x with
 |tmp b=>exact zX n fr ds a b
 |_=>rfl
theorem Ib(n:Nat)(fr:Fr)(ds:List Deferred)(a:jt n fr):(bp n fr ds).eval=ev fr:=funext (Sv n fr ds a)
theorem EU(d:Nat)(v:ah)(l:Fr)(t:Nat):fG ((d,v)::l) t=if d=t then v else fG l t:=by simp[fG,Bool.cond_eq_ite]
theorem II(n:Nat)(fr:Fr)(d:Nat)(v:ah):put n fr (some d) v=if d<n then(d,v)::fr else fr:=by
 simp only[put,Bool.cond_eq_ite,Nat.ble_eq];rfl
theorem xY{n:Nat}{fr:Fr}(a:jt n fr)(d:Option Tmp)(v:ah):jt n (put n fr d v):=by
 cases d with
 |none=>exact a
 |some d=>
  rw[II]
  split
  ·intro b c;rw[EU,gv U];exact a b c
  omega
theorem pe(n:Nat)(fr:Fr)(d:Nat)(v:ah)(t:Nat):fG (put n fr (some d) v) t=if d=t/\d<n then v else fG fr t:=by
 rw[II]
 by_cases h:d<n
 ·simp_all[EU]
 grind
theorem Ic(n:Nat)(fr:Fr)(ds:List Deferred)(d:Option Tmp)(v:ah):(bp n fr ds).put d v=bp n (put n fr d v) ds:=by
 cases d with
 |none=>rfl
 |some d=>
  simp only[Act.put,bp,Act.mk.injEq,and_true];apply lI;apply kv
  grind[Array.toList_setIfInBounds,List.length_map,List.length_range,List.getElem?_range,pe,List.getElem?_eq_none]
theorem GM{n:Nat}{fr fr':Fr}(ds:List Deferred)(h:∀t,t<n->fG fr t=fG fr' t):bp n fr ds=bp n fr' ds:=by simp_all[bp,Act.mk.injEq]
def br:Bool->Prop->Prop->Prop
 |true,a,_=>a
 |false,_,b=>b
theorem ae{c:Bool}{a b:Prop}(d:c=true->a)(e:c=false->b):br c a b:=by
 cases c
 ·exact e rfl
 ·exact d rfl
def vO(v:ah)(a b:Prop):Prop:=match v with|.bool c=>br c a b|_=>False
def xD(c:Bool)(k:Bool->Prop):Prop:=br c (k true) (k false)
theorem Wk{c:Bool}{k:Bool->Prop}(h:xD c k):k c:=by cases c<;>exact h
def nn(a:E)(k:vP->Prop):Prop:=match a with|some x=>k x|none=>False
def K(z:Int):Prop:=-9223372036854775808<=z/\z<=9223372036854775807
def BT(z:Int):Int:=IntKind.i64.wrap z
theorem Up{z:Int}(h:K z):IntKind.i64.wrap z=z:=IntWalk.i64_in z ⟨h.1,h.2⟩
def Sw:Ay->Nat->ah->Ay
 |[],_,_=>[]
 |_::l,0,v=>v::l
 |x::l,n+1,v=>x::Sw l n v
theorem Uq:∀(l:Ay)(n:Nat)(v:ah),Sw l n v=l.set n v
 |[],_,_=>rfl
 |_::_,0,_=>rfl
 |x::l,n+1,v=>by simp[Sw,Uq l n v]
def iA(w:ga)(a:vP)(i:Nat):Nat->Option Ay
 |0=>some []
 |n+1=>match w.cell? (a.add i),iA w a (i+1) n with
  |some v,some vs=>some (v::vs)
  |_,_=>none
def rD(w:ga)(a:vP)(i:dL)(k:ah->Prop):Prop:=
 match i.zero with
 |none=>False
 |some z=>match i.kd.isAgg,S1.of z with
  |true,.agg l=>rB l λvs=>iA w a 0 i.size=some vs/\k (.agg ⟨vs⟩)
  |false,.one c=>c.ex λv=>w.cell? a=some v/\k v
  |_,_=>False
def aO:ah->Bool
 |.agg _|.tuple _=>false
 |_=>true
def dQ(w:ga)(a:vP)(i:Nat):Ay->ga
 |[]=>w
 |v::l=>dQ (w.setCell (a.add i) v) a (i+1) l
def nH(w:ga)(a:vP)(i:Nat):Ay->Prop
 |[]=>True
 |v::l=>aO v=true/\(∃u,w.cell? (a.add i)=some u)/\w.frozen? (a.add i)=false/\nH w a (i+1) l
def gh(w:ga)(a:vP)(v:ah)(k:ga->Prop):Prop:=
 (∃u,w.cell? a=some u)/\w.frozen? a=false/\aO v=true/\∀w',w'=w.setCell a v->k w'
def bC(w:ga)(a:vP)(vs:Ay)(k:ga->Prop):Prop:=
 nH w a 0 vs/\∀w',w'=dQ w a 0 vs->k w'
def cellsOf:ah->Ay
 |.agg cs=>cs.toList
 |v=>[v]
def GN:Ay->Nat->Bool
 |[],n=>Nat.beq n 0
 |_::l,n=>match n with
  |n+1=>GN l n
  |0=>false
theorem xZ:∀(l:Ay)(n:Nat),GN l n=true->l.length=n
 |[],n,h=>by simp_all[GN]
 |_::l,0,h=>by grind[GN]
 |_::l,n+1,h=>by simp[xZ l n h]
def ub:Ay->Nat->Bool
 |[],_=>true
 |_::l,n+1=>ub l n
 |_,_=>false
theorem No:∀(l:Ay)(n:Nat),ub l n=true->l.length<=n
 |[],_,_=>gu _
 |_::l,n+1,h=>by have:=No l n h;simp_all
def vQ:Nat->Ay->Bool
 |0,_=>true
 |n+1,_::l=>vQ n l
 |_,_=>false
theorem X9:∀(n:Nat)(l:Ay),vQ n l=true->n<=l.length
 |0,_,_=>gu _
 |n+1,_::l,h=>by have:=X9 n l h;simp_all
def vV(w:ga)(a:vP)(i:dL)(v:ah)(k:ga->Prop):Prop:=
 match i.kd.isAgg,v with
 |true,.agg cs=>bif GN cs.toList i.size then bC w a cs.toList k else False
 |false,v=>bif Nat.beq i.size 1 then gh w a v k else False
 |_,_=>False
def new(w:ga)(o:Obj)(k:Nat->ga->Prop):Prop:=∀b w',b=w.heap.size->w'={ w with heap:=w.heap.push o }->k b w'
abbrev Hp:=Nat->Option Obj
abbrev aG:=Hp->Prop
def Sx:Option Obj->Option Obj
 |some (.deferred _)=>none
 |o=>o
theorem tW{x:Option Obj}{o:Obj}(h:Sx x=some o):x=some o:=by
 unfold Sx at h;grind
def Pw:Obj->Bool
 |.deferred _=>false
 |_=>true
theorem IJ{o:Obj}(h:Pw o=true):Sx (some o)=some o:=by cases o<;>first|rfl|cases h
def hp(w:ga):Hp:=λb=>Sx w.heap[b]?
theorem BU{w:ga}{b:Nat}(h:w.heap.size<=b):hp w b=none:=by grind[hp,Sx]
def sub(a b:Hp):Prop:=∀k o,a k=some o->b k=some o
def Np(a b:Hp):Prop:=∀k,a k=none\/b k=none
theorem sub.refl(a:Hp):sub a a:=λ_ _ h=>h
theorem sZ{h}:sub h h:=sub.refl h
theorem sub.trans{a b c:Hp}(h:sub a b)(k:sub b c):sub a c:=λd e f=>k d e (h d e f)
theorem Np.symm{a b:Hp}(h:Np a b):Np b a:=λk=>(h k).symm
theorem Np.sub{a b c d:Hp}(h:Np a b)(f:sub c a)(g:sub d b):Np c d:=by
 intro e
 rcases h e with h|h
 ·left;cases i:c e with
  |none=>rfl
  |some j=>rw[f e j i] at h;omega
 ·right;cases i:d e with
  |none=>rfl
  |some j=>rw[g e j i] at h;omega
def XX(a b:Hp):Hp:=λk=>match a k with|some o=>some o|none=>b k
theorem zY(a b:Hp):sub a (XX a b):=λk o h=>by grind[XX]
theorem zZ{a b:Hp}(h:Np a b):sub b (XX a b):=λc d e=>by
 rcases h c with h|h
 ·simp_all[XX]
 simp_all
theorem Ie{a b c:Hp}(h1:sub a c)(h2:sub b c):sub (XX a b) c:=λk o h=>by
 unfold XX at h;split at h
 ·rename_i o' ho;cases h;exact h1 k _ ho
 ·exact h2 k o h
theorem If{a b c:Hp}(e:Np a c)(f:Np b c):Np (XX a b) c:=by
 intro d
 rcases e d with g|g
 ·rcases f d with h|h
  ·simp_all[XX]
  simp_all
 simp_all
def aL:List aG->aG
 |[],_=>True
 |A::L,h=>∃h1 h2,Np h1 h2/\sub h1 h/\sub h2 h/\A h1/\aL L h2
theorem mN:∀{L:List aG}{h h':Hp},aL L h->sub h h'->aL L h'
 |[],_,_,_,_=>trivial
 |A::L,h,h',⟨h1,h2,d,s1,s2,ha,hl⟩,s=>⟨h1,h2,d,s1.trans s,s2.trans s,ha,hl⟩
theorem vp{A B:aG}{L:List aG}{h:Hp}:aL (A::B::L) h->aL (B::A::L) h
 |⟨h1,h2,d,s1,s2,ha,h3,h4,d',s3,s4,hb,hl⟩=>
  have d14:Np h1 h4:=d.sub sZ s4
  ⟨h3,XX h1 h4,(If (d.sub sZ s3) d'.symm).symm,s3.trans s2,Ie s1 (s4.trans s2),hb,h1,h4,d14,zY _ _,zZ d14,ha,hl⟩
theorem x_{A:aG}{L L':List aG}{h:Hp}(hm:∀h,aL L h->aL L' h):aL (A::L) h->aL (A::L') h
 |⟨h1,h2,d,s1,s2,ha,hl⟩=>⟨h1,h2,d,s1,s2,ha,hm _ hl⟩
theorem Sy{A B:aG}{L:List aG}{h:Hp}(hm:∀h,A h->B h):aL (A::L) h->aL (B::L) h
 |⟨h1,h2,d,s1,s2,ha,hl⟩=>⟨h1,h2,d,s1,s2,hm _ ha,hl⟩
theorem ay{A:aG}{L:List aG}{h:Hp}:aL (A::L) h->aL L h
 |⟨h1,h2,d,s1,s2,ha,hl⟩=>mN hl s2
theorem Sz{L L':List aG}(p:L.Perm L'):∀{h:Hp},aL L h->aL L' h:=by
 induction p with
 |nil=>simp
 |cons a p b=>grind[x_]
 |swap a b c=>simp_all[vp]
 |trans p a b c=>simp_all
def aT(M:List aG):aG:=aL M
theorem pZ:∀{M L:List aG}{h:Hp},aL (aT M::L) h↔aL (M++L) h
 |[],L,h=>⟨λ⟨h1,h2,d,s1,s2,ha,hl⟩=>mN hl s2,λhl=>⟨λ_=>none,h,λ_=>.inl rfl,λ_ _ h=>(nomatch h),sZ,trivial,hl⟩⟩
 |A::M,L,h=>by
  constructor
  ·rintro⟨h1,h2,d,s1,s2,⟨h3,h4,d',s3,s4,ha,hm⟩,hl⟩
   have d42:Np h4 h2:=d.sub s4 sZ
   exact⟨h3,XX h4 h2,(If d'.symm (d.symm.sub sZ s3)).symm,s3.trans s1,Ie (s4.trans s1) s2,ha,pZ.1 ⟨h4,h2,d42,zY _ _,zZ d42,hm,hl⟩⟩
  ·rintro⟨h1,h2,d,s1,s2,ha,hr⟩
   obtain⟨h3,h4,d',s3,s4,hm,hl⟩:=pZ.2 hr
   have d13:Np h1 h3:=d.sub sZ s3
   exact⟨XX h1 h3,h4,If (d.sub sZ s4) d',Ie s1 (s3.trans s2),s4.trans s2,⟨h1,h3,d13,zY _ _,zZ d13,ha,hm⟩,hl⟩
def ex{α:Type}(A:α->aG):aG:=λh=>∃x,A x h
theorem X_{α:Type}{A:α->aG}{L:List aG}{h:Hp}:aL (ex A::L) h↔∃x,aL (A x::L) h:=
 ⟨λ⟨a,b,c,d,e,⟨x,f⟩,g⟩=>⟨x,a,b,c,d,e,f,g⟩,λ⟨x,a,b,c,d,e,f,g⟩=>⟨a,b,c,d,e,⟨x,f⟩,g⟩⟩
def pu(p:Prop):aG:=λ_=>p
theorem Ya{p:Prop}{L:List aG}{h:Hp}:aL (pu p::L) h↔p/\aL L h:=
 ⟨λ⟨d,e,f,g,a,b,c⟩=>⟨b,mN c a⟩,λ⟨hp,a⟩=>⟨λ_=>none,h,λ_=>.inl rfl,λ_ _ h=>(nomatch h),sZ,hp,a⟩⟩
def blk(b:Nat)(o:Obj):aG:=λh=>h b=some o
def one(b:Nat)(o:Obj):Hp:=λk=>if k=b then some o else none
theorem Px(b:Nat)(o:Obj):one b o b=some o:=by simp[one]
theorem K9{b:Nat}{o:Obj}{L:List aG}{h:Hp}:aL (blk b o::L) h->h b=some o
 |⟨h1,h2,d,s1,s2,ha,hl⟩=>s1 _ _ ha
theorem sJ{b:Nat}{o o':Obj}{L:List aG}{h h':Hp}(hs:aL (blk b o::L) h)(h0:∀k,k≠b->h' k=h k)(h1:h' b=some o'):aL (blk b o'::L) h':=by
  obtain⟨g1,g2,d,s1,s2,ha,hl⟩:=hs
  have hb : g2 b = none := by rcases d b with h|h;· rw[show g1 b=some o from ha] at h;grind
                              omega
  refine⟨one b o',g2,λk=>?_,λk x hk=>?_,λk x hk=>?_,Px b o',hl⟩
  · grind[one]
  · simp_all[one]
  · have hk':k≠b:=λe=>η
    rw[h0 k hk'];exact s2 k x hk
theorem K_{b:Nat}{o:Obj}{L:List aG}{h h':Hp}(a:aL L h)(e:h b=none)(h0:∀k,k≠b->h' k=h k)(f:h' b=some o):aL (blk b o::L) h':=by
 refine⟨one b o,h,λk=>?_,λk c d=>?_,λk c d=>?_,Px b o,a⟩
 ·grind[one]
 ·simp_all[one]
 grind
def has(h0:Hp):aG:=λh=>sub h0 h
theorem pQ{h0:Hp}{L:List aG}{h:Hp}:aL (has h0::L) h->sub h0 h
 |⟨h1,h2,d,s1,s2,ha,hl⟩=>sub.trans ha s1
def W(w:ga)(L:List aG):Prop:=aL L (hp w)
def tX:List aG->Nat->aG
 |[],_=>pu True
 |A::_,0=>A
 |_::L,n+1=>tX L n
section
variable{w w':ga}{L:List aG}{A B:aG}
theorem W.perm{L':List aG}(h:W w L)(p:L.Perm L'):W w L':=Sz p h
theorem W.swap{L:List aG}{A B:aG}(h:W w (A::B::L)):W w (B::A::L):=vp h
theorem W.Py{L:List aG}{A B C:aG}(h:W w (A::B::C::L)):W w (C::A::B::L):=vp (x_ (λ_=>vp) h)
theorem W.tail(h:W w (A::L)):W w L:=ay h
theorem W.head(h:W w (A::L))(a:∀h,A h->B h):W w (B::L):=Sy a h
theorem W.flat{M:List aG}:W w (aT M::L)↔W w (M++L):=pZ
theorem W.ex{α:Type}{A:α->aG}:W w (Proofs.YtaoaemnefghnbaaGreatDoor.ex A::L)↔∃x,W w (A x::L):=X_
theorem W.pu{p:Prop}:W w (Proofs.YtaoaemnefghnbaaGreatDoor.pu p::L)↔p/\W w L:=Ya
theorem W.get{b:Nat}{o:Obj}(h:W w (blk b o::L)):w.heap[b]? =some o:=tW (K9 h)
theorem W.has{h0:Hp}(h:W w (Proofs.YtaoaemnefghnbaaGreatDoor.has h0::L)):sub h0 (hp w):=pQ h
theorem W.push(h:W w L)(o:Obj)(a:Pw o=true:=by rfl):W { w with heap:=w.heap.push o } (blk w.heap.size o::L):=
 K_ h (BU<|gP _) (λb c=>by grind[hp]) (by grind[hp,IJ])
theorem W.setObj{b:Nat}{o:Obj}(h:W w (blk b o::L))(o':Obj)(c:Pw o'=true:=by rfl):W { w with heap:=w.heap.setIfInBounds b o' } (blk b o'::L):=by
 have d:=(sk.1 h.get).1;exact sJ h (λe a=>by simp[hp,Array.getElem?_setIfInBounds_ne<|Ne.symm a]) (by simp_all[hp,IJ])
theorem W.eq(h:W w L)(a:hp w'=hp w):W w' L:=by simp_all[W]
theorem W.same(h:W w L)(a:w'.heap=w.heap):W w' L:=h.eq (by grind[hp])
theorem W.setCell{b:Nat}{c:Array ah}{e:aC}{a:Nat×Nat}(h:W w (blk b (.cells c e a)::L))(i:Nat)(v:ah):
  W (w.setCell ⟨b,i,none⟩ v) (blk b (.cells (c.setIfInBounds i v) e a)::L):=by
 have d:=h.get
 refine sJ h (λf g=>?_) ?_
 ·simp only[hp,World.setCell,tL];grind
 simp_all[hp,World.setCell,tL,Sx]
theorem Yb(w:ga)(d:Option (List Deferred)):hp { w with heap:=w.heap.push (.deferred d) }=hp w:=by grind[hp,Sx]
theorem BW{w:ga}{D:Nat}{d a:Option (List Deferred)}(h:w.heap[D]? =some (.deferred d)):hp { w with heap:=w.heap.setIfInBounds D (.deferred a) }=hp w:=by
 funext b
 simp only[hp]
 by_cases c:b=D
 ·subst c;rw[Array.getElem?_setIfInBounds_self_of_lt (sk.1 h).1,h];rfl
 grind
theorem cO(h:hp w'=hp w)(a:vP):w'.cell? a=w.cell? a:=by
 have b:=congrFun h a.block;simp only[hp] at b;unfold World.cell?;cases c:w'.heap[a.block]? with
 |none=>
  rw[c] at b;cases d:w.heap[a.block]? with
  |none=>rfl
  |some e=>rw[d] at b;cases e<;>first|rfl|cases b
 |some d=>
  rw[c] at b;cases e:w.heap[a.block]? with
  |none=>rw[e] at b;cases d<;>first|rfl|cases b
  |some f=>rw[e] at b;cases d<;>cases f<;>first|rfl|(cases b;rfl)|cases b
theorem Pz(h:hp w'=hp w)(a:vP):∀(n i:Nat),iA w' a i n=iA w a i n
 |0,i=>rfl
 |n+1,i=>by simp only[iA,cO h,Pz h a n]
end
def kx:IntKind->Nat
 |.i8=>0|.i16=>1|.i32=>2|.i64=>3|.u8=>4|.u16=>5|.u32=>6|.u64=>7
theorem Yc{a b:IntKind}(h:Nat.beq (kx a) (kx b)=true):a=b:=by
 have:=rm h;cases a<;>cases b<;>simp_all[kx]
def PB(wd:Bool)(k:IntKind)(z:Int)(a:ah->Prop):Prop:=
 match k with
 |.i64=>(match wd with|true=>a (.int .i64 (BT z))|false=>K z/\a (.int .i64 z))
 |k=>a (.int k (k.wrap z))
def p8(op:BinOp)(k:IntKind)(x y:Int):Int:=
 match op with
 |.and=>k.wrap ((BitVec.ofInt k.bits x)&&& (BitVec.ofInt k.bits y)).toNat
 |.or=>k.wrap ((BitVec.ofInt k.bits x)|||(BitVec.ofInt k.bits y)).toNat
 |.xor=>k.wrap ((BitVec.ofInt k.bits x)^^^(BitVec.ofInt k.bits y)).toNat
 |_=>k.wrap ((BitVec.ofInt k.bits x)&&& ~~~(BitVec.ofInt k.bits y)).toNat
def Yd(k:IntKind)(a b:Int):Int:=k.wrap (a*2^(min b.toNat k.bits))
def bj(k:IntKind)(a b:Int):Int:=a.fdiv (2^(min b.toNat k.bits))
abbrev mD(a:Int):Int:=bj .u64 (IntKind.wrap .u64 a) 1
def nz(b:Int):Prop:=b≠0
def ns(b:Int):Prop:=0<=b
def Nq(i:Int)(n:Nat):Prop:=0<=i/\i<n
def qT(l c:Int)(b:Nat):Prop:=0<=l/\l=c/\b*l<=140737488355328
def Ye(wd:Bool)(op:BinOp)(k:IntKind)(a b:Int)(K:ah->Prop):Prop:=
 match op with
 |.add=>PB wd k (a+b) K
 |.sub=>PB wd k (a-b) K
 |.mul=>PB wd k (a*b) K
 |.quo=>nz b/\PB false k (a.tdiv b) K
 |.rem=>nz b/\K (.int k (a.tmod b))
 |.and=>K (.int k (p8 .and k a b))
 |.or=>K (.int k (p8 .or k a b))
 |.xor=>K (.int k (p8 .xor k a b))
 |.andNot=>K (.int k (p8 .andNot k a b))
 |.eql=>K (.bool (a==b))
 |.neq=>K (.bool (a !=b))
 |.lss=>K (.bool (decide (a<b)))
 |.leq=>K (.bool (decide (a<=b)))
 |.gtr=>K (.bool (decide (b<a)))
 |.geq=>K (.bool (decide (b<=a)))
 |.shl=>ns b/\K (.int k (Yd k a b))
 |.shr=>ns b/\K (.int k (bj k a b))
def Nr:BinOp->Bool
 |.shl|.shr=>true
 |_=>false
def Yf(op:BinOp)(x y:vS)(K:ah->Prop):Prop:=
 match op with
 |.add=>(x.size:Int)+y.size<=9223372036854775807/\K (.string (x++y))
 |.eql=>K (.bool (x.toList==y.toList))
 |.neq=>K (.bool (!(x.toList==y.toList)))
 |.lss=>K (.bool (Op.bytesLess x.toList y.toList))
 |.leq=>K (.bool (Op.bytesLess x.toList y.toList||x.toList==y.toList))
 |.gtr=>K (.bool (!(Op.bytesLess x.toList y.toList||x.toList==y.toList)))
 |.geq=>K (.bool (!Op.bytesLess x.toList y.toList))
 |_=>False
def pg(op:BinOp)(t:Bool)(K:ah->Prop):Prop:=
 match op with
 |.eql=>K (.bool t)
 |.neq=>K (.bool (!t))
 |_=>False
def ai(Ty:aC->Option dL)(t:aC):Kd:=match Ty t with|some i=>i.kd|none=>.other
def B0(Ty:aC->Option dL)(t:aC):Bool:=match Ty t with|some i=>(match i.cmp with|true=>false|false=>true)|none=>false
def L7(Ty:aC->Option dL)(t:aC):Option Nat:=match Ty t with|some i=>some i.size|none=>none
def xG:Kd->Bool
 |.ptr _=>true
 |_=>false
def Ur:Kd->Bool
 |.slice _=>true
 |_=>false
def xI:Kd->Bool
 |.map ..=>true
 |_=>false
def sK(op:BinOp)(t:aC)(xo yo:St)(x y:ah):Sem ah:=do eqGuard op t xo yo x y;Go.binOp op t x y
def vW(op:BinOp)(t:Bool)(K:Bool->Prop):Prop:=
 match op with
 |.eql=>K t
 |.neq=>K (!t)
 |_=>False
def vY(Ty:aC->Option dL)(rs:Sem ah->(ah->Prop)->Prop)(op:BinOp)(t:aC)(xo yo:St)(a b:E)(K:Bool->Prop):Prop:=
 match b with
 |none=>bif xG (ai Ty t) then vW op a.isNone K else False
 |some b=>rs (sK op t xo yo (.pointer a) (.pointer (some b))) λv=>∃q,v=.bool q/\K q
def v7(Ty:aC->Option dL)(rs:Sem ah->(ah->Prop)->Prop)(op:BinOp)(t:aC)(xo yo:St)(x y:ah)(K:ah->Prop):Prop:=
 match x,y with
 |.int k a,.int k' b=>bif Nr op||Nat.beq (kx k) (kx k') then Ye (B0 Ty t) op k a b K else False
 |.string a,.string b=>Yf op a b K
 |.bool a,.bool b=>(match ai Ty t with|.bool=>pg op (a==b) K|_=>False)
 |.pointer a,.pointer b=>vY Ty rs op t xo yo a b λq=>K (.bool q)
 |.slice a _ _,.slice none _ _=>bif Ur (ai Ty t) then pg op a.isNone K else False
 |.func (.func _) _ _,.nilFunc=>(match ai Ty t with|.func=>pg op false K|_=>False)
 |.map a,.map none=>bif xI (ai Ty t) then pg op a.isNone K else False
 |x,y=>rs (sK op t xo yo x y) λv=>∃b,v=.bool b/\K (.bool b)
def PC:Ay->Ay->Ay
 |[],m=>m
 |x::l,m=>x::PC l m
theorem Ig:∀l m,PC l m=l++m
 |[],_=>rfl
 |x::l,m=>by simp[PC,Ig l m]
def L8:Nat->Ay->Ay
 |0,_=>[]
 |n+1,z=>PC z (L8 n z)
def ir:Nat->Ay->Ay
 |0,_=>[]
 |n+1,z=>z++ir n z
def ud(cells:Ay)(off:Nat):Ay->Ay
 |[]=>cells
 |v::l=>ud (Sw cells off v) (off+1) l
def C7(place:Nat->Option (Nat×Nat))(cells:Ay):List (Nat×ah)->Option Ay
 |[]=>some cells
 |(i,v)::rest=>
  match place i with
  |none=>none
  |some (off,size)=>bif GN (cellsOf v) size&&vQ (off+size) cells then C7 place (ud cells off (cellsOf v)) rest else none
def Yg(o:Option Ay)(k:Ay->Prop):Prop:=match o with|some l=>k l|none=>False
def GO(fr:Fr):List (Nat×St)->List (Nat×ah)
 |[]=>[]
 |(i,x)::l=>(i,ev fr x)::GO fr l
def IK(fs:List (Nat×Nat×Bool))(i:Nat):Option (Nat×Nat):=match fs[i]? with|some (o,s,_)=>some (o,s)|none=>none
def v8(ad:vP)(n:Nat):vP:=bif Nat.beq n 0 then ad else ad.add n
theorem B1(a:vP)(n:Nat):v8 a n=a.add n:=by simp_all[v8,Addr.add]
def ew(i:Nat):Nat->Nat
 |1=>i
 |sz=>i*sz
theorem bh(i sz:Nat):ew i sz=i*sz:=by grind[ew]
def M(a:E)(len:Nat)(i:Int)(sz:Nat)(k:vP->Prop):Prop:=
 ∃ad,a=some ad/\0<=i/\i<len/\k (ad.add (ew i.toNat sz))
def sb(s:vS)(n:Nat):UInt8:=(s.data[n]?).getD 0
def f_(a:E)(l m sz:Nat):E:=if m=l then a else a.map (·.add (ew l sz))
def mA(a:E)(len cap:Nat)(lo hi mx:Option Int)(sz:Nat)(k:E->Nat->Nat->Prop):Prop:=
 let m:Int:=mx.getD cap
 let h:Int:=hi.getD len
 let l:Int:=lo.getD 0
 (mx=none\/(hi≠none/\0<=m/\m<=cap))/\(hi=none\/(0<=h/\h<=m))/\(0<=l/\l<=h)/\
  k (f_ a l.toNat m.toNat sz) (h.toNat-l.toNat) (m.toNat-l.toNat)
def xK(s:vS)(lo hi:Option Int)(k:vS->Prop):Prop:=
 let h:Int:=hi.getD s.size
 let l:Int:=lo.getD 0
 (hi=none\/(0<=h/\h<=s.size))/\(0<=l/\l<=h)/\k (s.extract l.toNat h.toNat)
def Ut(fr:Fr)(x:Option St)(k:Option Int->Prop):Prop:=
 match x with
 |none=>k none
 |some x=>match ev fr x with
  |.int _ n=>k (some n)
  |_=>False
def xP(l c:Int)(i:dL)(e:aC)(w:ga)(k:ah->ga->Prop):Prop:=
 match i.zero with
 |some z=>qT l c i.bytes/\new w (.cells ⟨ir l.toNat (cellsOf z)⟩ e) λb w'=>k (.slice (some ⟨b,0,none⟩) l.toNat l.toNat) w'
 |none=>False
def v_(P:iI)(E:ga->ga->Prop)(l:Nat)(args:Ay)(w:ga)(R:ah->ga->Prop):Prop:=
 ∃a b c d,(Instr.yield l ⟨args⟩).run P w=.ok (.round l a b c d) w/\
  RoundIn Fence.wide 0 P l a b c d w λa b=>∃c,a=.returned c/\E w b/\R c b
def xR(v:ah)(i:Nat)(k:ah->Prop):Prop:=
 match v with
 |.tuple vs=>(match vs.toList[i]? with|some u=>k u|none=>False)
 |_=>False
def xT(v:ah)(f:Option (Nat×Nat×Bool))(k:ah->Prop):Prop:=
 match v,f with
 |.agg cs,some (o,s,true)=>k (.agg ⟨(cs.toList.drop o).take s⟩)
 |.agg cs,some (o,_,false)=>(match cs.toList[o]? with|some u=>k u|none=>False)
 |_,_=>False
def xU(v:ah)(sh:Sh)(k:ah->Prop):Prop:=
 (v=.tuple #[.bool false]/\k (.tuple #[.bool false]))\/(match sh with
  |.tup (_::l)=>pb l λus=>v=.tuple ⟨.bool true::us⟩/\k (.tuple ⟨.bool true::us⟩)
  |.tup []=>∃(n:Int)(u:ah),v=.tuple ⟨[.bool true,.int .i64 n,u]⟩/\k (.tuple ⟨[.bool true,.int .i64 n,u]⟩)
  |_=>False)
def wg(v:ah)(sh:Sh)(k:ah->Prop):Prop:=
 match sh with
 |.tup []=>∃(n:Int)(u:ah),v=.tuple ⟨[.int .i64 n,u]⟩/\k (.tuple ⟨[.int .i64 n,u]⟩)
 |.tup l=>pb l λus=>v=.tuple ⟨us⟩/\k (.tuple ⟨us⟩)
 |_=>False
def Hj(first args cap:Ay):Ay:=PC first (PC args cap)
theorem Ns(f a c:Ay):Hj f a c=f++a++c:=by simp[Hj,Ig]
def p9:Bool->Prop->Prop
 |true,p=>p
 |false,_=>False
theorem bn{c:Bool}{p:Prop}:p9 c p↔c=true/\p:=by cases c<;>simp[p9]
def xW(d c:Bool)(p q:Prop):Prop:=match d with
 |true=>(match c with|true=>p|false=>q)
 |false=>p9 c p
def B2:St->Bool
 |.func _=>true
 |_=>false
def wi(P:iI)(g:aM)(args:Ay)(w:ga)(R:ah->ga->Prop):Prop:=∃a b,(callFunc g ⟨args⟩).run P w=.ok (.value a) b/\Ev w b/\R a b
def Yh(P:iI)(Fn:aM->Bool)(E:ga->ga->Prop)(f:ah)(args:Ay)(sh:Sh)(w:ga)(K:ah->ga->Prop)(d:Bool):Prop:=
 match f with
 |.func (.func g) first cap=>xW d (Fn g) (jm P E g (Hj first.toList args cap.toList) w λv w'=>sh.is v λu=>K u w') (wi P g (Hj first.toList args cap.toList) w λv w'=>sh.is v λu=>K u w')
 |.func (.yield l) first _=>v_ P E l (PC first.toList args) w λv w'=>sh.is v λu=>K u w'
 |_=>False
def B4(P:iI)(E:ga->ga->Prop)(r:ah)(m:String)(args:Ay)(sh:Sh)(w:ga)(K:ah->ga->Prop):Prop:=
 ∃g as,(callMethod r m ⟨args⟩).run P w=.ok (.enter g ⟨as⟩) w/\jm P E g as w λv w'=>sh.is v λu=>K u w'
def wm(P:iI)(w:ga)(s:Sem ah)(k:ah->Prop):Prop:=∃v,s.run P w=.ok v w/\k v
def B9(P:iI)(C:ga->Prop)(s:Sem ah)(k:ah->Prop):Prop:=∃v,(∀w,C w->s.run P w=.ok v w)/\k v
def wu(C:ga->Prop)(a:vP)(i:dL)(k:ah->Prop):Prop:=
 match i.zero with
 |none=>False
 |some z=>match i.kd.isAgg,S1.of z with
  |true,.agg l=>rB l λvs=>(∀w,C w->iA w a 0 i.size=some vs)/\k (.agg ⟨vs⟩)
  |false,.one c=>c.ex λv=>(∀w,C w->w.cell? a=some v)/\k v
  |_,_=>False
def Uu:Kd->Bool|.int _=>true|_=>false
def x5(b:Bool)(rs:Sem ah->(ah->Prop)->Prop):Sem ah->(ah->Prop)->Prop:=match b with|true=>λ_ _=>False|false=>rs
def ya(P:iI)(Ty:aC->Option dL)(ld:vP->dL->(ah->Prop)->Prop)(rs:Sem ah->(ah->Prop)->Prop)(o:vB)(fr:Fr)(K:ah->Prop):Prop:=
 match o.op with
 |.move x=>K (ev fr x)
 |.assign x=>K (ev fr x)
 |.pick c a b=>(match ev fr c with|.bool t=>K (match t with|true=>ev fr a|false=>ev fr b)|_=>False)
 |.build t ps=>(match Ty t with
  |some i=>(match i.zero,i.kd with
   |some z,.struct=>Yg (C7 (IK i.flds) (cellsOf z) (GO fr ps.toList)) λcs=>K (.agg ⟨cs⟩)
   |some z,.array _ e=>(match L7 Ty e with|some s=>Yg (C7 (λk=>some (k*s,s)) (cellsOf z) (GO fr ps.toList)) λcs=>K (.agg ⟨cs⟩)|none=>False)
   |_,_=>False)
  |none=>False)
 |.load t x=>(match ev fr x,Ty t with
  |.pointer a,some i=>nn a λad=>ld ad i K
  |_,_=>False)
 |.nilCheck x=>(match ev fr x with
  |.pointer a=>nn a λad=>K (.pointer (some ad))
  |.func (.func f) first cap=>K (.func (.func f) first cap)
  |.func (.yield f) first cap=>K (.func (.yield f) first cap)
  |.iface t v=>K (.iface t v)
  |_=>False)
 |.binOp op t x y _=>v7 Ty (x5 (Uu (ai Ty t)) rs) op t x y (ev fr x) (ev fr y) K
 |.unOp op _ x=>(match op,ev fr x with
  |.not,.bool b=>K (.bool (!b))
  |.neg,.int k n=>PB false k (0-n) K
  |.xor,.int k n=>K (.int k (p8 .xor k (if k.signed then-1 else k.max) n))
  |_,_=>False)
 |.convert s d x=>(match ai Ty s,ai Ty d,ev fr x with
  |.int _,.int k,.int _ n=>PB false k n K
  |.string,.string,.string s=>K (.string s)
  |_,_,_=>False)
 |.makeInterface t x=>(match Ty t with|some i=>(match i.kd with|.iface=>False|_=>K (.iface t (ev fr x)))|none=>False)
 |.makeFunc fn first cap=>K (.func fn ⟨oz fr first.toList⟩ ⟨oz fr cap.toList⟩)
 |.slice t x lo hi mx=>(match ai Ty t,ev fr x with
  |.slice e,.slice a len cap=>(match L7 Ty e with
   |some sz=>Ut fr lo λlo=>Ut fr hi λhi=>Ut fr mx λmx=>mA a len cap lo hi mx sz λa l c=>K (.slice a l c)
   |none=>False)
  |.string,.string s=>(match mx with|none=>Ut fr lo λlo=>Ut fr hi λhi=>xK s lo hi λs=>K (.string s)|some _=>False)
  |_,_=>False)
 |.fieldAddr s x f=>(match Ty s,ev fr x with
  |some i,.pointer a=>(match i.kd,i.flds[f]? with
   |.struct,some (off,sz,_)=>bif Nat.ble 1 sz then nn a λad=>K (.pointer (some (v8 ad off))) else False
   |_,_=>False)
  |_,_=>False)
 |.field t x f=>(match Ty t with
  |some i=>(match i.kd with|.struct=>xT (ev fr x) (i.flds[f]?) K|_=>False)
  |none=>False)
 |.indexAddr t x ix=>(match ai Ty t,ev fr x,ev fr ix with
  |.slice e,.slice a len cap,.int _ i=>(match L7 Ty e with|some sz=>M a len i sz λad=>K (.pointer (some ad))|none=>False)
  |.array n e,.pointer a,.int _ i=>(match L7 Ty e with|some sz=>M a n i sz λad=>K (.pointer (some ad))|none=>False)
  |_,_,_=>False)
 |.index t x ix=>(match ai Ty t,ev fr x,ev fr ix with
  |.string,.string s,.int _ i=>Nq i s.size/\K (.int .u8 (sb s i.toNat).toNat)
  |_,x,y=>rs (Instr.index t x y) λv=>(Sk Ty o.type).is v K)
 |.extract t i=>xR (ev fr t) i K
 |.call c=>(match c.callee,oz fr c.args.toList with
  |.builtin .len,[.slice a l cap]=>(match c.argTypes.toList with|t::_=>bif Ur (ai Ty t) then K (.int .i64 l) else False|_=>False)
  |.builtin .len,[.string s]=>(match c.argTypes.toList with|t::_=>(match ai Ty t with|.string=>K (.int .i64 s.size)|_=>False)|_=>False)
  |.builtin .len,args=>rs (Builtin.len_ c.argTypes o.type ⟨args⟩) λv=>(Sk Ty o.type).is v K
  |.builtin .min,[.int k a,.int _ b]=>K (.int k (if b<a then b else a))
  |.builtin .max,[.int k a,.int _ b]=>K (.int k (if a<b then b else a))
  |_,_=>False)
 |_=>False
def ia(Ty:aC->Option dL)(o:vB):Bool:=
 match o.op with
 |.move _|.assign _|.pick .. |.build .. |.load .. |.nilCheck _|.binOp .. |.unOp .. |.makeInterface .. |.makeFunc .. |.slice .. |.fieldAddr .. |.field .. |.indexAddr .. |.index .. |.extract ..=>true
 |.convert s d _=>(match ai Ty s,ai Ty d with
  |.int _,.int _=>true
  |.string,.string=>true
  |_,_=>false)
 |.call c=>(match c.callee with
  |.builtin .len|.builtin .min|.builtin .max=>true
  |_=>false)
 |_=>false
def x6(P:iI)(Ty:aC->Option dL)(b:Builtin)(tys:Array aC)(ty:aC)(args:Ay)(w:ga)(K:ah->ga->Prop):Prop:=
 match b with
 |.append=>bg P (Builtin.append_ tys ty ⟨args⟩) w λv w'=>(Sk Ty ty).is v λu=>K u w'
 |.copy=>bg P (Builtin.copy_ tys ty ⟨args⟩) w λv w'=>(Sk Ty ty).is v λu=>K u w'
 |.delete=>bg P (Builtin.delete_ tys ty ⟨args⟩) w λv w'=>K v w'
 |.clear=>bg P (Builtin.clear_ tys ty ⟨args⟩) w λv w'=>K v w'
 |.cap=>bg P (Builtin.cap_ tys ty ⟨args⟩) w λv w'=>(Sk Ty ty).is v λu=>K u w'
 |.unsafeSliceData=>bg P (Builtin.unsafeSliceData_ tys ty ⟨args⟩) w λv w'=>(Sk Ty ty).is v λu=>K u w'
 |.unsafeString=>bg P (Builtin.unsafeString_ tys ty ⟨args⟩) w λv w'=>(Sk Ty ty).is v λu=>K u w'
 |_=>False
def B_(Ty:aC->Option dL)(t:aC):Sh:=match ai Ty t with
 |.map _ e=>(match Sk Ty e with|.s s=>.tup [s,.one (.int .i64)]|h=>h)
 |_=>.s (.one .val)
def Yi(P:iI)(Ty:aC->Option dL)(Fn:aM->Bool)(E:ga->ga->Prop)(o:vB)(fr:Fr)(w:ga)(K:ah->ga->Prop):Prop:=
 match o.op with
 |.alloc t=>(match Ty t with
  |some i=>(match i.zero with|some z=>new w (.cells ⟨cellsOf z⟩ t) λb w'=>K (.pointer (some ⟨b,0,none⟩)) w'|none=>False)
  |none=>False)
 |.box t x=>new w (.cells ⟨cellsOf (ev fr x)⟩ t) λb w'=>K (.pointer (some ⟨b,0,none⟩)) w'
 |.buildSlice t n ps=>(match ai Ty t with
  |.slice e=>(match Ty e with
   |some i=>(match i.zero with
    |some z=>bif GN (cellsOf z) i.size&&(Nat.ble n 4096&&Nat.ble i.size 4096)&&Nat.ble 1 i.size then Yg (C7 (λk=>some (k*i.size,i.size)) (L8 n (cellsOf z)) (GO fr ps.toList)) λcs=>new w (.cells ⟨cs⟩ e) λb w'=>K (.slice (some ⟨b,0,none⟩) n n) w' else False
    |none=>False)
   |none=>False)
  |_=>False)
 |.store t a x=>(match ev fr a,Ty t with
  |.pointer a,some i=>nn a λad=>vV w ad i (ev fr x) λw'=>K undef w'
  |_,_=>False)
 |.convert s d x=>bg P (Go.convert s d (ev fr x)) w λv w'=>(Sk Ty d).is v λu=>K u w'
 |.makeMap t none=>new w (.map #[] 0) λb w'=>K (.map (some b)) w'
 |.makeSlice t l c=>(match ai Ty t with
  |.slice e=>(match Ty e,ev fr l,ev fr c with
   |some i,.int _ l,.int _ c=>bif (match i.zero with|some z=>GN (cellsOf z) i.size|none=>false)&&Nat.ble 1 i.bytes&&Nat.ble 1 i.size then xP l c i e w K else False
   |_,_,_=>False)
  |_=>False)
 |.lookup t m k ok=>bg P (Instr.lookup t (ev fr m) (ev fr k) ok) w λv w'=>(Sk Ty o.type).is v λu=>K u w'
 |.mapUpdate t m k x=>bg P (Instr.mapUpdate t (ev fr m) (ev fr k) (ev fr x)) w λ_ w'=>K undef w'
 |.insert t m k x=>bg P (Instr.mapUpdate t (ev fr m) (ev fr k) (ev fr x)) w λ_ w'=>K undef w'
 |.mapEntry t m k=>bg P (Instr.mapEntry t (ev fr m) (ev fr k)) w λv w'=>(B_ Ty t).is v λu=>K u w'
 |.entryStore t m s x=>bg P (Instr.entryStore t (ev fr m) (ev fr s) (ev fr x)) w λ_ w'=>K undef w'
 |.range t x=>bg P (Instr.range t (ev fr x)) w λv w'=>(Sh.s (.one .ptr)).is v λu=>K u w'
 |.next it isS=>bg P (Instr.next (ev fr it) isS o.type) w λv w'=>xU v (match isS with|true=>.tup [.one .bool,.one (.int .i64),.one (.int .i32)]|false=>Sk Ty o.type) λu=>K u w'
 |.entry it=>bg P (Instr.entry (ev fr it)) w λv w'=>wg v (Sk Ty o.type) λu=>K u w'
 |.typeAssert x t u ok=>bg P (Instr.typeAssert (ev fr x) t u ok) w λv w'=>(Sk Ty o.type).is v λu=>K u w'
 |.call c=>(match c.callee with
  |.builtin b=>x6 P Ty b c.argTypes o.type (oz fr c.args.toList) w K
  |.value f=>Yh P Fn E (ev fr f) (oz fr c.args.toList) (Sk Ty o.type) w K (B2 f)
  |.invoke r m=>B4 P E (ev fr r) m (oz fr c.args.toList) (Sk Ty o.type) w K)
 |_=>False
def PD(P:iI)(Ty:aC->Option dL)(Fn:aM->Bool)(E:ga->ga->Prop)(o:vB)(fr:Fr)(w:ga)(K:ah->ga->Prop):Prop:=
 bif ia Ty o then ya P Ty (rD w) (wm P w) o fr λv=>K v w else Yi P Ty Fn E o fr w K
def Cs.arr:Cs->Type->Type
 |.int _,β=>Int->β
 |.bool,β=>Bool->β
 |.str,β=>vS->β
 |.slice,β=>E->Nat->Nat->β
 |.ptr,β=>E->β
 |.map,β=>Option Nat->β
 |.fn,β=>aM->Ay->β
 |.val,β=>ah->β
 |.ifc,β=>aC->ah->β
def Wl:List Cs->Type->Type
 |[],β=>β
 |c::l,β=>c.arr (Wl l β)
def S1.arr:S1->Type->Type
 |.one c,β=>c.arr β
 |.agg l,β=>Wl l β
def IL:List S1->Type->Type
 |[],β=>β
 |c::l,β=>c.arr (IL l β)
def Cs.cst:(c:Cs)->{β:Type}->β->c.arr β
 |.int _,_,b=>λ_=>b
 |.bool,_,b=>λ_=>b
 |.str,_,b=>λ_=>b
 |.slice,_,b=>λ_ _ _=>b
 |.ptr,_,b=>λ_=>b
 |.map,_,b=>λ_=>b
 |.fn,_,b=>λ_ _=>b
 |.val,_,b=>λ_=>b
 |.ifc,_,b=>λ_ _=>b
def SA:(l:List Cs)->{β:Type}->β->Wl l β
 |[],_,b=>b
 |c::l,_,b=>c.cst (SA l b)
def S1.cst:(c:S1)->{β:Type}->β->c.arr β
 |.one c,_,b=>c.cst b
 |.agg l,_,b=>SA l b
def Wm:(l:List S1)->{β:Type}->β->IL l β
 |[],_,b=>b
 |c::l,_,b=>c.cst (Wm l b)
def Cs.ap:(c:Cs)->{β:Type}->c.arr β->ah->β->β
 |.int k,_,f,.int k' n,d=>bif Nat.beq (kx k) (kx k') then f n else d
 |.bool,_,f,.bool b,_=>f b
 |.str,_,f,.string s,_=>f s
 |.slice,_,f,.slice a l c,_=>f a l c
 |.ptr,_,f,.pointer a,_=>f a
 |.map,_,f,.map r,_=>f r
 |.fn,_,f,.func (.func g) ⟨[]⟩ ⟨c⟩,_=>f g c
 |.val,_,f,v,_=>f v
 |.ifc,_,f,.iface t v,_=>f t v
 |_,_,_,_,d=>d
def rF:(l:List Cs)->{β:Type}->Wl l β->Ay->β->β
 |[],_,f,[],_=>f
 |c::l,_,f,v::vs,d=>rF l (c.ap f v (SA l d)) vs d
 |_,_,_,_,d=>d
def S1.ap:(c:S1)->{β:Type}->c.arr β->ah->β->β
 |.one c,_,f,v,d=>c.ap f v d
 |.agg l,_,f,.agg cs,d=>rF l f cs.toList d
 |_,_,_,_,d=>d
def L9:(l:List S1)->{β:Type}->IL l β->Ay->β->β
 |[],_,f,[],_=>f
 |c::l,_,f,v::vs,d=>L9 l (c.ap f v (Wm l d)) vs d
 |_,_,_,_,d=>d
def PE:List S1->(Ay->Prop)->Prop
 |[],p=>p []
 |c::l,p=>c.all λv=>PE l λvs=>p (v::vs)
def lJ:List vB->A0
 |[]=>[]
 |o::l=>match o.dst with|some d=>d::lJ l|none=>lJ l
def SB:A0->A0->A0
 |[],m=>m
 |x::l,m=>x::SB l m
def tT:Code->A0
 |.region _ ops _=>lJ ops.toList
 |.seq a b=>SB (tT a) (tT b)
 |.cond _ a b=>SB (tT a) (tT b)
 |.block _ a=>tT a
 |.loop a=>tT a
 |.scope a=>tT a
 |_=>[]
def wN(n:Nat)(d:Nat->ah):A0->Fr->Fr
 |[],fr=>fr
 |s::l,fr=>wN n d l (put n fr (some s) (d s))
def yb(fr:Fr):List (Nat×S1)->Ay
 |[]=>[]
 |(s,_)::l=>fG fr s::yb fr l
def qU(n:Nat)(fr:Fr):List (Nat×S1)->Ay->Fr
 |(s,_)::l,v::vs=>qU n (put n fr (some s) v) l vs
 |_,_=>fr
def C0:List (Nat×S1)->List S1
 |[]=>[]
 |(_,s)::l=>s::C0 l
structure a_ where
 loops:List (Nat×List (Nat×S1)):=[]
 joins:List (Nat×List (Nat×S1)):=[]
 blocks:List (Nat×List (Nat×S1)):=[]
 rngs:List (Nat×List (Nat×S1)):=[]
def look(k:Nat):List (Nat×List (Nat×S1))->Option (List (Nat×S1))
 |[]=>none
 |(j,x)::l=>bif Nat.beq j k then some x else look k l
def sO:Code->Option Nat
 |.region i _ _=>some i
 |.seq a b=>(match sO a with|some i=>some i|none=>sO b)
 |.cond _ a b=>(match sO a with|some i=>some i|none=>sO b)
 |.block _ a=>sO a
 |.loop a=>sO a
 |.scope a=>sO a
 |_=>none
def Yj(k:Option Nat)(l:List (Nat×List (Nat×S1))):Option (List (Nat×S1)):=match k with|some k=>look k l|none=>none
def Yk:List vB->Nat->Option vB
 |[],_=>none
 |o::_,0=>some o
 |_::l,n+1=>Yk l n
def GP(all:List vB)(j:Nat):Option Tmp:=match Yk all j with|some o=>o.dst|none=>none
def Uv:Bool->Bool->Bool
 |true,true=>true
 |false,false=>true
 |_,_=>false
def PF(all:List vB)(fr:Fr)(o:vB)(yes no:Prop):Prop:=
 match o.guard with
 |none=>yes
 |some (j,t)=>match GP all j with
  |some d=>(match fG fr d with|.bool b=>bif Uv b t then yes else no|_=>no)
  |none=>no
def Yl:List vB->Nat->Bool
 |[],_=>false
 |o::l,i=>match o.guard with|some (j,_)=>Nat.beq j i||Yl l i|none=>Yl l i
def IM(g:Bool)(v:ah)(k:ah->Prop):Prop:=
 match g,v with
 |true,.bool b=>xD b λb=>k (.bool b)
 |_,v=>k v
def Ca:Op->Bool
 |.entry _=>true
 |_=>false
def uf(Ty:aC->Option dL)(d:Nat)(j:Nat):List vB->S1
 |[]=>.one .val
 |o::l=>match o.op with
  |.extract (.tmp t) i=>(match Nat.beq t d&&Nat.beq i j with
   |true=>(match Sk Ty o.type with|.s x=>x|_=>.one .val)
   |false=>uf Ty d j l)
  |_=>uf Ty d j l
def x7(P:iI)(Ty:aC->Option dL)(all:List vB)(o:vB)(fr:Fr)(w:ga)(K:ah->ga->Prop):Prop:=
 match o.op,o.dst with
 |.entry it,some d=>bg P (Instr.entry (ev fr it)) w λv w'=>pb [uf Ty d 0 all,uf Ty d 1 all] λus=>v=.tuple ⟨us⟩/\K (.tuple ⟨us⟩) w'
 |_,_=>False
section
variable(P:iI)(Ty:aC->Option dL)(Fn:aM->Bool)(E:ga->ga->Prop)(N:Nat)
def wx(all:List vB)(o:vB)(fr:Fr)(w:ga)(K:ah->ga->Prop):Prop:=
 match Ca o.op with
 |true=>x7 P Ty all o fr w K
 |false=>PD P Ty Fn E o fr w K
def EV(all:List vB):Nat->List vB->Fr->ga->(Fr->ga->Prop)->Prop
 |_,[],fr,w,K=>K fr w
 |i,o::l,fr,w,K=>
  PF all fr o (wx P Ty Fn E all o fr w λv w'=>IM (Yl all i) v λv=>EV all (i+1) l (put N fr o.dst v) w' K)
   (EV all (i+1) l (put N fr o.dst undef) w K)
def Ym:At->Nat->Bool
 |[],_=>true
 |b::_,0=>b
 |_::l,n+1=>Ym l n
def Uw:At->Nat->Bool
 |[],_=>false
 |b::_,0=>b
 |_::l,n+1=>Uw l n
def lL:At->Nat->At
 |[],_=>[]
 |_::l,0=>true::l
 |b::l,n+1=>b::lL l n
def IN(ls:At):List Edge->Bool
 |[]=>true
 |e::l=>(match e.ground with|.textOnly _|.gcOnly _=>true|_=>Uw ls e.on)&&IN ls l
def PG(ls:At)(i:Nat)(o:vB):Bool:=!Ym ls i&&IN ls o.after.toList
def j_(Ty:aC->Option dL)(ls:At):Nat->List vB->Option (Nat×vB)
 |_,[]=>none
 |i,o::l=>bif ia Ty o&&PG ls i o then some (i,o) else j_ Ty ls (i+1) l
def gW(ls:At):Nat->List vB->List (Nat×vB)
 |_,[]=>[]
 |i,o::l=>bif PG ls i o then(i,o)::gW ls (i+1) l else gW ls (i+1) l
def Ux(n:Nat):At:=match n with|0=>[]|n+1=>false::Ux n
def yc(x:Nat):A0->Bool
 |[]=>false
 |y::l=>Nat.beq x y||yc x l
def ug:Option St->List St->List St
 |none,l=>l
 |some x,l=>x::l
def uh:List St->List St->List St
 |[],m=>m
 |x::l,m=>x::uh l m
def ui:List (Nat×St)->List St
 |[]=>[]
 |(_,x)::l=>x::ui l
def Yn:Op->List St
 |.move x|.assign x|.box _ x|.load _ x|.nilCheck x|.unOp _ _ x|.convert _ _ x|.makeInterface _ x|.fieldAddr _ x _|.field _ x _|.range _ x|.next x _|.typeAssert x _ _ _|.extract x _=>[x]
 |.pick c a b=>[c,a,b]
 |.build _ ps|.buildSlice _ _ ps=>ui ps.toList
 |.store _ a v|.binOp _ _ a v _|.makeSlice _ a v|.indexAddr _ a v|.index _ a v|.lookup _ a v _|.mapEntry _ a v=>[a,v]
 |.makeFunc _ first cap=>uh first.toList cap.toList
 |.slice _ x l h m=>x::ug l (ug h (ug m []))
 |.mapUpdate _ m k v|.entryStore _ m k v|.insert _ m k v=>[m,k,v]
 |.call c=>(match c.callee with|.value f=>f::c.args.toList|.invoke r _=>r::c.args.toList|.builtin _=>c.args.toList)
 |o=>o.operands.toList
def L_:List St->A0->A0
 |[],m=>m
 |.tmp t::l,m=>t::L_ l m
 |_::l,m=>L_ l m
def looks(all:List vB)(o:vB):A0:=
 L_ (Yn o.op) (match o.guard with|some (g,_)=>(match GP all g with|some d=>[d]|none=>[])|none=>[])
def Nt(d:Option Tmp)(l:A0):Bool:=match d with|some d=>!yc d l|none=>true
def x8(a b:Option Tmp):Bool:=match a,b with|some a,some b=>!Nat.beq a b|_,_=>true
def EW(all:List vB)(x y:vB):Bool:=Nt x.dst (looks all y)&&x8 x.dst y.dst&&Nt y.dst (looks all x)
def nT(i:Nat):List Edge->Bool
 |[]=>false
 |e::l=>(match e.ground with|.textOnly _|.gcOnly _=>false|_=>Nat.beq e.on i)||nT i l
def Uy(all:List vB)(ls:At)(i:Nat)(o:vB):Nat->List vB->Bool
 |_,[]=>true
 |j,p::l=>(Nat.beq j i||Ym ls j||nT i p.after.toList||EW all o p)&&Uy all ls i o (j+1) l
def wz:List (Nat×vB)->(Nat×vB->Prop)->Prop
 |[],_=>True
 |[x],f=>f x
 |x::l,f=>f x/\wz l f
def C8:List Edge->A0->A0
 |[],m=>m
 |e::l,m=>match e.ground with|.textOnly _|.gcOnly _=>C8 l m|_=>e.on::C8 l m
def p7(all:List vB):Nat->A0->A0->A0
 |0,_,done=>done
 |_+1,[],done=>done
 |n+1,j::todo,done=>match yc j done with
  |true=>p7 all n todo done
  |false=>p7 all n (match Yk all j with|some o=>C8 o.after.toList todo|none=>todo) (j::done)
def Ma(Ty:aC->Option dL)(cl:A0):Nat->List vB->Bool
 |_,[]=>false
 |i,o::l=>(ia Ty o&& !yc i cl)||Ma Ty cl (i+1) l
def Cc(Ty:aC->Option dL)(all:List vB)(es:List Edge):Bool:=Ma Ty (p7 all 1000 (C8 es []) []) 0 all
def Nu(Ty:aC->Option dL)(o:vB):Bool:=match o.op with|.move _|.assign _|.indexAddr .. |.fieldAddr ..=>true|.binOp _ t _ _ _=>Uu (ai Ty t)|_=>false
def C_(Ty:aC->Option dL)(o:vB):Bool:=ia Ty o&& !Nu Ty o
def BK(Ty:aC->Option dL)(cl:A0):Nat->List vB->Bool
 |_,[]=>false
 |i,o::l=>(C_ Ty o&& !yc i cl)||BK Ty cl (i+1) l
def IP(Ty:aC->Option dL)(all:List vB)(es:List Edge):Bool:=BK Ty (p7 all 1000 (C8 es []) []) 0 all
def Mb(Ty:aC->Option dL)(all:List vB)(o:vB):Bool:=match o.op with|.store ..=>IP Ty all o.after.toList|_=>Cc Ty all o.after.toList
def Ck(o:vB):Bool:=match o.op with|.load ..=>true|_=>false
def x9(all:List vB)(i:Nat):List vB->Bool
 |[]=>false
 |o::l=>(Ck o&&yc i (p7 all 1000 (C8 o.after.toList []) []))||x9 all i l
def yj(b s:Bool)(C:ga->Prop)(w':ga)(f:(ga->Prop)->Prop):Prop:=
 match b with
 |true=>(match s with|true=>∃C':ga->Prop,C' w'/\(∀w,C' w->C w)/\f C'|false=>C w'/\f C)
 |false=>f C
def GQ(C:ga->Prop)(all:List vB)(K:Fr->ga->Prop):Nat->At->Fr->ga->Prop
 |0,ls,fr,w=>(match gW ls 0 all with|[]=>K fr w|_=>False)
 |n+1,ls,fr,w=>
  match j_ Ty ls 0 all with
  |some (i,o)=>p9 (Uy all ls i o 0 all) (
    PF all fr o (ya P Ty (wu C) (B9 P C) o fr λv=>IM (Yl all i) v λv=>GQ C all K n (lL ls i) (put N fr o.dst v) w)
     (GQ C all K n (lL ls i) (put N fr o.dst undef) w))
  |none=>match gW ls 0 all with
   |[]=>K fr w
   |es=>wz es λx=>
     PF all fr x.2 (Yi P Ty Fn E x.2 fr w λv w'=>IM (Yl all x.1) v λv=>yj (Mb Ty all x.2) (x9 all x.1 all) C w' λC=>GQ C all K n (lL ls x.1) (put N fr x.2.dst v) w')
      (GQ C all K n (lL ls x.1) (put N fr x.2.dst undef) w)
def Uz:List vB->Bool
 |[]=>true
 |o::l=>(match o.op with|.select ..=>false|_=>true)&&Uz l
def drawn(w w':ga):Prop:=w'={ w with drawn:=w.drawn+1 }
def uk(ops:List vB)(draw:Bool)(fr:Fr)(w:ga)(K:Fr->ga->Prop):Prop:=
 match draw with
 |false=>EV P Ty Fn E N ops 0 ops fr w K
 |true=>p9 (Uz ops) (∀w',drawn w w'->∃C:ga->Prop,C w'/\GQ P Ty Fn E N C ops K (lenO ops) (Ux (lenO ops)) fr w')
where
 lenO:List vB->Nat
  |[]=>0
  |_::l=>Nat.succ (lenO l)
def Cn(n:Nat)(lv:List (Nat×S1))(ws:A0)(fr:Fr)(w:ga)(body:Fr->ga->(Fr->ga->Prop)->Prop):Prop:=
 ∃(I:IL (C0 lv) (ga->Prop))(m:IL (C0 lv) (ga->Nat)),
  L9 (C0 lv) I (yb fr lv) (λ_=>False) w/\
  ∀(d:Nat->ah),PE (C0 lv) λvs=>∀w,L9 (C0 lv) I vs (λ_=>False) w->
   body (qU n (wN n d ws fr) lv vs) w λfr' w'=>
    L9 (C0 lv) I (yb fr' lv) (λ_=>False) w'/\L9 (C0 lv) m (yb fr' lv) (λ_=>0) w'<L9 (C0 lv) m vs (λ_=>0) w
def yk(n:Nat)(lv:List (Nat×S1))(ws:A0)(fr:Fr)(a:(Fr->ga->Prop)->Prop)(b:Fr->ga->Prop):Prop:=
 ∃J:IL (C0 lv) (ga->Prop),a (λfr' w'=>L9 (C0 lv) J (yb fr' lv) (λ_=>False) w')/\
  ∀(d:Nat->ah),PE (C0 lv) λvs=>∀w,L9 (C0 lv) J vs (λ_=>False) w->b (qU n (wN n d ws fr) lv vs) w
def eE:Code->Bool
 |.rangeFunc ..=>true
 |.seq a b=>eE a||eE b
 |.cond _ a b=>eE a||eE b
 |.block _ a=>eE a
 |.loop a=>eE a
 |.scope a=>eE a
 |_=>false
def PH(M L:List aG):Prop:=∀h,aL M h->aL L h
def nV(P:iI)(g:aM)(first cap:Ay)(D Q:aG)(xs:Bb):Prop:=
 ∀(l:Nat)(E:ga->ga->Prop),K8 E->∀(J:Nat->aG)(Jx:aG)(L:List aG)(w0:ga),W w0 (J 0::D::L)->(∀h,aL L h->Q h)->
  (∀i us,xs[i]? =some us->∀M w,PH M L->W w (J i::M)->v_ P E l us w λv w'=>(v=.bool true/\W w' (J (i+1)::M))\/(v=.bool false/\W w' (Jx::M)))->
  jm P E g (Hj first [.func (.yield l) #[] #[]] cap) w0 λ_ w'=>W w' (J xs.length::D::L)\/W w' (Jx::D::L)
def yd:A0->List (Nat×S1)->Bool
 |[],[]=>true
 |a::l,(b,_)::m=>Nat.beq a b&&yd l m
 |_,_=>false
def lM:Code->A0
 |.exit i=>[i]
 |.seq a b=>SB (lM a) (lM b)
 |.cond _ a b=>SB (lM a) (lM b)
 |.block i a=>delN i (lM a)
 |.loop a=>lM a
 |.scope a=>lM a
 |_=>[]
where delN (i:Nat):A0->A0
 |[]=>[]
 |j::l=>bif Nat.beq j i||yc j l then delN i l else j::delN i l
def wF:A0->(Nat->Prop)->Prop
 |[],_=>True
 |[j],p=>p j
 |j::l,p=>p j/\wF l p
def yl(P:iI)(g:aM)(first cap:Ay)(sh:List S1)(exs:A0)(w:ga)
  (asg:Ay->ga->(Fr->ga->Prop)->Prop)
  (bd:Fr->ga->(ga->Prop)->(ga->Prop)->(Nat->ga->Prop)->Prop) (n r:ga->Prop) (x:Nat->ga->Prop):Prop:=
 ∃(xs:Bb)(D Q:aG)(J:Nat->aG)(Jr:aG)(Jx:Nat->aG)(L:List aG),W w (J 0::D::L)/\(∀h,aL L h->Q h)/\nV P g first cap D Q xs/\
  (∀us,us∈xs->pb sh λvs=>us=vs)/\
  (∀i,PE sh λvs=>xs[i]? =some vs->∀L' w,PH L' L->W w (J i::L')->
   asg vs w λfr1 w1=>∃M:aG,W w1 (M::L')/\∀L' w,PH L' L->W w (M::L')->
    bd fr1 w (λw'=>W w' (J (i+1)::L')) (λw'=>W w' (Jr::L')) (λj w'=>p9 (yc j exs) (W w' (Jx j::L'))))/\
  (∀w',W w' (J xs.length::D::L)->n w')/\(∀w',W w' (Jr::D::L)->r w')/\wF exs λj=>∀w',W w' (Jx j::D::L)->x j w'
def jZ(A:a_):Code->Fr->ga->(Fr->ga->Prop)->(Fr->ga->Prop)->(Nat->Fr->ga->Prop)->Prop
 |.skip,fr,w,n,r,x=>n fr w
 |.region _ ops draw,fr,w,n,r,x=>uk P Ty Fn E N ops.toList draw fr w n
 |.seq a b,fr,w,n,r,x=>
  (match Yj (sO b) A.joins with
  |some lv=>yk N lv (tT a) fr (λn'=>jZ A a fr w n' r x) (λfr w=>jZ A b fr w n r x)
  |none=>jZ A a fr w (λfr w=>jZ A b fr w n r x) r x)
 |.cond c a b,fr,w,n,r,x=>vO (ev fr c) (jZ A a fr w n r x) (jZ A b fr w n r x)
 |.block i a,fr,w,n,r,x=>
  (match look i A.blocks with
  |some lv=>yk N lv (tT a) fr (λn'=>jZ A a fr w n' r λj fr w=>bif Nat.beq j i then n' fr w else x j fr w) n
  |none=>jZ A a fr w n r λj fr w=>bif Nat.beq j i then n fr w else x j fr w)
 |.loop a,fr,w,n,r,x=>
  (match Yj (sO a) A.loops with
  |some lv=>Cn N lv (tT a) fr w λfr w n'=>jZ A a fr w n' r x
  |none=>False)
 |.exit i,fr,w,n,r,x=>x i fr w
 |.ret,fr,w,n,r,x=>r fr w
 |.label _,fr,w,n,r,x=>n fr w
 |.scope a,fr,w,n,r,x=>jZ A a fr w n r x
 |.rangeFunc f ps a b,fr,w,n,r,x=>
  p9 (!eE a&& !eE b) (match ev fr f,Yj (sO (.seq a b)) A.rngs with
   |.func (.func g) first cap,some lv=>p9 (yd ps.toList lv) (p9 (Fn g)
    (yl P g first.toList cap.toList (C0 lv) (lM b) w
     (λvs w K=>jZ A a (qU N fr lv vs) w K (λ_ _=>False) (λ_ _ _=>False))
     (λfr1 w n' r' x'=>jZ A b fr1 w (λ_ w=>n' w) (λ_ w=>r' w) (λj _ w=>x' j w)) (n fr) (r fr) (λj=>x j fr)))
   |_,_=>False)
 |_,fr,w,n,r,x=>False
end
def La(P:iI)(Ty:aC->Option dL)(rs:List ResultVar)(fr:Fr)(w:ga)(R:ah->Prop):Prop:=
 let rec go:List ResultVar->(Ay->Prop)->Prop
  |[],k=>k []
  |.tmp t::l,k=>go l λvs=>k (fG fr t::vs)
  |.cell a t::l,k=>(match fG fr a,Ty t with
   |.pointer a,some i=>nn a λad=>rD w ad i λv=>go l λvs=>k (v::vs)
   |_,_=>False)
 go rs λvs=>match vs with|[v]=>R v|vs=>R (.tuple ⟨vs⟩)
def Hk:Nat->Ay->Fr
 |_,[]=>[]
 |i,v::l=>(i,v)::Hk (i+1) l
def SC(c:Code)(R:ah->ga->Prop)(v:ah)(w:ga):Prop:=bif eE c then∀a,hp a=hp w->R v a else R v w
def fnV(P:iI)(Ty:aC->Option dL)(Fn:aM->Bool)(E:ga->ga->Prop)(A:a_)(fn:Func)(args:Ay)(w:ga)(R:ah->ga->Prop):Prop:=
 match fn.body with
 |some c=>bif ub args fn.ntmps then
   jZ P Ty Fn E fn.ntmps A c (Hk 0 args) w (λa b=>La P Ty fn.results.toList a b λa=>SC c R a b) (λa b=>La P Ty fn.results.toList a b λa=>SC c R a b) (λ_ _ _=>False)
  else False
 |none=>False
def EX(P:iI)(E:ga->ga->Prop)(o:vB)(ρ:St->ah)(w:ga)(K:ah->ga->Prop):Prop:=
 match(execOp ρ o).run P w with
 |.ok (.value v) w'=>E w w'/\K v w'
 |.ok .skip w'=>E w w'/\K undef w'
 |.ok (.enter f args) w'=>E w w'/\Calls P f args w' λe w''=>∃v,e=.returned v/\E w' w''/\K v w''
 |.ok (.round l f tmps assign body) w'=>E w w'/\RoundIn Fence.wide 0 P l f tmps assign body w' λe w''=>∃v,e=.returned v/\E w' w''/\K v w''
 |_=>False
theorem EX.mono{P:iI}{E:ga->ga->Prop}{o:vB}{ρ:St->ah}{w:ga}{K K':ah->ga->Prop}(h:EX P E o ρ w K)(d:∀v w',E w w'->K v w'->K' v w')
  (e:∀{a b c:ga},E a b->E b c->E a c):EX P E o ρ w K':=by
 unfold EX at*
 split at h
 ·simp_all
 ·simp_all
 ·grind[Calls.mono]
 ·grind[RoundIn.mono]
 omega
def EY(P:iI):TypeDesc->List (Nat×Nat×Bool)
 |.struct fs=>fs.toList.map λf=>(f.offset,P.cellsOf f.type,match P.underlying f.type with|some (.struct _)|some (.array ..)=>true|_=>false)
 |_=>[]
structure Cp(P:iI)(t:aC)(i:dL)(info:TypeInfo)(d:TypeDesc):Prop where
 inf:P.info? t=some info
 und:P.underlying t=some d
 kd:i.kd=iW d
 size:i.size=info.size
 bytes:i.bytes=info.bytes
 zero:i.zero=info.zero
 flds:i.flds=EY P d
 ok:ES P d=true
theorem tY{P:iI}{Ty:aC->Option dL}(h:fb P Ty){t:aC}{i:dL}(hi:Ty t=some i):∃info d,Cp P t i info d:=by
 obtain⟨c,this⟩:=h t i hi;unfold sM at this
 split at this
 ·rename_i a b ha hb;simp only[Bool.cond_eq_ite] at this
  split at this
  ·rename_i hok;have e:=Option.some.inj this;exact⟨a,b,ha,hb,(congrArg dL.kd e).symm,(congrArg dL.size e).symm,(congrArg dL.bytes e).symm,(congrArg dL.zero e).symm,(congrArg dL.flds e).symm.trans (by rfl),hok⟩
  simp_all
 simp_all
theorem SD{Ty:aC->Option dL}{t:aC}{k:Kd}(h:ai Ty t=k)(a:k≠.other):∃i,Ty t=some i/\i.kd=k:=by grind[ai,absurd]
theorem fH{d:TypeDesc}{e:aC}(h:Kd.slice e=iW d):d=.slice e:=by cases d<;>simp[iW] at h;simp_all
theorem PI{d:TypeDesc}{n:Nat}{e:aC}(h:Kd.array n e=iW d):d=.array n e:=by cases d<;>simp[iW] at h;simp_all
theorem SE{d:TypeDesc}{e:IntKind}(h:Kd.int e=iW d):d=.int e:=by cases d<;>simp[iW] at h;simp_all
theorem tZ{d:TypeDesc}(h:Kd.string=iW d):d=.string:=by cases d<;>simp[iW] at h;rfl
theorem Cq{d:TypeDesc}(h:Kd.bool=iW d):d=.bool:=by cases d<;>simp[iW] at h;rfl
theorem SF{d:TypeDesc}{e:aC}(h:Kd.ptr e=iW d):d=.pointer e:=by cases d<;>simp[iW] at h;simp_all
theorem Cr{d:TypeDesc}{k e:aC}(h:Kd.map k e=iW d):d=.map k e:=by cases d<;>simp[iW] at h;simp_all
theorem EZ{d:TypeDesc}(h:Kd.struct=iW d):∃a,d=.struct a:=by cases d<;>simp[iW] at h;simp
theorem Ct{d:TypeDesc}(h:Kd.func=iW d):∃a b c,d=.func a b c:=by cases d<;>simp[iW] at h;simp
theorem dR{P:iI}{Ty:aC->Option dL}(h:fb P Ty){t:aC}{k:Kd}(b:ai Ty t=k)(c:k≠.other):∃d,P.underlying t=some d/\k=iW d:=by
 obtain⟨g,e,f⟩:=SD b c;obtain⟨i,d,a⟩:=tY h e;exact⟨d,a.und,by rw[<-f,a.kd]⟩
section
variable{P:iI}{w:ga}
theorem bx{t:aC}{d:TypeDesc}(h:P.underlying t=some d):(underlying t).run P w=.ok d w:=by simp[underlying,h]
theorem PJ{t:aC}{i:TypeInfo}(h:P.info? t=some i):(typeInfo t).run P w=.ok i w:=by simp[typeInfo,h]
theorem db{t:aC}{i:TypeInfo}(h:P.info? t=some i):(sizeOf t).run P w=.ok i.size w:=by simp[sizeOf,typeInfo,h]
theorem nI{t:aC}{i:TypeInfo}{z:ah}(h:P.info? t=some i)(a:i.zero=some z):(zeroValue t).run P w=.ok z w:=by simp_all[zeroValue,typeInfo]
theorem mP{t:aC}{d:TypeDesc}(h:P.underlying t=some d):(isAgg t).run P w=.ok (iW d).isAgg w:=by
 simp only[isAgg,Sem.run_bind,bx h,Result.andThen_ok];cases d<;>simp[iW,Kd.isAgg]
theorem z6{Ty:aC->Option dL}(h:fb P Ty){t:aC}{s:Nat}(hs:L7 Ty t=some s):∃info,P.info? t=some info/\info.size=s:=by
 unfold L7 at hs
 split at hs
 ·rename_i i hi;obtain⟨info,d,ha⟩:=tY h hi;cases hs;exact⟨info,ha.inf,ha.size.symm⟩
 simp_all
theorem GR:∀(n i:Nat)(a:vP)(vs:Ay),iA w a i n=some vs->vs.length=n/\∀j v,vs[j]? =some v->w.cell? (a.add (i+j))=some v
 |0,i,a,vs,h=>by simp_all[iA]
 |n+1,i,a,vs,h=>by
  unfold iA at h
  split at h
  ·rename_i v us hv hus
   cases h
   obtain⟨h1,h2⟩:=GR n (i+1) a us hus
   grind
  simp_all
def rV(w:ga)(a:vP)(i:dL)(v:ah):Prop:=
 match i.kd.isAgg with
 |true=>∃vs,iA w a 0 i.size=some vs/\v=.agg ⟨vs⟩
 |false=>w.cell? a=some v
theorem Mc{Ty:aC->Option dL}(h:fb P Ty){t:aC}{i:dL}(hi:Ty t=some i){a:vP}{v:ah}(c:rV w a i v):(loadVar t a).run P w=.ok v w:=by
 obtain⟨e,l,b⟩:=tY h hi;unfold rV at c;simp only[loadVar,Sem.run_bind,mP b.und,Result.andThen_ok,<-b.kd];cases f:i.kd.isAgg with
 |true=>
  rw[f] at c;obtain⟨d,g,rfl⟩:=c;obtain⟨j,m⟩:=GR _ _ _ _ g;have k:e.size=d.length:=by rw[j,b.size]
  have:=run_loadCells_list (P:=P) w a d (λn v o=>η);simp[db b.inf,k,this]
 |false=>
  simp_all
theorem PK{a:vP}{i:dL}{k:ah->Prop}(h:rD w a i k):∃v,rV w a i v/\k v:=by
 unfold rD at h
 split at h
 ·simp_all
 ·split at h
  ·rename_i hk _;obtain⟨vs,_,J,u⟩:=IH h;exact⟨_,by unfold rV;simp_all,u⟩
  ·rename_i hk _;obtain⟨v,O,u⟩:=Cs.o_ h
   simp_all[rV]
  simp_all
theorem Yo{C:ga->Prop}{a:vP}{i:dL}{k:ah->Prop}(h:wu C a i k):∃v,(∀w,C w->rV w a i v)/\k v:=by
 unfold wu at h
 split at h
 ·simp_all
 ·split at h
  ·rename_i hk _;obtain⟨vs,_,J,u⟩:=IH h;exact⟨_,λw O=>by unfold rV;simp_all,u⟩
  ·rename_i hk _;obtain⟨v,U,u⟩:=Cs.o_ h
   grind[rV]
  simp_all
end
section
variable{P:iI}{Ty:aC->Option dL}
theorem pR{a:Bool}{k:IntKind}{z:Int}{K:ah->Prop}(h:PB a k z K):K (.int k (k.wrap z)):=by
 unfold PB at h
 split at h
 ·split at h
  ·exact h
  ·rw[Up h.1];exact h.2
 ·exact h
theorem Wn{wd:Bool}{op:BinOp}{k k':IntKind}{a b:Int}{t:aC}{K:ah->Prop}(hk:(Nr op||Nat.beq (kx k) (kx k'))=true)(h:Ye wd op k a b K):
  ∃v,(∀w,(Go.binOp op t (.int k a) (.int k' b)).run P w=.ok v w)/\K v:=by
 have u:Nr op=false->k=k':=λhs=>Yc η;unfold Ye at h;cases op<;>dsimp only at h
 case add=>refine⟨_,λw=>?_,pR h⟩;simp[Go.binOp,<-u rfl,Op.intArith]
 case sub=>refine⟨_,λw=>?_,pR h⟩;simp[Go.binOp,<-u rfl,Op.intArith]
 case mul=>refine⟨_,λw=>?_,pR h⟩;simp[Go.binOp,<-u rfl,Op.intArith]
 case quo=>refine⟨_,λw=>?_,pR h.2⟩;simp[Go.binOp,<-u rfl,Op.intDiv,show¬b=0 from h.1]
 case rem=>refine⟨_,λw=>?_,h.2⟩;simp[Go.binOp,<-u rfl,Op.intDiv,show¬b=0 from h.1]
 case and=>refine⟨_,λw=>?_,h⟩;simp[Go.binOp,<-u rfl,Op.intBits,p8]
 case or=>refine⟨_,λw=>?_,h⟩;simp[Go.binOp,<-u rfl,Op.intBits,p8]
 case xor=>refine⟨_,λw=>?_,h⟩;simp[Go.binOp,<-u rfl,Op.intBits,p8]
 case andNot=>refine⟨_,λw=>?_,h⟩;simp[Go.binOp,<-u rfl,Op.intBits,p8]
 case eql=>refine⟨_,λw=>?_,h⟩;simp[Go.binOp,<-u rfl,Op.intCmp]
 case neq=>refine⟨_,λw=>?_,h⟩;simp[Go.binOp,<-u rfl,Op.intCmp]
 case lss=>refine⟨_,λw=>?_,h⟩;simp[Go.binOp,<-u rfl,Op.intCmp]
 case leq=>refine⟨_,λw=>?_,h⟩;simp[Go.binOp,<-u rfl,Op.intCmp]
 case gtr=>refine⟨_,λw=>?_,h⟩;simp[Go.binOp,<-u rfl,Op.intCmp]
 case geq=>refine⟨_,λw=>?_,h⟩;simp[Go.binOp,<-u rfl,Op.intCmp]
 case shl=>refine⟨_,λw=>?_,h.2⟩;simp[Go.binOp,Op.shift,Yd,Int.not_lt.2 h.1]
 case shr=>refine⟨_,λw=>?_,h.2⟩;simp[Go.binOp,Op.shift,bj,Int.not_lt.2 h.1]
theorem Wo{op:BinOp}{a b:vS}{t:aC}{K:ah->Prop}(h:Yf op a b K):
  ∃v,(∀w,(Go.binOp op t (.string a) (.string b)).run P w=.ok v w)/\K v:=by
 unfold Yf at h;cases op<;>dsimp only at h<;>first|exact h.elim|skip
 case add=>
  refine⟨_,λw=>?_,h.2⟩
  simp_all[Go.binOp,Op.stringOp]
 all_goals simp_all[Go.binOp,Op.stringOp]
theorem IQ{op:BinOp}{t:aC}{xo yo:St}{x y:ah}{w:ga}(h:∀a b,¬(x=.agg a/\y=.agg b))(c:¬(x=.nilIface/\y=.nilIface)):
  (eqGuard op t xo yo x y).run P w=.ok () w:=by simp_all[eqGuard]
theorem Da{op:BinOp}{t:aC}{x y:ah}{r:Bool}{K:ah->Prop}(he:∀w,(Op.equal t x y).run P w=.ok r w)
  (hb:∀op,(op=.eql\/op=.neq)->Go.binOp op t x y=(match op with|.eql=>(do pure (.bool (<-Op.equal t x y)))|_=>(do pure (.bool (!(<-Op.equal t x y)))))) (h:pg op r K):
  ∃v,(∀w,(Go.binOp op t x y).run P w=.ok v w)/\K v:=by
 unfold pg at h;cases op<;>dsimp only at h<;>first|exact h.elim|skip
 case eql=>simp_all
 simp_all
theorem fI{c:Bool}{p:Prop}(h:bif c then p else False):c=true/\p:=η
theorem Wp(d:Nat){t:aC}(h:P.underlying t=some .bool)(a b:Bool)(w:ga):(Op.equalIn (d+1) t (.bool a) (.bool b)).run P w=.ok (a==b) w:=by
 simp[Op.equalIn,bx h]
theorem SG{t:aC}(h:P.underlying t=some .bool)(a b:Bool)(w:ga):(Op.equal t (.bool a) (.bool b)).run P w=.ok (a==b) w:=Wp 9999 h a b w
theorem Nv(d:Nat){t e:aC}(h:P.underlying t=some (.pointer e))(a:E)(w:ga):(Op.equalIn (d+1) t (.pointer a) (.pointer none)).run P w=.ok a.isNone w:=by
 cases a<;>simp[Op.equalIn,bx h]
theorem Lb{t e:aC}(h:P.underlying t=some (.pointer e))(a:E)(w:ga):(Op.equal t (.pointer a) (.pointer none)).run P w=.ok a.isNone w:=Nv 9999 h a w
theorem IS(d:Nat){t e:aC}(h:P.underlying t=some (.slice e))(a:E)(l c b c':Nat)(w:ga):(Op.equalIn (d+1) t (.slice a l c) (.slice none b c')).run P w=.ok a.isNone w:=by
 cases a<;>simp[Op.equalIn,bx h]
theorem Hl{t e:aC}(h:P.underlying t=some (.slice e))(a:E)(l c b c':Nat)(w:ga):(Op.equal t (.slice a l c) (.slice none b c')).run P w=.ok a.isNone w:=IS 9999 h a l c b c' w
theorem Nw(d:Nat){t k e:aC}(h:P.underlying t=some (.map k e))(a:Option Nat)(w:ga):(Op.equalIn (d+1) t (.map a) (.map none)).run P w=.ok a.isNone w:=by
 cases a<;>simp[Op.equalIn,bx h]
theorem Lc{t k e:aC}(h:P.underlying t=some (.map k e))(a:Option Nat)(w:ga):(Op.equal t (.map a) (.map none)).run P w=.ok a.isNone w:=Nw 9999 h a w
theorem Ld(d:Nat){t:aC}{a b:Array aC}{c:Bool}(h:P.underlying t=some (.func a b c))(f:Fn)(x y:Array ah)(w:ga):(Op.equalIn (d+1) t (.func f x y) .nilFunc).run P w=.ok false w:=by
 simp[Op.equalIn,bx h]
theorem IT{t:aC}{a b:Array aC}{c:Bool}(h:P.underlying t=some (.func a b c))(f:Fn)(x y:Array ah)(w:ga):(Op.equal t (.func f x y) .nilFunc).run P w=.ok false w:=Ld 9999 h f x y w
theorem mQ{op:BinOp}{t:aC}{xo yo:St}{x y:ah}{K:ah->Prop}(c:∀a b,¬(x=.agg a/\y=.agg b))(d:¬(x=.nilIface/\y=.nilIface))
  (h:∃v,(∀w,(Go.binOp op t x y).run P w=.ok v w)/\K v):∃v,(∀w,(do eqGuard op t xo yo x y;Go.binOp op t x y:Sem ah).run P w=.ok v w)/\K v:=by simp_all[IQ]
theorem Cu{op:BinOp}{t:Bool}{K:ah->Prop}(h:vW op t λq=>K (.bool q)):pg op t K:=by simp_all[vW,pg]
theorem Yp(hT:fb P Ty){C:ga->Prop}{rs:Sem ah->(ah->Prop)->Prop}(hrs:∀s k,rs s k->∃v,(∀w,C w->s.run P w=.ok v w)/\k v)
  {op:BinOp} {t:aC} {xo yo:St} {x y:ah} {K:ah->Prop} (h:v7 Ty rs op t xo yo x y K):
  ∃v,(∀w,C w->(do eqGuard op t xo yo x y;Go.binOp op t x y:Sem ah).run P w=.ok v w)/\K v:=by
 have all:(∃v,(∀w,(do eqGuard op t xo yo x y;Go.binOp op t x y:Sem ah).run P w=.ok v w)/\K v)->∃v,(∀w,C w->(do eqGuard op t xo yo x y;Go.binOp op t x y:Sem ah).run P w=.ok v w)/\K v:=
  λ⟨v,a,b⟩=>⟨v,λw _=>a w,b⟩
 unfold v7 at h
 split at h
 ·obtain⟨hc,h⟩:=fI h;exact all (mQ V V<|Wn hc h)
 ·exact all (mQ V V<|Wo h)
 ·split at h
  ·rename_i hk;obtain⟨d,J,u⟩:=dR hT hk V;rw[Cq u] at J;exact all (mQ V V<|Da (SG J _ _) (λop O=>by rcases O with rfl|rfl<;>simp[Go.binOp]) h)
  simp_all
 ·unfold vY at h
  split at h
  ·obtain⟨hc,h⟩:=fI h;cases hk:ai Ty t<;>rw[hk] at hc<;>simp[xG] at hc;obtain⟨d,J,u⟩:=dR hT hk V;rw[SF u] at J;exact all (mQ V V<|Da (Lb J _) (λop O=>by rcases O with rfl|rfl<;>simp[Go.binOp])<|Cu h)
  ·obtain⟨v,U,b,rfl,c⟩:=hrs _ _ h;exact⟨_,U,c⟩
 ·obtain⟨hc,h⟩:=fI h;cases hk:ai Ty t<;>rw[hk] at hc<;>simp[Ur] at hc;obtain⟨d,J,u⟩:=dR hT hk V;rw[fH u] at J;exact all (mQ V V<|Da (Hl J _ _ _ _ _) (λop O=>by rcases O with rfl|rfl<;>simp[Go.binOp]) h)
 ·split at h
  ·rename_i hk;obtain⟨d,J,u⟩:=dR hT hk V;obtain⟨_,_,_,W⟩:=Ct u;rw[W] at J;exact all (mQ V V<|Da (IT J _ _ _) (λop O=>by rcases O with rfl|rfl<;>simp[Go.binOp]) h)
  simp_all
 ·obtain⟨hc,h⟩:=fI h;cases hk:ai Ty t<;>rw[hk] at hc<;>simp[xI] at hc;obtain⟨d,J,u⟩:=dR hT hk V;rw[Cr u] at J;exact all (mQ V V<|Da (Lc J _) (λop O=>by rcases O with rfl|rfl<;>simp[Go.binOp]) h)
 ·obtain⟨v,U,b,rfl,c⟩:=hrs _ _ h;exact⟨_,U,c⟩
end
section
variable{P:iI}{Ty:aC->Option dL}
theorem eF(v:ah):cellsOf v=v.cells.toList:=by cases v<;>rfl
theorem PL:∀(vs:Ay)(off k:Nat)(cs:Ay),
  (vs.zipIdx k).foldl (λ(a:Array ah)(x:ah×Nat)=>a.setIfInBounds (off+x.2) x.1) ⟨cs⟩=⟨ud cs (off+k) vs⟩
 |[],_,_,_=>rfl
 |v::vs,off,k,cs=>by
  simp only[List.zipIdx_cons,List.foldl_cons]
  have:=PL vs off (k+1) (Sw cs (off+k) v)
  simp_all[Nat.add_assoc,ud,Uq]
theorem uo{pl:Nat->Option (Nat×Nat)}:∀(ps:List (Nat×ah))(cs out:Ay),C7 pl cs ps=some out->Instr.fill pl ⟨cs⟩ ps=some ⟨out⟩
 |[],cs,out,h=>by simp[C7] at h;subst h;rfl
 |(i,v)::ps,cs,out,h=>by
  unfold C7 at h
  unfold Instr.fill
  cases hp:pl i with
  |none=>simp_all
  |some os=>
   obtain⟨off,size⟩:=os
   rw[hp] at h
   simp only[Bool.cond_eq_ite] at h
   split at h
   ·rename_i hc
    simp only[jn] at hc
    have h1:=xZ _ _ hc.1
    have h2:=X9 _ _ hc.2
    rw[eF] at h1
    have h1':v.cells.size=size:=U
    have h2':off+v.cells.size<=cs.length:=U
    have ih:=uo ps _ out h
    simp only[h1',ne_eq,not_true_eq_false,List.size_toArray,decide_false,Bool.false_or]
    rw[gv η]
    rw[<-ih]
    congr 1
    have:=PL v.cells.toList off 0 cs
    rw[eF,show off=off+0 from rfl,<-this]
    grind[Array.toList_zipIdx]
   simp_all
theorem PM(fr:Fr):∀l,GO fr l=l.map λ(i,x)=>(i,ev fr x)
 |[]=>rfl
 |(i,x)::l=>by simp[GO,PM fr l]
theorem E0{o:Option Ay}{k:Ay->Prop}(h:Yg o k):∃l,o=some l/\k l:=by
 unfold Yg at h;grind
theorem Db{a:E}{k:vP->Prop}(h:nn a k):∃x,a=some x/\k x:=by
 unfold nn at h;grind
theorem wG(fr:Fr)(ps:Array (Nat×St)):(ps.map λ(i,x)=>(i,ev fr x)).toList=GO fr ps.toList:=by simp[PM]
theorem Md{α β:Type}(f:α->Sem β)(g:α->β)(w:ga):∀(l:List α),(∀x∈l,(f x).run P w=.ok (g x) w)->(l.mapM f).run P w=.ok (l.map g) w
 |[],_=>V
 |x::l,h=>by
  simp only[List.mapM_cons,Sem.run_bind,h x V,Result.andThen_ok,Md f g w l (λy hy=>h y G),Sem.run_pure,kn]
theorem Yq{α β:Type}(f:α->Sem β)(g:α->β)(w:ga)(a:Array α)(h:∀x∈a.toList,(f x).run P w=.ok (g x) w):(a.mapM f).run P w=.ok (a.map g) w:=by
 rw[Array.mapM_eq_mapM_toList];simp only[Sem.run_map,Md f g w a.toList h,Result.andThen_ok];congr 1
 grind
theorem Cv(a:Array Go.Field)(w:ga)(b:∀f∈a.toList,∃i,P.info? f.type=some i):
  (a.mapM λf=>do pure (f.offset,<-sizeOf f.type):Sem (Array (Nat×Nat))).run P w=.ok (a.map λf=>(f.offset,P.cellsOf f.type)) w:=by
 refine Yq _ _ w a λf c=>?_;obtain⟨i,d⟩:=b f c
 simp_all[db,Program.cellsOf]
theorem ye{a:Array Go.Field}(h:ES P (.struct a)=true):∀f∈a.toList,∃i,P.info? f.type=some i:=by
 intro f b;simp only[ES,mE] at h
 simp_all[sy]
theorem IU{a:Array Go.Field}(h:ES P (.struct a)=true):∀f∈a.toList,∃i,P.underlying f.type=some i:=by
 intro f b;simp only[ES,mE] at h
 simp_all[sy]
theorem SH{p q:Nat->Option (Nat×Nat)}(h:∀i,p i=q i):∀(ps:List (Nat×ah))(cs:Ay),C7 p cs ps=C7 q cs ps:=by
 have:p=q:=funext h
 simp_all
theorem PN(a:Array Go.Field)(i:Nat):IK (EY P (.struct a)) i=(a.map λb=>(b.offset,P.cellsOf b.type))[i]?:=by grind[IK,EY]
theorem Yr{fr:Fr}{x:Option St}{k:Option Int->Prop}(h:Ut fr x k):(x=none/\k none)\/∃y a n,x=some y/\ev fr y=.int a n/\k (some n):=by
 unfold Ut at h
 grind
theorem d_{k:IntKind}{n:Int}{y:Nat}{c:BoundsCode}{w:ga}(h:0<=n/\n<=y):(Instr.sliceBound (.int k n) y c).run P w=.ok n.toNat w:=by
 simp[Instr.sliceBound,asIntOf,h]
end
section
variable{P:iI}{Ty:aC->Option dL}
theorem jD{fr:Fr}{x:St}{k:Option Int->Prop}(h:Ut fr (some x) k):∃a n,ev fr x=.int a n/\k (some n):=by grind[Yr]
theorem jE{fr:Fr}{k:Option Int->Prop}(h:Ut fr none k):k none:=h
theorem Le{t e:aC}{l:TypeInfo}(d:P.underlying t=some (.slice e))(f:P.info? e=some l){a:E}{len g:Nat}{fr:Fr}{lo hi i:Option St}{K:ah->Prop}
  (h:Ut fr lo λlo=>Ut fr hi λhi=>Ut fr i λb=>mA a len g lo hi b l.size λa c j=>K (.slice a c j)):
  ∃v,(∀w,(Instr.sliceAt t (.slice a len g) (lo.map (ev fr)) (hi.map (ev fr)) (i.map (ev fr))).run P w=.ok v w)/\K v:=by
 cases lo with
 |none=>
  have h:=jE h;cases hi with
  |none=>
   have h:=jE h;cases i with
   |none=>
    have h:=jE h;obtain⟨_,_,_,h⟩:=h;refine⟨_,λw=>?_,h⟩;simp[Instr.sliceAt,Instr.slice,Instr.sliceBounds,bx d,db f,f_,bh]
   |some b=>
    obtain⟨c,j,k,h⟩:=jD h;obtain⟨m,_⟩:=h
    simp_all
  |some hi=>
   obtain⟨n,b,j,h⟩:=jD h;cases i with
   |none=>
    have h:=jE h;obtain⟨_,k,_,h⟩:=h;have c:0<=b/\b<=(g:Int):=η
    refine⟨_,λw=>?_,h⟩;simp[Instr.sliceAt,Instr.slice,Instr.sliceBounds,bx d,db f,f_,bh,j,d_ c]
   |some o=>
    obtain⟨p,c,k,h⟩:=jD h;obtain⟨q,r,_,h⟩:=h;have m:0<=c/\c<=(g:Int):=η
    have s:0<=b/\b<=c:=η
    refine⟨_,λw=>?_,h⟩;simp[Instr.sliceAt,Instr.slice,Instr.sliceBounds,bx d,db f,f_,bh,j,k,d_ m,d_ (y:=c.toNat) (show 0<=b/\b<=(c.toNat:Nat) by omega)]
 |some lo=>
  obtain⟨p,c,k,h⟩:=jD h;cases hi with
  |none=>
   have h:=jE h;cases i with
   |none=>
    have h:=jE h;obtain⟨_,_,j,h⟩:=h;have b:0<=c/\c<=(len:Int):=η
    refine⟨_,λw=>?_,h⟩;simp[Instr.sliceAt,Instr.slice,Instr.sliceBounds,bx d,db f,f_,bh,k,d_ b]
   |some b=>
    obtain⟨j,m,n,h⟩:=jD h;obtain⟨o,_⟩:=h
    simp_all
  |some hi=>
   obtain⟨q,b,m,h⟩:=jD h;cases i with
   |none=>
    have h:=jE h;obtain⟨_,n,o,h⟩:=h;have j:0<=b/\b<=(g:Int):=η
    have r:0<=c/\c<=b:=η
    refine⟨_,λw=>?_,h⟩;simp[Instr.sliceAt,Instr.slice,Instr.sliceBounds,bx d,db f,f_,bh,k,m,d_ j,d_ (y:=b.toNat) (show 0<=c/\c<=(b.toNat:Nat) by omega)]
   |some r=>
    obtain⟨s,j,n,h⟩:=jD h;obtain⟨x,z,A,h⟩:=h;have o:0<=j/\j<=(g:Int):=η
    have C:0<=b/\b<=j:=η
    have F:0<=c/\c<=b:=η
    refine⟨_,λw=>?_,h⟩;simp[Instr.sliceAt,Instr.slice,Instr.sliceBounds,bx d,db f,f_,bh,k,m,n,d_ o,d_ (y:=j.toNat) (show 0<=b/\b<=(j.toNat:Nat) by omega),d_ (y:=b.toNat) (show 0<=c/\c<=(b.toNat:Nat) by omega)]
theorem Lf{t:aC}(c:P.underlying t=some .string){s:vS}{fr:Fr}{lo hi:Option St}{K:ah->Prop}
  (h:Ut fr lo λlo=>Ut fr hi λhi=>xK s lo hi λs=>K (.string s)):
  ∃v,(∀w,(Instr.sliceAt t (.string s) (lo.map (ev fr)) (hi.map (ev fr)) none).run P w=.ok v w)/\K v:=by
 cases lo with
 |none=>
  have h:=jE h;cases hi with
  |none=>
   have h:=jE h;obtain⟨_,_,h⟩:=h
   simp_all[Instr.sliceAt,Instr.slice,Instr.sliceBounds,bx]
  |some hi=>
   obtain⟨a,b,d,h⟩:=jD h;obtain⟨e,_,h⟩:=h
   simp_all[Instr.sliceAt,Instr.slice,Instr.sliceBounds,bx,d_]
 |some lo=>
  obtain⟨g,b,d,h⟩:=jD h;cases hi with
  |none=>
   have h:=jE h;obtain⟨_,a,h⟩:=h
   simp_all[Instr.sliceAt,Instr.slice,Instr.sliceBounds,bx,d_]
  |some hi=>
   obtain⟨i,a,e,h⟩:=jD h;obtain⟨j,k,h⟩:=h;have f:0<=a/\a<=(s.size:Int):=η
   have l:0<=b/\b<=a:=η
   refine⟨_,λw=>?_,h⟩;simp[Instr.sliceAt,Instr.slice,Instr.sliceBounds,bx c,d,e,d_ f,d_ (y:=a.toNat) (show 0<=b/\b<=(a.toNat:Nat) by omega)]
theorem yf(hT:fb P Ty){C:ga->Prop}{ld:vP->dL->(ah->Prop)->Prop}{rs:Sem ah->(ah->Prop)->Prop}
  (hld:∀ad i k,ld ad i k->∃v,(∀w,C w->rV w ad i v)/\k v) (hrs:∀s k,rs s k->∃v,(∀w,C w->s.run P w=.ok v w)/\k v)
  {o:vB} {fr:Fr} {K:ah->Prop} (h:ya P Ty ld rs o fr K):∃v,(∀w,C w->(execOp (ev fr) o).run P w=.ok (.value v) w)/\K v:=by
 obtain⟨b6,op,b5,pos,b4,b3⟩:=o;unfold ya at h;cases op<;>dsimp only at h<;>first|exact h.elim|skip
 case move x=>exact⟨_,λw _=>rfl,h⟩
 case assign x=>exact⟨_,λw _=>rfl,h⟩
 case pick c a b=>
  split at h
  ·rename_i t ht;refine⟨_,λw _=>?_,h⟩;simp only[execOp,Sem.run_bind,ht,asBool,Sem.run_pure,Result.andThen_ok];cases t<;>simp
  ·exact h.elim
 case build t ps=>
  split at h
  ·rename_i i hi;obtain⟨Y,d,ha⟩:=tY hT hi
   split at h
   ·rename_i z hz hk;obtain⟨fs,rfl⟩:=EZ<|hk▸ha.kd;obtain⟨cs,hc,hK⟩:=E0 h;refine⟨_,λw _=>?_,hK⟩;rw[ha.flds,SH<|PN fs] at hc;have av:Y.zero=some z:=by rw[<-ha.zero,hz]
    have hf:=uo _ _ _ hc;rw[eF] at hf;have hf:Instr.fill _ z.cells _=_:=hf;have b2:=Cv (P:=P) fs w<|ye ha.ok;simp only[execOp,Instr.build,Sem.run_bind,nI ha.inf av,bx ha.und,Result.andThen_ok,b2,wG];simp only[hf,Sem.run_pure,Result.andThen_ok]
   ·rename_i z n e hz hk;have he:=PI<|hk▸ha.kd;subst he
    split at h
    ·rename_i s hs;obtain⟨ie,Z,b1⟩:=z6 hT hs;obtain⟨cs,hc,hK⟩:=E0 h;refine⟨_,λw _=>?_,hK⟩;have av:Y.zero=some z:=by rw[<-ha.zero,hz]
     have hf:=uo _ _ _ hc;rw[eF] at hf;have hf:Instr.fill _ z.cells _=_:=hf;simp only[execOp,Instr.build,Sem.run_bind,nI ha.inf av,bx ha.und,Result.andThen_ok,db Z,b1,wG];simp only[hf,Sem.run_pure,Result.andThen_ok]
    ·exact h.elim
   ·exact h.elim
  ·exact h.elim
 case load t x=>
  split at h
  ·rename_i a i hx hi;obtain⟨ad,rfl,h⟩:=Db h;obtain⟨v,j,hK⟩:=hld _ _ _ h;refine⟨v,λw hw=>?_,hK⟩;simp[execOp,Instr.loadAt,hx,Instr.sureAddr,Mc hT hi<|j w hw]
  ·exact h.elim
 case nilCheck x=>
  split at h
  ·rename_i a hx;obtain⟨ad,rfl,h⟩:=Db h;exact⟨_,λw _=>by simp[execOp,hx],h⟩
  ·rename_i hx;exact⟨_,λw _=>by simp[execOp,hx],h⟩
  ·rename_i hx;exact⟨_,λw _=>by simp[execOp,hx],h⟩
  ·rename_i hx;exact⟨_,λw _=>by simp[execOp,hx],h⟩
  ·exact h.elim
 case binOp op t x y yt=>
  obtain⟨v,j,hK⟩:=Yp hT (rs:=x5 (Uu<|ai Ty t) rs) (λs k h=>by
   cases hb:Uu (ai Ty t) with
   |true=>rw[hb] at h;exact h.elim
   |false=>rw[hb] at h;exact hrs s k h) h
  refine⟨v,λw hw=>?_,hK⟩;have:=j w hw;simp only[execOp,Sem.run_bind] at this ⊢;rw[this];rfl
 case unOp op t x=>
  split at h
  ·rename_i hx;exact⟨_,λw _=>by simp[execOp,hx,Op.unary],h⟩
  ·rename_i hx;exact⟨_,λw _=>by simp[execOp,hx,Op.unary,Op.intArith],pR h⟩
  ·rename_i hx;exact⟨_,λw _=>by simp[execOp,hx,Op.unary,Op.intBits,p8],h⟩
  ·exact h.elim
 case convert s d x=>
  split at h
  ·rename_i k1 k2 k3 n X h2 hx;obtain⟨d1,O,J⟩:=dR hT X V;obtain⟨d2,a7,a0⟩:=dR hT h2 V;rw[SE J] at O;rw[SE a0] at a7;exact⟨_,λw _=>by simp[execOp,hx,Go.convert,bx O,bx a7,Conv.intToInt],pR h⟩
  ·rename_i s X h2 hx;obtain⟨d1,O,J⟩:=dR hT X V;obtain⟨d2,a7,a0⟩:=dR hT h2 V;rw[tZ J] at O;rw[tZ a0] at a7;exact⟨_,λw _=>by simp[execOp,hx,Go.convert,bx O,bx a7],h⟩
  ·exact h.elim
 case makeInterface t x=>
  split at h
  ·rename_i i hi;obtain⟨Y,d,ha⟩:=tY hT hi
   split at h
   ·exact h.elim
   ·rename_i hk;refine⟨_,λw _=>?_,h⟩;simp only[execOp,Instr.makeInterface,Sem.run_bind,bx ha.und,Result.andThen_ok];cases d<;>simp_all[ha.kd,iW]
  ·exact h.elim
 case makeFunc fn first cap=>
  refine⟨_,λw _=>?_,h⟩;have e:∀a:Array St,a.map (ev fr)=⟨a.toList.map<|ev fr⟩:=λa=>by apply lI;simp
  simp[execOp,Instr.makeFunc,ET,e]
 case slice t x lo hi mx=>
  split at h
  ·rename_i e a len cap X hx;obtain⟨d1,O,J⟩:=dR hT X V;rw[fH J] at O
   split at h
   ·rename_i sz W;obtain⟨ie,Z,rfl⟩:=z6 hT W;obtain⟨v,j,hK⟩:=Le O Z h;exact⟨v,λw _=>by simp[execOp,hx,j w],hK⟩
   ·exact h.elim
  ·rename_i s X hx;obtain⟨d1,O,J⟩:=dR hT X V;rw[tZ J] at O
   split at h
   ·obtain⟨v,j,hK⟩:=Lf O h;exact⟨v,λw _=>by simp[execOp,hx,j w],hK⟩
   ·exact h.elim
  ·exact h.elim
 case fieldAddr s x f=>
  split at h
  ·rename_i i a hi hx;obtain⟨Y,d,ha⟩:=tY hT hi
   split at h
   ·rename_i off sz g hk hf;obtain⟨fs,rfl⟩:=EZ<|hk▸ha.kd;obtain⟨hc,h⟩:=fI h;obtain⟨ad,rfl,h⟩:=Db h;refine⟨_,λw _=>?_,h⟩;rw[ha.flds] at hf;simp only[EY,iE,rj,Prod.mk.injEq] at hf;obtain⟨F,hF,rfl,W,_⟩:=hf;obtain⟨iF,a4⟩:=ye ha.ok F (gg hF)
    have aV:iF.size≠0:=by
     have:P.cellsOf F.type=iF.size:=by simp[Program.cellsOf,a4]
     rw[<-this,W];have:=Nat.le_of_ble_eq_true hc;omega
    have a8:fs[f]? =some F:=by simpa using hF
    simp[execOp,hx,Instr.fieldAt,bx ha.und,a8,Instr.sureAddr,fieldPlace,db a4,aV,B1]
   ·exact h.elim
  ·exact h.elim
 case field t x f=>
  split at h
  ·rename_i i hi;obtain⟨Y,d,ha⟩:=tY hT hi
   split at h
   ·rename_i hk;obtain⟨fs,rfl⟩:=EZ<|hk▸ha.kd;unfold xT at h
    split at h
    ·rename_i cs off sz hx hf;rw[ha.flds] at hf;simp only[EY,iE,rj,Prod.mk.injEq] at hf;obtain⟨F,hF,rfl,rfl,am⟩:=hf;obtain⟨iF,a4⟩:=ye ha.ok F<|gg hF;obtain⟨dF,a5⟩:=IU ha.ok F<|gg hF;have a8:fs[f]? =some F:=by simpa using hF
     have a6:(iW dF).isAgg=true:=by rw[a5] at am;cases dF<;>simp_all[iW,Kd.isAgg]
     have W:P.cellsOf F.type=iF.size:=by simp[Program.cellsOf,a4]
     refine⟨_,λw _=>?_,h⟩;simp only[execOp,hx,Instr.field,Sem.run_bind,bx ha.und,a8,asAgg,Sem.run_pure,Result.andThen_ok,part,mP a5,a6,if_true,db a4,W];congr 3;apply lI;simp[List.extract_eq_take_drop]
    ·rename_i cs off sz hx hf;rw[ha.flds] at hf;simp only[EY,iE,rj,Prod.mk.injEq] at hf;obtain⟨F,hF,rfl,rfl,am⟩:=hf;obtain⟨dF,a5⟩:=IU ha.ok F<|gg hF;have a8:fs[f]? =some F:=by simpa using hF
     have a6:(iW dF).isAgg=false:=by rw[a5] at am;cases dF<;>simp_all[iW,Kd.isAgg]
     split at h
     ·rename_i u hu;refine⟨_,λw _=>?_,h⟩;have aa:cs[F.offset]? =some u:=by simpa using hu
      simp[execOp,hx,Instr.field,bx ha.und,a8,asAgg,part,mP a5,a6,aa]
     ·exact h.elim
    ·exact h.elim
   ·exact h.elim
  ·exact h.elim
 case indexAddr t x ix=>
  split at h
  ·rename_i e a len cap kk n X hx hix;obtain⟨d1,O,J⟩:=dR hT X V;rw[fH J] at O
   split at h
   ·rename_i sz W;obtain⟨ie,Z,rfl⟩:=z6 hT W;obtain⟨ad,rfl,X,h2,h⟩:=h;refine⟨_,λw _=>?_,h⟩;simp[execOp,hx,hix,Instr.indexAt,asIntOf,bx O,db Z,X,h2,bh]
   ·exact h.elim
  ·rename_i m e a kk n X hx hix;obtain⟨d1,O,J⟩:=dR hT X V;rw[PI J] at O
   split at h
   ·rename_i sz W;obtain⟨ie,Z,rfl⟩:=z6 hT W;obtain⟨ad,rfl,X,h2,h⟩:=h;refine⟨_,λw _=>?_,h⟩;simp[execOp,hx,hix,Instr.indexAt,asIntOf,bx O,db Z,X,h2,bh,Instr.sureAddr]
   ·exact h.elim
  ·exact h.elim
 case index t x ix=>
  split at h
  ·rename_i s kk n X hx hix;obtain⟨d1,O,J⟩:=dR hT X V;rw[tZ J] at O;obtain⟨⟨X,h2⟩,h⟩:=h;refine⟨_,λw _=>?_,h⟩;have az:n.toNat<s.size:=U
   have aK:n.toNat<s.data.size:=az
   have e:s[n.toNat]? =some (sb s n.toNat):=by
    rw[getElem?_pos s n.toNat az];simp only[sb,aK,Array.getElem?_eq_getElem,Option.getD_some];rfl
   simp[execOp,hx,hix,Instr.index,asIntOf,bx O,X,e]
  ·obtain⟨v,j,hK⟩:=hrs _ _ h;exact⟨v,λw hw=>by simp only[execOp,Sem.run_bind,j w hw];rfl,Sh.fF hK⟩
 case extract t i=>
  unfold xR at h
  split at h
  ·rename_i vs hx
   split at h
   ·rename_i u hu;refine⟨u,λw _=>?_,h⟩;have aa:vs[i]? =some u:=by simpa using hu
    simp[execOp,hx,Instr.extract,aa]
   ·exact h.elim
  ·exact h.elim
 case call c=>
  obtain⟨aR,a9,p⟩:=c;have ha:a9.map (ev fr)=⟨oz fr a9.toList⟩:=by rw[ET];apply lI;simp
  split at h
  ·rename_i a l cap hc j;dsimp only at hc j;subst hc
   split at h
   ·rename_i t ts hts;obtain⟨hk,h⟩:=fI h;cases hkk:ai Ty t<;>rw[hkk] at hk<;>simp[Ur] at hk;obtain⟨d1,O,J⟩:=dR hT hkk V;rw[fH J] at O;refine⟨_,λw _=>?_,h⟩;have ht:p[0]? =some t:=by rw[<-vL,hts];rfl
    simp[execOp,resolve,invoke,builtin,Builtin.len_,ha,j,ht,bx O,goInt]
   ·exact h.elim
  ·rename_i s hc j;dsimp only at hc j;subst hc
   split at h
   ·rename_i t ts hts
    split at h
    ·rename_i hkk;obtain⟨d1,O,J⟩:=dR hT hkk V;rw[tZ J] at O;refine⟨_,λw _=>?_,h⟩;have ht:p[0]? =some t:=by rw[<-vL,hts];rfl
     simp[execOp,resolve,invoke,builtin,Builtin.len_,ha,j,ht,bx O,goInt]
    ·exact h.elim
   ·exact h.elim
  ·rename_i hc _ _;dsimp only at hc;subst hc;obtain⟨v,j,hK⟩:=hrs _ _ h;refine⟨v,λw hw=>?_,Sh.fF hK⟩;have:=j w hw;simp only[execOp,resolve,invoke,builtin,Sem.run_bind,Sem.run_pure,Result.andThen_ok,ha,this]
  ·rename_i k a k' b hc j;dsimp only at hc j;subst hc;refine⟨_,λw _=>?_,h⟩;simp[execOp,resolve,invoke,builtin,Builtin.min_,ha,j,Builtin.min2]
  ·rename_i k a k' b hc j;dsimp only at hc j;subst hc;refine⟨_,λw _=>?_,h⟩;simp[execOp,resolve,invoke,builtin,Builtin.max_,ha,j,Builtin.max2]
  ·exact h.elim
end
def t_(P:iI)(Fn:aM->Bool):Prop:=∀g,Fn g=true->∃fn,P.funcs[g]? =some fn/\fn.body.isNone=false/\(fn.name=="runtime.NumGoroutine")=false
def Ys(P:iI)(g:aM):Bool:=match P.funcs[g]? with|some fn=> !fn.body.isNone&& !(fn.name=="runtime.NumGoroutine")|none=>false
def UA(P:iI)(lo:Nat):Nat->Bool
 |0=>true
 |n+1=>Ys P (lo+n)&&UA P lo n
theorem PO{P:iI}{lo:Nat}:∀{n:Nat},UA P lo n=true->∀g,lo<=g->g<lo+n->Ys P g=true
 |0,_,g,h1,h2=>U
 |n+1,h,g,h1,h2=>by
  simp only[UA,jn] at h
  by_cases hg:g=lo+n
  ·simp_all
  ·exact PO h.2 g h1 U
theorem Dc{P:iI}{lo hi:Nat}(h:UA P lo (hi+1-lo)=true):t_ P λa=>Nat.ble lo a&&Nat.ble a hi:=by
 intro c b;simp only[jn,Nat.ble_eq] at b;have:=PO h c b.1 U;unfold Ys at this
 grind
section
variable{P:iI}{Ty:aC->Option dL}{Fn:aM->Bool}{E:ga->ga->Prop}
theorem iX{o:vB}{ρ:St->ah}{w w':ga}{K:ah->ga->Prop}{v:ah}(h:(execOp ρ o).run P w=.ok (.value v) w')(a:E w w')(b:K v w'):EX P E o ρ w K:=by simp_all[EX]
theorem PQ{o:vB}{ρ:St->ah}{w w':ga}{K:ah->ga->Prop}(h:(execOp ρ o).run P w=.ok .skip w')(a:E w w')(b:K undef w'):EX P E o ρ w K:=by simp_all[EX]
theorem Ev.dQ(w0:ga):∀(vs:Ay)(w:ga)(a:vP)(i:Nat),Ev w0 w->Ev w0 (dQ w a i vs)
 |[],_,_,_,h=>h
 |v::vs,w,a,i,h=>Ev.dQ w0 vs _ a (i+1) (h.trans (Ev.setCell _ _ _))
theorem Nx(v:ah):aO v=v.oneCell':=by rfl
theorem Dd{w:ga}{a b:vP}{v c:ah}(h:w.cell? b=some c):∃d,(w.setCell a v).cell? b=some d:=by
 unfold World.cell? World.setCell at*
 grind
theorem ua{w:ga}{b:vP}{x:ah}(a:vP):∀(vs:Ay)(i:Nat),nH w a i vs->nH (w.setCell b x) a i vs
 |[],_,_=>trivial
 |v::vs,i,⟨h1,⟨u,h2⟩,h3,h4⟩=>⟨h1,Dd h2,η,ua a vs (i+1) h4⟩
theorem lO(a:vP):∀(vs:Ay)(w:ga)(i:Nat),nH w a i vs->(storeCells a vs i).run P w=.ok () (dQ w a i vs)
 |[],w,i,_=>by rfl
 |v::vs,w,i,⟨h1,⟨u,h2⟩,h3,h4⟩=>by
  have ih:=lO a vs (w.setCell (a.add i) v) (i+1) (ua a vs (i+1) h4)
  simp_all[run_store,Nx,storeCells,Sem.run_bind,dQ]
theorem wI(a:vP):a.add 0=a:=by rfl
theorem Cx(hT:fb P Ty){t:aC}{i:dL}(hi:Ty t=some i){w:ga}{ad:vP}{v:ah}{k:ga->Prop}(h:vV w ad i v k):
  ∃w',(storeVar t ad v).run P w=.ok () w'/\Ev w w'/\k w':=by
 obtain⟨O,d,ha⟩:=tY hT hi;unfold vV at h;cases hk:i.kd.isAgg with
 |true=>
  rw[hk] at h;cases v<;>dsimp only at h<;>first|exact h.elim|skip
  rename_i cs;obtain⟨hc,X,W⟩:=fI h;have hl:=xZ _ _ hc;refine⟨_,?_,Ev.dQ w _ _ _ _<|Ev.refl _,W _ rfl⟩;have a:cs.size=O.size:=by rw[<-ha.size,<-hl];simp
  simp[storeVar,db ha.inf,Value.cells,a,lO _ _ _ _ X]
 |false=>
  rw[hk] at h;have h':bif Nat.beq i.size 1 then gh w ad v k else False:=U
  obtain⟨hc,⟨u,X⟩,W,V,Y⟩:=fI h';have a:O.size=1:=by rw[<-ha.size];simp_all
  refine⟨_,?_,Ev.setCell _ _ _,Y _ rfl⟩;have J:v.cells=#[v]:=by cases v<;>first|rfl|cases V
  have:=lO (P:=P) ad [v] w 0 ⟨V,⟨u,by simp_all[wI]⟩,by simp_all[wI],trivial⟩;simp only[dQ,wI] at this;simp[storeVar,db ha.inf,J,a,this]
theorem IV(z:Ay):∀n,((Array.range (n*z.length)).map λa=>(⟨z⟩:Array ah)[a%z.length]!)=⟨(List.replicate n z).flatten⟩:=by
 intro n;apply lI;simp only[Array.toList_map,Array.toList_range]
 induction n with
 |zero=>simp
 |succ n a=>
  rw[pP,List.range_add,jI,pE,List.flatten_append,a];congr 1;simp only[nQ,List.flatten_cons,List.flatten_nil,jK]
  apply List.ext_getElem
  ·simp
  simp_all[Nat.mod_eq_of_lt]
theorem UB(z:Ay):∀n,ir n z=(List.replicate n z).flatten
 |0=>rfl
 |n+1=>by simp[ir,UB z n,oH]
theorem PR(z:Ay):∀n,L8 n z=(List.replicate n z).flatten
 |0=>rfl
 |n+1=>by simp[L8,Ig,PR z n,oH]
theorem eH(c:∀a b,Ev a b->E a b){o:vB}{ρ:St->ah}{w:ga}{K:ah->ga->Prop}{s:Sem ah}(g:execOp ρ o=(do pure (.value (<-s)))){R:ah->ga->Prop}(h:bg P s w R)(d:∀v w',R v w'->K v w'):EX P E o ρ w K:=by
 obtain⟨v,w',i,e,f⟩:=h;refine iX (v:=v) (w':=w') ?_ (c _ _ e) (d _ _ f)
 simp_all
theorem IW(c:∀a b,Ev a b->E a b){o:vB}{ρ:St->ah}{w:ga}{K:ah->ga->Prop}{s:Sem Unit}(g:execOp ρ o=(do s;pure .skip)){R:Unit->ga->Prop}(h:bg P s w R)(d:∀v w',R v w'->K undef w'):EX P E o ρ w K:=by
 obtain⟨v,w',i,e,f⟩:=h;refine PQ (w':=w') ?_ (c _ _ e) (d _ _ f)
 simp_all
theorem Wq{v:ah}{a:Sh}{k:ah->Prop}(h:wg v a k):k v:=by
 unfold wg at h
 split at h
 ·obtain⟨b,c,rfl,h⟩:=h;exact h
 ·obtain⟨c,rfl,b⟩:=C6 h;exact b
 ·exact h.elim
theorem SI{v:ah}{a:Sh}{k:ah->Prop}(h:xU v a k):k v:=by
 rcases h with⟨rfl,h⟩|h
 ·exact h
 ·split at h
  ·obtain⟨d,b,c⟩:=C6 h;rw[b];exact c
  ·obtain⟨d,e,b,c⟩:=h;rw[b];exact c
  ·exact h.elim
theorem vq(b:t_ P Fn){g:aM}(c:Fn g=true)(args:Array ah)(w:ga):(callFunc g args).run P w=.ok (.enter g args) w:=by
 obtain⟨a,d,e,f⟩:=b g c;have h:a.name≠"runtime.NumGoroutine":=η
 have i:a.body≠none:=λj=>η
 simp_all[callFunc]
theorem SJ(hF:t_ P Fn)(hE:∀a b,Ev a b->E a b){o:vB}{fr:Fr}{w:ga}{K:ah->ga->Prop}{f:St}{args:Array St}{tys:Array aC}{sh:Sh}
  (ho:o.op=.call { callee:=.value f,args:=args,argTypes:=tys }) {d:Bool} (h:Yh P Fn E (ev fr f) (oz fr args.toList) sh w K d):EX P E o (ev fr) w K:=by
 obtain⟨dst,op,type,pos,after,guard⟩:=o;dsimp only at ho;subst ho;have ha:args.map (ev fr)=⟨oz fr args.toList⟩:=by grind[ET,Array.ext']
 unfold Yh at h
 split at h
 ·rename_i g first cap hv
  unfold xW at h;cases hg:Fn g with
  |false=>
   rw[hg] at h;cases d with
   |false=>exact h.elim
   |true=>
   obtain⟨v,w',Z,W,V⟩:=h;refine iX (v:=v) (w':=w') ?_ (hE _ _ W)<|Sh.fF V;have Y:first++(⟨oz fr args.toList⟩:Array ah)++cap=⟨Hj first.toList (oz fr args.toList) cap.toList⟩:=by simp[Ns]
   grind[execOp,resolve,Deferred.ofValue,invoke,Sem.run_bind,Sem.run_pure,Result.andThen_ok]
  |true=>
  rw[hg] at h;have h:=(by cases d<;>exact h:jm P E g (Hj first.toList (oz fr args.toList) cap.toList) w λv w'=>sh.is v λu=>K u w')
  have X:(execOp (ev fr) { dst:=dst,op:=.call { callee:=.value f,args:=args,argTypes:=tys },type:=type,pos:=pos,after:=after,guard:=guard }).run P w
    =.ok (.enter g ⟨Hj first.toList (oz fr args.toList) cap.toList⟩) w:=by
   have Y:first++(⟨oz fr args.toList⟩:Array ah)++cap=⟨Hj first.toList (oz fr args.toList) cap.toList⟩:=by simp[Ns]
   grind[execOp,resolve,Deferred.ofValue,invoke,Sem.run_bind,Sem.run_pure,Result.andThen_ok,vq]
  unfold EX;rw[X];refine⟨hE _ _<|Ev.refl _,?_⟩;exact Calls.mono h λe w' ⟨v,Z,W,V⟩=>⟨v,Z,W,Sh.fF V⟩
 ·rename_i l first cap hv
  obtain⟨f',O,J,U,hy,hr⟩:=h
  have X:(execOp (ev fr) { dst:=dst,op:=.call { callee:=.value f,args:=args,argTypes:=tys },type:=type,pos:=pos,after:=after,guard:=guard }).run P w
    =.ok (.round l f' O J U) w:=by
   have Y:first++(⟨oz fr args.toList⟩:Array ah)=⟨PC first.toList<|oz fr args.toList⟩:=by simp[Ig]
   grind[execOp,resolve,Deferred.ofValue,invoke,Sem.run_bind,Sem.run_pure,Result.andThen_ok]
  grind[EX,Ev.refl,RoundIn.mono,Sh.fF]
 simp_all
theorem Me(hT:fb P Ty)(hF:t_ P Fn)(hE:∀a b,Ev a b->E a b){o:vB}{fr:Fr}{w:ga}{K:ah->ga->Prop}(h:Yi P Ty Fn E o fr w K):EX P E o (ev fr) w K:=by
 have h0:=h;obtain⟨dst,op,type,pos,after,guard⟩:=o;unfold Yi at h;cases op<;>dsimp only at h<;>first|exact h.elim|skip
 case alloc t=>
  split at h
  ·rename_i i hi;obtain⟨J,d,ha⟩:=tY hT hi
   split at h
   ·rename_i z hz;have X:J.zero=some z:=by rw[<-ha.zero,hz]
    refine iX (w':={ w with heap:=w.heap.push (.cells ⟨cellsOf z⟩ t) }) ?_ (hE _ _<|Ev.push _ _)<|h _ _ rfl rfl;have e:z.cells=⟨cellsOf z⟩:=by rw[eF]
    simp[execOp,Instr.alloc,nI ha.inf X,newVar,newRow,e]
   ·exact h.elim
  ·exact h.elim
 case box t x=>
  refine iX (w':={ w with heap:=w.heap.push (.cells ⟨cellsOf<|ev fr x⟩ t) }) ?_ (hE _ _<|Ev.push _ _)<|h _ _ rfl rfl;have e:(ev fr x).cells=⟨cellsOf<|ev fr x⟩:=by rw[eF]
  simp[execOp,Instr.box,newVar,newRow,e]
 case buildSlice t n ps=>
  split at h
  ·rename_i e hk;obtain⟨d1,O,q⟩:=dR hT hk V;rw[fH q] at O
   split at h
   ·rename_i i hi;obtain⟨J,d,ha⟩:=tY hT hi
    split at h
    ·rename_i z hz;have X:J.zero=some z:=by rw[<-ha.zero,hz]
     obtain⟨hc,h⟩:=fI h;simp only[jn,Nat.ble_eq] at hc;obtain⟨⟨hl,a5,az⟩,hs⟩:=hc;have hl:=xZ _ _ hl;obtain⟨cs,av,h⟩:=E0 h;refine iX (w':={ w with heap:=w.heap.push (.cells ⟨cs⟩ e) }) ?_ (hE _ _<|Ev.push _ _)<|h _ _ rfl rfl;have hf:=uo _ _ _ av;have a4:z.cells=⟨cellsOf z⟩:=by rw[eF]
     have j:J.size=(cellsOf z).length:=by rw[hl,ha.size]
     have aR:n*J.size<=16777216:=by
      have:n*J.size<=4096*4096:=Nat.mul_le_mul a5 (by rw[<-ha.size];exact az);omega
     have a0:∀hh:n*J.size=0,n=0:=λhh=>by
      rcases Nat.mul_eq_zero.1 hh with h|h
      ·exact h
      ·rw[<-ha.size] at h;omega
     simp only[execOp,Instr.buildSlice,Sem.run_bind,bx O,db ha.inf,Result.andThen_ok,wG];rw[gv U];have aa:(λk=>some (k*i.size,i.size))=(λk=>some (k*J.size,J.size)):=by rw[ha.size]
     rw[aa] at hf
     by_cases Z:n*J.size=0
     ·have:=a0 Z;subst this
      have a9:Instr.fill (λi=>some (i*J.size,J.size)) ((Array.range 0).map λ_=>default) (GO fr ps.toList)=some ⟨cs⟩:=by
       rw[show((Array.range 0).map λ_=>(default:ah))=(⟨L8 0<|cellsOf z⟩:Array ah) from by simp[L8]];exact hf
      simp[a9,newRow]
     ·simp only[Z,if_false,Sem.run_bind,nI ha.inf X,Result.andThen_ok,Sem.run_pure,a4];have W:=IV (cellsOf z) n;rw[<-j] at W;have:(⟨cellsOf z⟩:Array ah).size=J.size:=by simp[j]
      rw[this,W,<-PR,hf];simp[newRow]
    ·exact h.elim
   ·exact h.elim
  ·exact h.elim
 case store t a x=>
  split at h
  ·rename_i p i ha hi;obtain⟨ad,rfl,h⟩:=Db h;obtain⟨w',hr,am,hK⟩:=Cx hT hi h;refine PQ (w':=w') ?_ (hE _ _ am) hK;simp[execOp,Instr.storeAt,ha,Instr.sureAddr,hr]
  ·exact h.elim
 case convert s d x=>exact eH hE rfl h λv w' h=>Sh.fF h
 case makeMap t r=>
  cases r with
  |some r=>exact h.elim
  |none=>
   refine iX (w':={ w with heap:=w.heap.push (.map #[] 0) }) ?_ (hE _ _<|Ev.push _ _)<|h _ _ rfl rfl;simp[execOp,Instr.makeMap]
 case makeSlice t l c=>
  split at h
  ·rename_i e hk;obtain⟨d1,O,q⟩:=dR hT hk V;rw[fH q] at O
   split at h
   ·rename_i i k1 n1 k2 n2 hi hl hc;obtain⟨J,d,ha⟩:=tY hT hi;obtain⟨hb,h⟩:=fI h;unfold xP at h
    split at h
    ·rename_i z hz;rw[hz] at hb;simp only[jn,Nat.ble_eq] at hb;obtain⟨⟨Y,b1⟩,hs⟩:=hb;have Y:=xZ _ _ Y;obtain⟨⟨h1,rfl,h3⟩,hK⟩:=h;have X:J.zero=some z:=by rw[<-ha.zero,hz]
     have a4:z.cells=⟨cellsOf z⟩:=by rw[eF]
     have j:J.size=(cellsOf z).length:=by rw[Y,ha.size]
     refine iX (w':={ w with heap:=w.heap.push (.cells ⟨ir n1.toNat<|cellsOf z⟩ e) }) ?_ (hE _ _<|Ev.push _ _)<|hK _ _ rfl rfl;have a8:(1:Int)<=i.bytes:=U
     have a5:n1<=140737488355328:=Int.le_trans (by have:=Int.mul_le_mul_of_nonneg_right a8 h1;omega) h3;have hw:IntKind.i64.wrap n1=n1:=Up ξ;have aV:(J.bytes:Int)*n1<=140737488355328:=by rw[<-ha.bytes];exact h3
     have hA:¬n1<0:=U
     have hB:¬(281474976710656:Int)<J.bytes*n1:=U
     have W:=IV (cellsOf z) n1.toNat;rw[<-j] at W;have aK:(⟨cellsOf z⟩:Array ah).size=J.size:=by simp[j]
     have a0:n1.toNat*J.size=0->n1.toNat=0:=λhh=>by
      rcases Nat.mul_eq_zero.1 hh with h|h
      ·exact h
      ·rw[<-ha.size] at h;omega
     have e0:∀f:Nat->ah,(Array.range 0).map f=#[]:=λ_=>V
     have a7:Array.map (λx=>(cellsOf z)[x%(cellsOf z).length]?.getD default) (Array.range<|n1.toNat*J.size)=⟨(List.replicate n1.toNat<|cellsOf z).flatten⟩:=by
      rw[<-W,j];congr 1;funext k;simp
     by_cases Z:n1.toNat*J.size=0
     ·have a6:=a0 Z;simp[execOp,Instr.makeSlice,bx O,hl,hc,asInt,asIntOf,PJ ha.inf,db ha.inf,hw,hA,hB,a6,ir,newRow,e0]
     ·simp[execOp,Instr.makeSlice,bx O,hl,hc,asInt,asIntOf,PJ ha.inf,db ha.inf,hw,hA,hB,newRow,Z,nI ha.inf X,a4,UB];rw[a7]
    ·exact h.elim
   ·exact h.elim
  ·exact h.elim
 case lookup t m k ok=>exact eH hE rfl h λv w' h=>Sh.fF h
 case mapUpdate t m k x=>exact IW hE rfl h λv w' h=>h
 case insert t m k x=>exact IW hE rfl h λv w' h=>h
 case mapEntry t m k=>exact eH hE rfl h λv w' h=>Sh.fF h
 case entryStore t m s x=>exact IW hE rfl h λv w' h=>h
 case range t x=>exact eH hE rfl h λv w' h=>Sh.fF h
 case next it isS=>exact eH hE rfl h λv w' h=>SI h
 case entry it=>exact eH hE rfl h λv w' h=>Wq h
 case typeAssert x t u ok=>exact eH hE rfl h λv w' h=>Sh.fF h
 case call c=>
  obtain⟨callee,args,argTypes⟩:=c;have ha:args.map (ev fr)=⟨oz fr args.toList⟩:=by rw[ET];apply lI;simp
  cases callee with
  |value f=>exact SJ hF hE rfl h
  |invoke r m=>
   obtain⟨g,as,h1,h2⟩:=h
   have he:(execOp (ev fr) { dst:=dst,op:=.call { callee:=.invoke r m,args:=args,argTypes:=argTypes },type:=type,pos:=pos,after:=after,guard:=guard }).run P w=.ok (.enter g ⟨as⟩) w:=by
    have e2:(#[ev fr r]++(⟨oz fr args.toList⟩:Array ah))[0]? =some (ev fr r):=V
    have e3:(#[ev fr r]++(⟨oz fr args.toList⟩:Array ah)).extract 1 (#[ev fr r]++(⟨oz fr args.toList⟩:Array ah)).size=⟨oz fr args.toList⟩:=by
     apply lI;simp
    simp only[execOp,resolve,ha,invoke,Sem.run_bind,Sem.run_pure,Result.andThen_ok,e2,e3,h1]
   unfold EX;rw[he];refine⟨hE _ _<|Ev.refl _,?_⟩;exact Calls.mono h2 λe w' ⟨v,h1,h2,h3⟩=>⟨v,h1,h2,Sh.fF h3⟩
  |builtin b=>
   dsimp only at h;unfold x6 at h;cases b<;>dsimp only at h<;>first|exact h.elim|skip
   case append=>exact eH (s:=Builtin.append_ argTypes type ⟨oz fr args.toList⟩) hE (by simp only[execOp,resolve,invoke,builtin,ha];rfl) h λv w' h=>Sh.fF h
   case copy=>exact eH (s:=Builtin.copy_ argTypes type ⟨oz fr args.toList⟩) hE (by simp only[execOp,resolve,invoke,builtin,ha];rfl) h λv w' h=>Sh.fF h
   case delete=>exact eH (s:=Builtin.delete_ argTypes type ⟨oz fr args.toList⟩) hE (by simp only[execOp,resolve,invoke,builtin,ha];rfl) h λv w' h=>h
   case clear=>exact eH (s:=Builtin.clear_ argTypes type ⟨oz fr args.toList⟩) hE (by simp only[execOp,resolve,invoke,builtin,ha];rfl) h λv w' h=>h
   case cap=>exact eH (s:=Builtin.cap_ argTypes type ⟨oz fr args.toList⟩) hE (by simp only[execOp,resolve,invoke,builtin,ha];rfl) h λv w' h=>Sh.fF h
   case unsafeSliceData=>exact eH (s:=Builtin.unsafeSliceData_ argTypes type ⟨oz fr args.toList⟩) hE (by simp only[execOp,resolve,invoke,builtin,ha];rfl) h λv w' h=>Sh.fF h
   case unsafeString=>exact eH (s:=Builtin.unsafeString_ argTypes type ⟨oz fr args.toList⟩) hE (by simp only[execOp,resolve,invoke,builtin,ha];rfl) h λv w' h=>Sh.fF h
theorem Yt{w:ga}:∀(a:vP)(i:dL)(k:ah->Prop),rD w a i k->∃v,(∀w',w'=w->rV w' a i v)/\k v:=
 λ_ _ _ a=>let⟨v,b,c⟩:=PK a;⟨v,λ_ a=>a▸b,c⟩
theorem Yu{w:ga}:∀(s:Sem ah)(k:ah->Prop),wm P w s k->∃v,(∀w',w'=w->s.run P w'=.ok v w')/\k v:=
 λ_ _ ⟨v,b,a⟩=>⟨v,λ_ c=>η,a⟩
theorem Wr(hT:fb P Ty)(hF:t_ P Fn)(hE:∀a b,Ev a b->E a b){all:List vB}{o:vB}{fr:Fr}{w:ga}{K:ah->ga->Prop}(hd:PD P Ty Fn E o fr w K->EX P E o (ev fr) w K)(h:wx P Ty Fn E all o fr w K):EX P E o (ev fr) w K:=by
 unfold wx at h
 split at h
 ·unfold x7 at h
  split at h
  ·rename_i it d ho hdst;obtain⟨U,op,O,pos,J,u⟩:=o;dsimp only at ho hdst h;subst ho;refine eH hE rfl h λv w' h=>?_;obtain⟨us,rfl,V⟩:=C6 h;exact V
  ·exact h.elim
 ·exact hd h
theorem Yv(c:fb P Ty)(j:t_ P Fn)(d:∀a b,Ev a b->E a b){o:vB}{fr:Fr}{w:ga}{K:ah->ga->Prop}(h:PD P Ty Fn E o fr w K):EX P E o (ev fr) w K:=by
 cases k:ia Ty o with
 |true=>
  have e:ya P Ty (rD w) (wm P w) o fr (λf=>K f w):=by simp_all[PD,cond_true]
  obtain⟨l,f,g⟩:=yf c Yt Yu (C:=λi=>i=w) e;exact iX (f w rfl) (d _ _<|Ev.refl _) g
 |false=>
  have e:Yi P Ty Fn E o fr w K:=by simp_all[PD,cond_false]
  grind[Me]
end
def wf(r:Option Nat):Fence:={ fn:=λ_=>True,depth:=none,alive:=false,round:=r }
def rX(ws:A0)(fr fr':Fr):Prop:=∀t,t∉ws->fG fr' t=fG fr t
theorem rX.refl(a:A0)(fr:Fr):rX a fr fr:=λ_ _=>rfl
theorem rX.mono{c d:A0}{a b:Fr}(h:rX c a b)(f:∀x∈c,x∈d):rX d a b:=λe g=>h e λi=>g (f e i)
theorem rX.trans{d:A0}{a b c:Fr}(h:rX d a b)(k:rX d b c):rX d a c:=λe f=>(k e f).trans (h e f)
theorem rX.put{c:A0}{N:Nat}{a b:Fr}(h:rX c a b){d:Option Tmp}(v:ah)(g:∀x,d=some x->x∈c):rX c a (Proofs.YtaoaemnefghnbaaGreatDoor.put N b d v):=by
 intro e f;cases d with
 |none=>exact h e f
 |some x=>rw[pe,gv (λ(i:x=e/\x<N)=>f<|i.1▸g x rfl)];exact h e f
section
variable{P:iI}{Ty:aC->Option dL}{Fn:aM->Bool}{E:ga->ga->Prop}
theorem yn{r:Option Nat}{ρ:St->ah}{o:vB}(h:∀c,o.op≠.defer c):o.semAt r ρ=execOp ρ o:=by
 cases r with
 |none=>rfl
 |some l=>simp_all[Oper.semAt_some]
theorem PT{o:vB}{ρ:St->ah}{w:ga}{K:ah->ga->Prop}(h:EX P E o ρ w K):∀c,o.op≠.defer c:=by
 intro c a;unfold EX at h;simp only[execOp,a,Sem.run_bind] at h;cases b:(resolve ρ c o.type).run P w with
 |ok d e=>simp_all
 |halt d e=>simp_all
theorem PU{r:Option Nat}{n:Nat}{o:vB}{a:Act}{w:ga}{next:Act->ga->Prop}{Q:Exit->Act->ga->Prop}(h:EX P E o a.eval w λv w'=>next (a.put o.dst v) w'):o.wpIn (wf r) n P a w next Q:=by
 refine⟨λ_ _=>trivial,?_⟩;have J:o.semAt (wf r).round a.eval=execOp a.eval o:=yn<|PT h;rw[J];unfold EX at h
 split at h
 ·rename_i v w' hr;rw[hr];exact h.2
 ·rename_i w' hr;rw[hr];exact h.2
 ·rename_i f args w' hr;rw[hr];refine⟨λh=>(by cases h),?_⟩;have hc:CallsIn Fence.wide (n-1) P f args w' λe u=>∃v,e=.returned v/\E w' u/\next (a.put o.dst v) u:=callsIn_wide.2 h.2
  exact CallsIn.mono (F:=wf r) hc λe u ⟨v,J,_,O⟩=>η
 ·rename_i l f tmps assign body w' hr;rw[hr];refine⟨λh=>(by cases h),trivial,λc cs _=>?_⟩;obtain⟨e,u,⟨v,rfl,_,O⟩,hs⟩:=h.2.2 c cs<|room_wide _;exact⟨.returned v,u,O,hs⟩
 simp_all
def lj(all:List vB)(fr:Fr)(o:vB):Bool:=
 match o.guard with
 |none=>true
 |some (j,t)=>match GP all j with
  |some d=>(match fG fr d with|.bool b=>Uv b t|_=>false)
  |none=>false
theorem E1{all:List vB}{fr:Fr}{o:vB}{a b:Prop}:PF all fr o a b↔(if lj all fr o=true then a else b):=by grind[PF,lj,GP,fG,bool,Uv]
theorem Ny:∀(l:List vB)(n:Nat),Yk l n=l[n]?
 |[],n=>by rfl
 |o::l,0=>by rfl
 |o::l,n+1=>by simp[Yk,Ny l n]
theorem Yw(a b:Bool):Uv a b=(a==b):=by cases a<;>cases b<;>rfl
theorem Mf{N:Nat}{fr:Fr}(d:jt N fr)(ds:List Deferred)(all:List vB)(o:vB):Region.wanted o (yielded ⟨all⟩ (bp N fr ds).tmps)=lj all fr o:=by
 unfold Region.wanted lj;cases h:o.guard with
 |none=>rfl
 |some e=>
  obtain⟨b,i⟩:=e;have f:GP all b=((⟨all⟩:Array vB)[b]?).bind (·.dst):=by grind[GP,Ny]
  simp only[yielded,<-f];cases j:GP all b with
  |none=>rfl
  |some a=>
   simp only[Option.bind_some];have g:(bp N fr ds).tmps[a]? =if a<N then some (fG fr a) else none:=by grind[bp]
   rw[g]
   by_cases c:a<N
   ·rw[gD c]
    grind[fG,Yw]
   ·rw[gv c,d a<|Nat.le_of_not_lt c];rfl
theorem rY{g:Bool}{v:ah}{k:ah->Prop}(h:IM g v k):k v:=by
 unfold IM at h
 split at h
 ·exact Wk h
 ·exact h
theorem Mg(hT:fb P Ty)(hF:t_ P Fn)(hE:K8 E){N:Nat}{r:Option Nat}{n:Nat}{all:List vB}{ds:List Deferred}{K:Fr->ga->Prop}{Q:Exit->Act->ga->Prop}:
  ∀(l:List vB)(i:Nat)(fr:Fr)(w:ga),EV P Ty Fn E N all i l fr w K->jt N fr->
   (∀fr' w',jt N fr'->rX (lJ l) fr fr'->E w w'->K fr' w'->Q .normal (bp N fr' ds) w')->wpListIn (wf r) n P ⟨all⟩ Q l (bp N fr ds) w
 |[],i,fr,w,h,hf,hQ=>hQ fr w hf (rX.refl _ _) (hE.ofEv _ _ (Ev.refl w)) h
 |o::l,i,fr,w,h,hf,hQ=>by
  have sub:∀x,o.dst=some x->x∈lJ (o::l):=λx hx=>by simp[lJ,hx]
  have subl:∀x∈lJ l,x∈lJ (o::l):=λx hx=>by
   unfold lJ;cases o.dst<;>simp[hx]
  have next:∀v w',E w w'->EV P Ty Fn E N all (i+1) l (put N fr o.dst v) w' K->wpListIn (wf r) n P ⟨all⟩ Q l ((bp N fr ds).put o.dst v) w':=λv w' hew hd=>by
   rw[Ic]
   exact Mg hT hF hE l (i+1) _ w' hd (xY hf _ _) λfr' w'' h1 h2 h3 h4=>
    hQ fr' w'' h1 (((rX.refl _ fr).put v sub).trans (h2.mono subl)) (hE.trans hew h3) h4
  simp only[EV] at h
  rw[E1] at h
  simp only[wpListIn,Mf hf]
  by_cases hw:lj all fr o=true
  ·rw[gD hw] at h ⊢
   have hs:=Wr hT hF hE.ofEv (Yv hT hF hE.ofEv) h
   refine PU (E:=E) ?_
   rw[Ib N fr ds hf]
   exact hs.mono (λv w' hew hk=>next v w' hew (rY hk)) hE.trans
  ·rw[gv hw] at h ⊢
   exact⟨λ_ _=>trivial,next undef w (hE.ofEv _ _ (Ev.refl w)) h⟩
end
def ar(ls:At):Array Bool:=⟨ls⟩
theorem Nz:∀(ls:At)(i:Nat),Ym ls i=(ar ls).getD i true
 |[],i=>by rfl
 |b::l,0=>by rfl
 |b::l,n+1=>by
  have:=Nz l n
  simp_all[Ym,ar]
theorem PV:∀(ls:At)(i:Nat),Uw ls i=(ar ls).getD i false
 |[],i=>by rfl
 |b::l,0=>by rfl
 |b::l,n+1=>by
  have:=PV l n
  simp_all[Uw,ar]
theorem IX:∀(ls:At)(i:Nat),lL ls i=ls.set i true
 |[],i=>by rfl
 |b::l,0=>by rfl
 |b::l,n+1=>by simp[lL,IX l n]
theorem z7(ls:At)(i:Nat):ar (lL ls i)=(ar ls).setIfInBounds i true:=by simp[IX,ar]
theorem Ws(ls:At)(i j:Nat):lL (lL ls i) j=lL (lL ls j) i:=by grind[IX,List.set_comm]
theorem IY{ls:At}:∀{es:List Edge},IN ls es=true↔∀e∈es,Region.binds .any e=true->(ar ls).getD e.on false=true
 |[]=>by simp[IN]
 |e::l=>by
  have ih:=IY (ls:=ls) (es:=l)
  simp only[IN,jn,ih,jb,forall_eq_or_imp]
  grind[Region.binds,PV]
theorem Mh{i:Nat}:∀{es:List Edge},nT i es=true↔∃e∈es,Region.binds .any e=true/\e.on=i
 |[]=>by simp[nT]
 |e::l=>by
  have ih:=Mh (i:=i) (es:=l)
  simp only[nT,kj,ih,jb,exists_eq_or_imp]
  cases hg:e.ground<;>simp[Region.binds,hg]
theorem pf{ls:At}{i:Nat}{o:vB}:PG ls i o=true↔(ar ls).getD i true=false/\∀e∈o.after,Region.binds .any e=true->(ar ls).getD e.on false=true:=by simp[PG,IY,Nz]
theorem IZ{ls:At}:∀{l:List vB}{i:Nat}{x:Nat×vB},x∈gW ls i l↔∃k,x.1=i+k/\l[k]? =some x.2/\PG ls x.1 x.2=true
 |[],i,x=>by simp[gW]
 |o::l,i,x=>by
  have ih:=IZ (ls:=ls) (l:=l) (i:=i+1) (x:=x)
  have:x∈gW ls i (o::l)↔(x=(i,o)/\PG ls i o=true)\/x∈gW ls (i+1) l:=by grind[gW,PG]
  rw[this,ih]
  constructor
  ·rintro(⟨rfl,h⟩|⟨k,h1,h2,h3⟩)
   ·simp_all
   ·exact⟨k+1,U,η,h3⟩
  grind
theorem jF{ls:At}{l:List vB}{x:Nat×vB}:x∈gW ls 0 l↔l[x.1]? =some x.2/\PG ls x.1 x.2=true:=by simp[IZ]
theorem sQ{ls:At}{l:List vB}{j:Nat}:j∈Region.ready .any ⟨l⟩ (ar ls)↔∃o,(j,o)∈gW ls 0 l:=by
 rw[mem_ready]
 constructor
 ·simp_all[jF,pf]
 simp_all[jF,pf]
theorem I_{ls:At}{i j:Nat}{o:vB}(h:PG ls j o=true)(d:j≠i):PG (lL ls i) j o=true:=by
 rw[pf] at*;rw[z7];exact⟨by simp_all[Ne.symm],λa b c=>getD_set_true<|h.2 a b c⟩
theorem UC:∀l m,uh l m=l++m
 |[],_=>rfl
 |x::l,m=>by simp[uh,UC l m]
theorem NA:∀l,ui l=l.map (·.2)
 |[]=>rfl
 |(a,x)::l=>by simp[ui,NA l]
theorem Yx(o:Op):∀x,x∈Yn o↔x∈o.operands:=by
 intro x;cases o<;>simp only[Yn,Op.operands]<;>try (simp;done)
 case build t ps=>simp[NA]
 case buildSlice t n ps=>simp[NA]
 case makeFunc fn a b=>simp[UC]
 case slice t y l h m=>cases l<;>cases h<;>cases m<;>simp[ug]
 grind[Call.operands]
theorem E2{t:Nat}:∀{l:List St}{m:A0},t∈L_ l m↔Operand.tmp t∈l\/t∈m
 |[],m=>by simp[L_]
 |x::l,m=>by
  have ih:=E2 (t:=t) (l:=l) (m:=m)
  cases x<;>simp[L_,ih,or_assoc]
theorem yg{x:Nat}:∀{l:A0},yc x l=true↔x∈l
 |[]=>by simp[yc]
 |y::l=>by simp[yc,yg (l:=l)]
theorem Wt{all:List vB}{x y:vB}(h:EW all x y=true):
  (∀d,x.dst=some d->d∉looks all y)/\(∀d,x.dst=some d->y.dst≠some d)/\(∀d,y.dst=some d->d∉looks all x):=by
 simp only[EW,jn] at h;obtain⟨⟨b,c⟩,e⟩:=h
 refine⟨λd a=>?_,λd a f=>?_,λd a=>?_⟩
 ·grind[Nt,Bool.not_eq_true',yg]
 ·simp_all[x8]
 grind[Nt,Bool.not_eq_true',yg]
theorem Mi{all:List vB}{ls:At}{i:Nat}{o:vB}:∀{l:List vB}{j:Nat},Uy all ls i o j l=true->∀k p,l[k]? =some p->j+k≠i->(ar ls).getD (j+k) true=false->nT i p.after.toList=false->EW all o p=true
 |[],j,h,k,p,hk,_,_,_=>η
 |q::l,j,h,k,p,hk,hne,hb,hw=>by
  simp only[Uy,jn,kj,Nat.beq_eq] at h
  cases k with
  |zero=>
   simp_all[Option.some.injEq,Nat.add_zero,Nz]
  |succ k=>
   exact Mi h.2 k p η U G hw
def ext(a b:Fr):Prop:=∀t,fG a t=fG b t
theorem UD{N:Nat}{a b:Fr}(h:ext a b)(d:Option Tmp)(v:ah):ext (put N a d v) (put N b d v):=by
 intro t;cases d with
 |none=>exact h t
 |some d=>rw[pe,pe,h t]
theorem CD{N:Nat}{a:Fr}{x y:Option Tmp}{v b:ah}(h:∀d,x=some d->y≠some d):ext (put N (put N a x v) y b) (put N (put N a y b) x v):=by
 intro e;cases x with
 |none=>rfl
 |some d=>
  cases y with
  |none=>rfl
  |some c=>
   have f:d≠c:=λg=>h d rfl G;simp only[pe]
   grind
theorem CE{a b:Fr}(h:ext a b):ev a=ev b:=by
 funext x;cases x<;>simp[ev,h _]
theorem Wu{all:List vB}{a b:Fr}(h:ext a b)(o:vB):lj all a o=lj all b o:=by
 unfold lj;simp only[h _]
theorem SK{all:List vB}{o:vB}{t:Nat}(h:Operand.tmp t∈o.op.operands):t∈looks all o:=
 E2.2 (.inl<|(Yx o.op _).2 h)
theorem PW{all:List vB}{N:Nat}{fr:Fr}{o:vB}(a:∀cs b,o.op≠.select cs b){d:Option Tmp}{v:ah}(h:∀x,d=some x->x∉looks all o):execOp (ev (put N fr d v)) o=execOp (ev fr) o:=by
 refine execOp_congr o a λx c=>?_;cases x with
 |tmp f=>
  cases d with
  |none=>rfl
  |some e=>
   simp only[ev,pe];rw[gv];rintro⟨rfl,_⟩;exact h e rfl (SK c)
 |_=>rfl
theorem PX{all:List vB}{N:Nat}{fr:Fr}{o:vB}{d:Option Tmp}{v:ah}(h:∀x,d=some x->x∉looks all o):lj all (put N fr d v) o=lj all fr o:=by
 cases d with
 |none=>rfl
 |some c=>
  unfold lj;cases e:o.guard with
  |none=>rfl
  |some a=>
   obtain⟨b,f⟩:=a;dsimp only;cases g:GP all b with
   |none=>rfl
   |some d=>
    have i:d∈looks all o:=by simp_all[looks,E2]
    simp only[pe]
    grind
section
variable{P:iI}{Ty:aC->Option dL}{Fn:aM->Bool}{E:ga->ga->Prop}{N:Nat}{C:ga->Prop}{all:List vB}{Kend:Fr->ga->Prop}
theorem Yy{o:vB}{ρ a:St->ah}{w:ga}{K:ah->ga->Prop}(b:execOp ρ o=execOp a o)(h:EX P E o ρ w K):EX P E o a w K:=by simp_all[EX]
def cS(Ty:aC->Option dL)(all:List vB)(C:ga->Prop)(o:vB)(w w':ga):Prop:=(ia Ty o=true->w'=w)/\(ia Ty o=false->IP Ty all o.after.toList=true->C w')
def yh(P:iI)(Ty:aC->Option dL)(E:ga->ga->Prop)(N:Nat)(C:ga->Prop)(all:List vB)(Kend:Fr->ga->Prop):Nat->At->Fr->ga->Prop
 |0,ls,fr,w=>gW ls 0 all=[]/\Kend fr w
 |n+1,ls,fr,w=>(gW ls 0 all=[]->Kend fr w)/\∀x∈gW ls 0 all,
   if lj all fr x.2=true then EX P E x.2 (ev fr) w λv w'=>cS Ty all C x.2 w w'/\yh P Ty E N C all Kend n (lL ls x.1) (put N fr x.2.dst v) w'
   else yh P Ty E N C all Kend n (lL ls x.1) (put N fr x.2.dst undef) w
theorem Ja(hE:K8 E)(hK:∀a b w,ext a b->Kend a w->Kend b w):∀(n:Nat)(ls:At)(a b:Fr)(w:ga),ext a b->yh P Ty E N C all Kend n ls a w->yh P Ty E N C all Kend n ls b w
 |0,ls,a,b,w,he,h=>⟨h.1,hK a b w he h.2⟩
 |n+1,ls,a,b,w,he,h=>by
  refine⟨λh0=>hK a b w he (h.1 h0),λx hx=>?_⟩
  have:=h.2 x hx
  rw[Wu he] at this
  split
  ·rename_i hw
   rw[gD hw] at this
   rw[<-CE he]
   exact this.mono (λv w' _ hk=>⟨hk.1,Ja hE hK n _ _ _ w' (UD he _ _) hk.2⟩) hE.trans
  ·rename_i hw
   rw[gv hw] at this
   exact Ja hE hK n _ _ _ w (UD he _ _) this
def Cl(all:List vB)(ls:At):Prop:=∀j o,all[j]? =some o->(ar ls).getD j false=true->∀e∈o.after,Region.binds .any e=true->(ar ls).getD e.on false=true
theorem E3{i:Nat}:∀{es:List Edge}{m:A0},i∈C8 es m↔(∃e∈es,Region.binds .any e=true/\e.on=i)\/i∈m
 |[],m=>by simp[C8]
 |e::l,m=>by
  have ih:=E3 (i:=i) (es:=l) (m:=m)
  have e1:(∃x∈e::l,Region.binds .any x=true/\x.on=i)↔(Region.binds .any e=true/\e.on=i)\/∃x∈l,Region.binds .any x=true/\x.on=i:=V
  rw[e1,or_assoc,<-ih]
  have hb:Region.binds .any e=(match e.ground with|.textOnly _|.gcOnly _=>false|_=>true):=by rfl
  rw[hb]
  conv=>lhs;unfold C8
  grind
theorem BL{ls:At}(hcl:Cl all ls):∀(n:Nat)(todo done:A0),(∀j∈todo,(ar ls).getD j false=true)->(∀j∈done,(ar ls).getD j false=true)->∀j∈p7 all n todo done,(ar ls).getD j false=true
 |0,_,done,_,h2,j,hj=>h2 j hj
 |n+1,[],done,_,h2,j,hj=>h2 j hj
 |n+1,k::todo,done,h1,h2,j,hj=>by
  unfold p7 at hj
  have hk:=h1 k V
  split at hj
  ·exact BL hcl n todo done (λj hj=>h1 j G) h2 j hj
  ·refine BL hcl n _ _ (λj hj=>?_) (λj hj=>?_) j hj
   ·split at hj
    ·rename_i o ho
     rw[Ny] at ho
     rcases E3.1 hj with⟨e,he,hb,rfl⟩|hj
     ·exact hcl k o ho hk e η hb
     simp_all
    simp_all
   grind
theorem PY{cl:A0}:∀{l:List vB}{j:Nat},Ma Ty cl j l=false->∀k o,l[k]? =some o->ia Ty o=true->j+k∈cl
 |[],j,_,k,o,hk,_=>by simp at hk
 |q::l,j,h,k,o,hk,hs=>by
  simp only[Ma,Bool.or_eq_false_iff,Bool.and_eq_false_iff,Bool.not_eq_false'] at h
  cases k with
  |zero=>
   simp only[sL,Option.some.injEq] at hk
   subst hk
   rcases h.1 with h1|h1
   ·rw[hs] at h1;cases h1
   ·exact yg.1 h1
  |succ k=>have:=PY h.2 k o (by simpa using hk) hs;rwa [show j+1+k=j+(k+1) by omega] at this
theorem De{cl:A0}:∀{l:List vB}{j:Nat},BK Ty cl j l=false->∀(k:Nat)(o:vB),l[k]? =some o->C_ Ty o=true->j+k∈cl
 |[],j,_,k,o,hk,_=>η
 |p::l,j,h,k,o,hk,hs=>by
  simp only[BK,Bool.or_eq_false_iff,Bool.and_eq_false_iff,Bool.not_eq_false'] at h
  cases k with
  |zero=>
   simp_all[Option.some.injEq,yg]
  |succ k=>have:=De h.2 k o η hs;grind
theorem GS{ls:At}{i:Nat}{a:vB}(c:Cl all ls)(g:PG ls i a=true)(h:IP Ty all a.after.toList=false)(k:Nat)(o:vB)(d:all[k]? =some o)(e:C_ Ty o=true):(ar ls).getD k false=true:=by
 have b:=De h k o d e;rw[lS] at b;refine BL c _ _ _ (λj f=>?_) (λl m=>G) k b
 rcases E3.1 f with⟨l,m,n,rfl⟩|p
 ·simp_all[pf]
 simp_all
theorem Mj{cl:A0}:∀{l:List vB}{j:Nat},BK Ty cl j l=true->Ma Ty cl j l=true
 |[],j,h=>by grind[BK]
 |p::l,j,h=>by
  simp only[BK,kj,jn] at h
  simp only[Ma,kj,jn]
  rcases h with⟨h1,h2⟩|h
  ·simp_all[C_]
  ·exact .inr (Mj h)
theorem PZ{o:vB}(h:IP Ty all o.after.toList=true):Mb Ty all o=true:=by
 unfold Mb
 split
 ·omega
 ·exact Mj h
theorem P0{ls:At}{i:Nat}{a:vB}(b:Cl all ls)(c:PG ls i a=true)(h:Mb Ty all a=false)(k:Nat)(o:vB)(d:all[k]? =some o)(e:C_ Ty o=true):(ar ls).getD k false=true:=by grind[GS,IP,PZ]
theorem Cl.set{ls:At}{i:Nat}{b:vB}(d:Cl all ls)(hi:all[i]? =some b)(l:PG ls i b=true):Cl all (lL ls i):=by
 intro c e f a g h j;rw[z7] at a ⊢
 by_cases k:i=c
 ·grind[getD_set_true,pf]
 ·rw[getD_set_ne false k] at a;exact getD_set_true (d c e f a g h j)
theorem Wv{ls:At}{i j:Nat}{a:vB}(hi:(ar ls).getD i true=false)(c:PG ls j a=true):nT i a.after.toList=false:=by
 cases b:nT i a.after.toList with
 |false=>rfl
 |true=>
  obtain⟨d,e,f,rfl⟩:=Mh.1 b
  grind[pf,Nat.lt_or_ge,ar,Array.getElem?_eq_none]
theorem BM(hE:K8 E)(hK:∀a b w,ext a b->Kend a w->Kend b w)(hsel:∀(k:Nat)(o:vB) cs b,all[k]? =some o->o.op≠.select cs b)
  {i:Nat} {oi:vB} {v:ah} {D:ga->Prop} (hi:all[i]? =some oi) (hst:ia Ty oi=true) (hD:(∀w,D w)\/(C_ Ty oi=true/\∀w,C w->D w)):∀(n:Nat)(ls:At)(fr:Fr)(w:ga),Cl all ls->
   (∀j oj,all[j]? =some oj->j≠i->(ar ls).getD j true=false->nT i oj.after.toList=false->EW all oi oj=true)->
   PG ls i oi=true->((lj all fr oi=true/\∀w,D w->(execOp (ev fr) oi).run P w=.ok (.value v) w)\/(lj all fr oi=false/\v=undef))->(C_ Ty oi=true->C w)->
   yh P Ty E N C all Kend n (lL ls i) (put N fr oi.dst v) w->yh P Ty E N C all Kend (n+1) ls fr w:=by
 have ad:∀w,(C_ Ty oi=true->C w)->D w:=λw h=>by
  rcases hD with hD|⟨h1,h2⟩
  ·exact hD w
  ·exact h2 w (h h1)
 have same:∀(n:Nat)(ls:At)(fr:Fr)(w:ga),((lj all fr oi=true/\∀w,D w->(execOp (ev fr) oi).run P w=.ok (.value v) w)\/(lj all fr oi=false/\v=undef))->D w->
   yh P Ty E N C all Kend n (lL ls i) (put N fr oi.dst v) w->
   (if lj all fr oi=true then EX P E oi (ev fr) w λv w'=>cS Ty all C oi w w'/\yh P Ty E N C all Kend n (lL ls i) (put N fr oi.dst v) w'
    else yh P Ty E N C all Kend n (lL ls i) (put N fr oi.dst undef) w):=by
  intro n ls fr w hy a8 H
  rcases hy with⟨hw,hv⟩|⟨hw,rfl⟩
  ·rw[gD hw];exact iX (hv w a8) (hE.ofEv _ _<|Ev.refl w) ⟨⟨λ_=>rfl,λh=>by rw[hst] at h;cases h⟩,H⟩
  simp_all
 intro n
 induction n with
 |zero=>
  intro ls fr w a0 O hr hy hC H;have J:(i,oi)∈gW ls 0 all:=jF.2 ⟨hi,hr⟩;refine⟨λh=>(by rw[h] at J;cases J),λx hx=>?_⟩;obtain⟨U,V⟩:=jF.1 hx
  by_cases W:x.1=i
  ·grind
  ·have:x∈gW (lL ls i) 0 all:=jF.2 ⟨U,I_ V W⟩;rw[H.1] at this;simp_all
 |succ n ih=>
  intro ls fr w a0 O hr hy hC H;have J:(i,oi)∈gW ls 0 all:=jF.2 ⟨hi,hr⟩;refine⟨λh=>(by rw[h] at J;cases J),λx hx=>?_⟩;obtain⟨U,V⟩:=jF.1 hx
  by_cases W:x.1=i
  ·grind
  ·have h1:=H.2 x<|jF.2 ⟨U,I_ V W⟩;have a5:(ar ls).getD i true=false:=(pf.1 hr).1;have a7:=Wv a5 V;have a9:=O x.1 x.2 U W (pf.1 V).1 a7;obtain⟨a1,a2,a3⟩:=Wt a9;have Z:C_ Ty oi=true->IP Ty all x.2.after.toList=true:=λY=>by grind[IP,GS,Nat.lt_or_ge,ar,Array.getElem?_eq_none]
   have a4:∀u,((lj all (put N fr x.2.dst u) oi=true/\∀w,D w->(execOp (ev<|put N fr x.2.dst u) oi).run P w=.ok (.value v) w)\/(lj all (put N fr x.2.dst u) oi=false/\v=undef)):=λu=>by
    rw[PX a3,PW (all:=all) (hsel i oi · · hi) a3];omega
   have X:∀j oj,all[j]? =some oj->j≠i->(ar<|lL ls x.1).getD j true=false->nT i oj.after.toList=false->EW all oi oj=true:=λj oj h1 h2 h3 h4=>by
    refine O j oj h1 h2 ?_ h4;rw[z7] at h3
    by_cases aa:x.1=j
    ·simp_all
    simp_all
   have go:∀u w',(C_ Ty oi=true->C w')->yh P Ty E N C all Kend n (lL (lL ls i) x.1) (put N (put N fr oi.dst v) x.2.dst u) w'->yh P Ty E N C all Kend (n+1) (lL ls x.1) (put N fr x.2.dst u) w':=λu w' a6 hA=>by
    refine ih (lL ls x.1) (put N fr x.2.dst u) w' (a0.set U V) X (I_ hr<|Ne.symm W) (a4 u) a6 ?_;rw[Ws];exact Ja hE hK n _ _ _ w' (CD a2) hA
   rw[PX a1] at h1
   split
   ·rename_i hw;rw[gD hw] at h1;have h2:=Yy (PW (all:=all) (hsel x.1 x.2 · · U) a1) h1;refine h2.mono (λu w' _ hk=>⟨hk.1,go u w' (λY=>?_) hk.2⟩) hE.trans;cases hs:ia Ty x.2 with
    |true=>rw[hk.1.1 hs];exact hC Y
    |false=>exact hk.1.2 hs (Z Y)
   grind
theorem wO{ls:At}:∀{l:List vB}{i:Nat}{x:Nat×vB},j_ Ty ls i l=some x->∃k,x.1=i+k/\l[k]? =some x.2/\ia Ty x.2=true/\PG ls x.1 x.2=true
 |[],i,x,h=>by grind[j_]
 |o::l,i,x,h=>by
  simp only[j_,Bool.cond_eq_ite] at h
  split at h
  ·rename_i hc
   cases h
   simp_all
  ·obtain⟨k,h1,h2,h3⟩:=wO h
   exact⟨k+1,U,η,h3⟩
theorem P1{f:Nat×vB->Prop}:∀{l:List (Nat×vB)},wz l f->∀x∈l,f x
 |[],_,x,hx=>by cases hx
 |[y],h,x,hx=>by simp at hx;rw[hx];exact h
 |y::z::l,h,x,hx=>by
  obtain⟨h1,h2⟩:=h
  rcases jb.1 hx with rfl|hx
  ·exact h1
  ·exact P1 h2 x hx
theorem NB(hE:K8 E){C C':ga->Prop}(hC:∀w,C' w->C w):∀(n:Nat)(ls:At)(fr:Fr)(w:ga),yh P Ty E N C' all Kend n ls fr w->yh P Ty E N C all Kend n ls fr w
 |0,ls,fr,w,h=>by simp_all[yh]
 |n+1,ls,fr,w,h=>by
  refine⟨h.1,λx hx=>?_⟩
  have h1:=h.2 x hx
  split
  ·rename_i hw
   rw[gD hw] at h1
   exact h1.mono (λv w' _ hk=>⟨⟨hk.1.1,λh1 h2=>hC _ (hk.1.2 h1 h2)⟩,NB hE hC n _ _ w' hk.2⟩) hE.trans
  ·rename_i hw
   rw[gv hw] at h1
   exact NB hE hC n _ _ w h1
theorem SL{ld ld':vP->dL->(ah->Prop)->Prop}{rs rs':Sem ah->(ah->Prop)->Prop}{o:vB}{fr:Fr}{K:ah->Prop}(hp:Nu Ty o=true)(h:ya P Ty ld rs o fr K):ya P Ty ld' rs' o fr K:=by
 obtain⟨U,op,O,pos,J,u⟩:=o;cases op<;>simp only[Nu,o8] at hp
 case binOp op t x y yt=>
  unfold ya at h ⊢;dsimp only at h ⊢;rw[hp] at h ⊢;exact h
 all_goals exact h
theorem wP{ls:At}:∀{l:List vB}{i:Nat},j_ Ty ls i l=none->∀(k:Nat)(o:vB),l[k]? =some o->PG ls (i+k) o=true->ia Ty o=false
 |[],i,_,k,o,hk,_=>η
 |p::l,i,h,k,o,hk,hr=>by
  simp only[j_,Bool.cond_eq_ite] at h
  split at h
  ·grind
  ·rename_i hc
   cases k with
   |zero=>
    simp_all
   |succ k=>exact wP h k o η G
theorem lq(hT:fb P Ty)(hF:t_ P Fn)(hE:K8 E){K0:Fr->ga->Prop}(hsub:∀fr w,K0 fr w->Kend fr w)(hK:∀a b w,ext a b->Kend a w->Kend b w)(hsel:∀(k:Nat)(o:vB) cs b,all[k]? =some o->o.op≠.select cs b):
  ∀(n:Nat)(C:ga->Prop)(ls:At)(fr:Fr)(w:ga),Cl all ls->(C w\/∀k o,all[k]? =some o->C_ Ty o=true->(ar ls).getD k true=true)->GQ P Ty Fn E N C all K0 n ls fr w->yh P Ty E N C all Kend n ls fr w
 |0,C,ls,fr,w,_,_,h=>by
  unfold GQ at h
  split at h
  ·rename_i h0;exact⟨h0,hsub _ _ h⟩
  simp_all
 |n+1,C,ls,fr,w,hcl,hinv,h=>by
  have listed:∀j,(C w\/∀k o,all[k]? =some o->C_ Ty o=true->(ar (lL ls j)).getD k true=true):=λj=>by
   rcases hinv with h|h
   ·simp_all
   ·refine .inr λk o hk hs=>?_
    rw[z7]
    by_cases hjk:j=k
    ·simp_all
    simp_all
  unfold GQ at h
  split at h
  ·rename_i i o hfs
   obtain⟨k,hk1,hk2,hst,hr⟩:=wO hfs
   rw[lS] at hk1
   dsimp only at hk1 hk2 hst hr
   subst hk1
   obtain⟨hfr,h⟩:=bn.1 h
   have hC:C_ Ty o=true->C w:=λhrd=>hinv.resolve_right λh=>by simp_all[pf]
   have hfree:=λj oj h1 h2 h3 h4=>Mi hfr j oj h1 (by rw[lS];exact h2) (by rw[lS];exact h3) h4
   rw[E1] at h
   by_cases hw:lj all fr o=true
   ·rw[gD hw] at h
    by_cases hp:Nu Ty o=true
    ·obtain⟨v,h1,h2⟩:=yf hT (C:=λ_=>True) (ld:=λad i k=>∃v,(∀w,True->rV w ad i v)/\k v) (rs:=λs k=>∃v,(∀w,True->s.run P w=.ok v w)/\k v) (λ_ _ _ h=>h) (λ_ _ h=>h) (SL hp h)
     exact BM hE hK hsel hk2 hst (D:=λ_=>True) (.inl λ_=>trivial) n ls fr w hcl hfree hr (.inl ⟨hw,h1⟩) hC (lq hT hF hE hsub hK hsel n _ _ _ w (hcl.set hk2 hr) (listed i) (rY h2))
    ·obtain⟨v,h1,h2⟩:=yf hT (C:=C) (λ_ _ _ h=>Yo h) (λ_ _ h=>h) h
     exact BM hE hK hsel hk2 hst (D:=C) (.inr ⟨by simp_all[C_],λ_ h=>h⟩) n ls fr w hcl hfree hr (.inl ⟨hw,h1⟩) hC (lq hT hF hE hsub hK hsel n _ _ _ w (hcl.set hk2 hr) (listed i) (rY h2))
   ·rw[gv hw] at h
    exact BM hE hK hsel hk2 hst (D:=λ_=>True) (.inl λ_=>trivial) n ls fr w hcl hfree hr (.inr ⟨η,rfl⟩) hC (lq hT hF hE hsub hK hsel n _ _ _ w (hcl.set hk2 hr) (listed i) h)
  ·rename_i hfs
   split at h
   ·rename_i h0
    exact⟨λ_=>hsub _ _ h,λx hx=>η⟩
   ·rename_i es hne
    refine⟨λh0=>absurd h0 hne,λx hx=>?_⟩
    have h1:=P1 h x hx
    rw[E1] at h1
    obtain⟨hx1,hx2⟩:=jF.1 hx
    split
    ·rename_i hw
     rw[gD hw] at h1
     refine(Me hT hF hE.ofEv h1).mono (λv w' _ hk=>?_) hE.trans
     have hk:=rY hk
     have eff:∀{X:ga->Prop},(Mb Ty all x.2=true->X w')->ia Ty x.2=false->cS Ty all X x.2 w w':=λhX hs=>⟨λh=>η,λ_ hn=>hX (PZ hn)⟩
     have hes:ia Ty x.2=false:=wP hfs x.1 x.2 hx1 η
     cases hn:Mb Ty all x.2 with
     |true=>
      rw[hn] at hk
      unfold yj at hk
      dsimp only at hk
      split at hk
      ·obtain⟨C',k1,k2,k3⟩:=hk
       exact⟨eff (λ_=>k2 _ k1) hes,NB hE k2 n _ _ w' (lq hT hF hE hsub hK hsel n C' _ _ w' (hcl.set hx1 hx2) (.inl k1) k3)⟩
      ·exact⟨eff (λ_=>hk.1) hes,lq hT hF hE hsub hK hsel n _ _ _ w' (hcl.set hx1 hx2) (.inl hk.1) hk.2⟩
     |false=>
      rw[hn] at hk
      refine⟨eff (λh=>(by rw[hn] at h;cases h)) hes,lq hT hF hE hsub hK hsel n _ _ _ w' (hcl.set hx1 hx2) (.inr λk o hk' hs=>?_) hk⟩
      grind[P0,ar,lL,z7,getD_set_true,Nat.lt_or_ge,Array.getElem?_eq_none]
    ·rename_i hw
     rw[gv hw] at h1
     exact lq hT hF hE hsub hK hsel n _ _ _ w (hcl.set hx1 hx2) (listed _) h1
end
def XY(D:Nat):Deferred:={ target:=.collected D,args:=#[] }
def Mk(rf:Bool)(w0 w:ga)(ds:List Deferred):Prop:=(rf=false->ds=[])/\∃Ds:A0,ds=Ds.map XY/\Ds.Nodup/\∀D∈Ds,w0.heap.size<=D/\w.heap[D]? =some (Obj.deferred (some []))
theorem Mk.nil{rf:Bool}(a w:ga):Mk rf a w []:=⟨λ_=>rfl,[],rfl,List.nodup_nil,λ_ b=>G⟩
section
variable{P:iI}{Ty:aC->Option dL}{Fn:aM->Bool}{E:ga->ga->Prop}{rf:Bool}
theorem Mk.trans(f:K8 E){d b e:ga}{g h:List Deferred}(h0:E d b)(k:E b e)(l:Mk rf d b g)(m:Mk rf b e h):Mk rf d e (h++g):=by
 obtain⟨q,n,rfl,r,i⟩:=l;obtain⟨s,o,rfl,t,j⟩:=m
 refine⟨λa=>η,o++n,V,?_,?_⟩
 ·grind
 ·intro c p
  rcases iU.1 p with a|a
  ·exact⟨j3 (f.size h0) (j c a).1,(j c a).2⟩
  ·exact⟨(i c a).1,f.dfr k _ _ (i c a).2⟩
def QN(rf:Bool)(E:ga->ga->Prop)(N:Nat)(ws:A0)(fr0:Fr)(w0:ga)(ds:List Deferred)(n r:Fr->ga->Prop)(x:Nat->Fr->ga->Prop):Exit->Act->ga->Prop
 |.normal,a,w=>∃fr ds',a=bp N fr (ds'++ds)/\jt N fr/\rX ws fr0 fr/\E w0 w/\Mk rf w0 w ds'/\n fr w
 |.ret,a,w=>∃fr ds',a=bp N fr (ds'++ds)/\jt N fr/\rX ws fr0 fr/\E w0 w/\Mk rf w0 w ds'/\r fr w
 |.exit i,a,w=>∃fr ds',a=bp N fr (ds'++ds)/\jt N fr/\rX ws fr0 fr/\E w0 w/\Mk rf w0 w ds'/\x i fr w
 |_,_,_=>False
theorem QN.mono{N:Nat}{d q:A0}{f:Fr}{g:ga}{ds:List Deferred}{n r n' r':Fr->ga->Prop}{x x':Nat->Fr->ga->Prop}
  (j:∀t∈d,t∈q) (s:∀fr w,rX d f fr->E g w->n fr w->n' fr w) (v:∀fr w,r fr w->r' fr w) (y:∀i fr w,x i fr w->x' i fr w) {e:Exit} {a:Act} {w:ga}
  (h:QN rf E N d f g ds n r x e a w):QN rf E N q f g ds n' r' x' e a w:=by
 cases e<;>try exact h.elim
 all_goals (obtain⟨fr,k,l,m,b,c,o,p⟩:=h)
 ·exact⟨fr,k,l,m,b.mono j,c,o,s fr w b c p⟩
 ·exact⟨fr,k,l,m,b.mono j,c,o,y _ fr w p⟩
 ·exact⟨fr,k,l,m,b.mono j,c,o,v fr w p⟩
theorem QN.later(g:K8 E){N:Nat}{b i:A0}{j k:Fr}{c d:ga}{ds f:List Deferred}{n r:Fr->ga->Prop}{x:Nat->Fr->ga->Prop}
  (o:∀t∈i,t∈b) (p:rX b j k) (l:E c d) (q:Mk rf c d f) {e:Exit} {a:Act} {w:ga}
  (h:QN rf E N i k d (f++ds) n r x e a w):QN rf E N b j c ds n r x e a w:=by
 cases e<;>try exact h.elim
 all_goals
  obtain⟨s,v,F,y,z,m,A,C⟩:=h;exact⟨s,v++f,η,y,p.trans<|z.mono o,g.trans l m,Mk.trans g l m q A,C⟩
theorem NC:∀l m,SB l m=l++m
 |[],_=>rfl
 |x::l,m=>by simp[SB,NC l m]
theorem UE(a b:Code):tT (.seq a b)=tT a++tT b:=by simp[tT,NC]
theorem P3(c:St)(a b:Code):tT (.cond c a b)=tT a++tT b:=by simp[tT,NC]
def Yz(c:Cs)(v:ah):Prop:=∀f:ah->Prop,c.all f->f v
theorem Cs.ND{β:Type}(c:Cs)(b:β)(v:ah):c.ap (c.cst b) v b=b:=by
 cases c<;>cases v<;>simp only[Cs.ap,Cs.cst]<;>try rfl
 ·simp
 ·rename_i fn first u;cases fn<;>try rfl
  obtain⟨first⟩:=first;obtain⟨u⟩:=u;cases first<;>rfl
theorem Cs.Df{β:Type}{c:Cs}{g:c.arr β}{v:ah}{d:β}(D:β->Prop)(hd:¬D d)(h:D (c.ap g v d)):Yz c v:=by
 intro f ha;cases c<;>cases v<;>simp only[Cs.ap] at h<;>try exact absurd h hd
 case int.int k k' n=>
  cases hb:Nat.beq (kx k) (kx k')<;>rw[hb] at h
  ·exact absurd h hd
  ·rw[<-Yc hb];exact ha n
 case fn.func fn first u=>
  cases fn<;>try exact absurd h hd
  obtain⟨first⟩:=first
  obtain⟨u⟩:=u
  cases first
  ·exact ha _ _
  ·exact absurd h hd
 all_goals (first|exact ha _|exact ha _ _|exact ha _ _ _)
theorem NF{β:Type}(d:β):∀(l:List Cs)(vs:Ay),rF l (SA l d) vs d=d
 |[],[]=>rfl
 |[],_::_=>rfl
 |c::l,[]=>rfl
 |c::l,v::vs=>by
  show rF l (c.ap (c.cst (SA l d)) v (SA l d)) vs d=d
  rw[Cs.ND];exact NF d l vs
theorem Ml{β:Type}(d:β)(D:β->Prop)(hd:¬D d):∀{l:List Cs}{g:Wl l β}{vs:Ay},D (rF l g vs d)->∀f:Ay->Prop,tS l f->f vs
 |[],g,[],_=>λf ha=>ha
 |[],g,v::vs,h=>absurd h hd
 |c::l,g,[],h=>absurd h hd
 |c::l,g,v::vs,h=>λf ha=>by
  have h1:Yz c v:=Cs.Df (β:=Wl l β) (g:=g) (d:=SA l d) (λk=>D (rF l k vs d)) (by simp_all[NF]) h
  exact Ml d D hd (l:=l) h (λvs=>f (v::vs)) (h1 _ ha)
theorem S1.ND{β:Type}(c:S1)(b:β)(v:ah):c.ap (c.cst b) v b=b:=by
 cases c with
 |one c=>cases v<;>exact Cs.ND c b _
 |agg l=>cases v<;>first|exact NF b l _|rfl
theorem S1.Df{β:Type}{c:S1}{g:c.arr β}{v:ah}{d:β}(D:β->Prop)(hd:¬D d)(h:D (c.ap g v d)):∀f:ah->Prop,c.all f->f v:=by
 cases c with
 |one c=>exact Cs.Df D hd (by cases v<;>exact h)
 |agg l=>
  cases v<;>try exact absurd h hd
  rename_i cs;intro f ha;obtain⟨cs⟩:=cs;exact Ml d D hd (l:=l) h (λvs=>f<|.agg ⟨vs⟩) ha
theorem UF{β:Type}(d:β):∀(l:List S1)(vs:Ay),L9 l (Wm l d) vs d=d
 |[],[]=>rfl
 |[],_::_=>rfl
 |c::l,[]=>rfl
 |c::l,v::vs=>by
  show L9 l (c.ap (c.cst (Wm l d)) v (Wm l d)) vs d=d
  rw[S1.ND];exact UF d l vs
theorem E4{β:Type}(d:β)(D:β->Prop)(hd:¬D d):∀{l:List S1}{g:IL l β}{vs:Ay},D (L9 l g vs d)->∀f:Ay->Prop,PE l f->f vs
 |[],g,[],_=>λf ha=>ha
 |[],g,v::vs,h=>absurd h hd
 |c::l,g,[],h=>absurd h hd
 |c::l,g,v::vs,h=>λf ha=>by
  have h1:=S1.Df (β:=IL l β) (c:=c) (g:=g) (v:=v) (d:=Wm l d) (λk=>D (L9 l k vs d)) (by simp_all[UF]) h
  exact E4 d D hd (l:=l) h (λvs=>f (v::vs)) (h1 _ ha)
theorem E5{N:Nat}{d:Nat->ah}(t:Nat)(ht:t<N):∀(ws:A0)(fr:Fr),(∀s,fG fr s=d s\/s∉ws)\/True->fG (wN N d ws fr) t=if t∈ws then d t else fG fr t
 |[],fr,_=>by rfl
 |s::ws,fr,_=>by
  rw[wN,E5 t ht ws _ (.inr trivial)]
  by_cases h:t∈ws
  ·grind
  ·rw[gv h,pe]
   grind
theorem Jb{N:Nat}(t:Nat)(ht:t<N)(fr2:Fr):∀(lv:List (Nat×S1))(fr:Fr),fG (qU N fr lv (yb fr2 lv)) t=if t∈lv.map (·.1) then fG fr2 t else fG fr t
 |[],fr=>by rfl
 |(s,c)::lv,fr=>by
  rw[yb,qU,Jb t ht fr2 lv]
  by_cases h:t∈lv.map (·.1)
  ·simp_all
  ·rw[gv h,pe]
   grind
theorem p_{N:Nat}{d:Nat->ah}:∀(ws:A0){fr:Fr},jt N fr->jt N (wN N d ws fr)
 |[],_,h=>h
 |s::ws,_,h=>p_ ws (xY h _ _)
theorem pU{N:Nat}:∀(lv:List (Nat×S1))(vs:Ay){fr:Fr},jt N fr->jt N (qU N fr lv vs)
 |[],_,_,h=>h
 |(s,c)::lv,[],_,h=>h
 |(s,c)::lv,v::vs,_,h=>pU lv vs (xY h _ _)
theorem Jc{N:Nat}{ws:A0}{fr fr2:Fr}(lv:List (Nat×S1))(ds:List Deferred)(ha:rX ws fr fr2):
  bp N (qU N (wN N (fG fr2) ws fr) lv (yb fr2 lv)) ds=bp N fr2 ds:=by
 refine GM ds λt ht=>?_;rw[Jb t ht]
 split
 ·rfl
 ·rw[E5 t ht ws fr (.inr trivial)]
  split
  ·rfl
  ·rename_i h;exact(ha t h).symm
end
section
variable{P:iI}{Ty:aC->Option dL}{Fn:aM->Bool}{E:ga->ga->Prop}{N:Nat}{i:Option Nat}{k:Nat}
theorem E6{b:A0}{fr c:Fr}(d:List (Nat×S1))(f:jt N fr)(g:rX b fr c):rX b fr (qU N (wN N (fG c) b fr) d (yb c d)):=by
 intro a h
 by_cases e:a<N
 ·rw[Jb a e]
  split
  ·exact g a h
  simp_all[E5]
 ·rw[pU d _ (p_ b f) a (Nat.le_of_not_lt e),f a<|Nat.le_of_not_lt e]
theorem Mm(hE:K8 E){C:ga->Prop}{all:List vB}{Kend:Fr->ga->Prop}{ds:List Deferred}{Q:Exit->Act->ga->Prop}:
  ∀(n:Nat)(ls:At)(fr:Fr)(w:ga),yh P Ty E N C all Kend n ls fr w->jt N fr->
   (∀fr' w',jt N fr'->rX (lJ all) fr fr'->E w w'->Kend fr' w'->Q .normal (bp N fr' ds) w')->wpAnyIn (wf i) k P .any ⟨all⟩ Q n (ar ls) (bp N fr ds) w
 |0,ls,fr,w,h,hf,hQ=>by
  refine⟨?_,hQ fr w hf (rX.refl _ _) (hE.ofEv _ _ (Ev.refl w)) h.2⟩
  cases hr:Region.ready .any ⟨all⟩ (ar ls) with
  |nil=>rfl
  |cons j l=>
   have:j∈Region.ready .any ⟨all⟩ (ar ls):=η
   obtain⟨o,ho⟩:=sQ.1 this
   rw[h.1] at ho;grind
 |n+1,ls,fr,w,h,hf,hQ=>by
  refine⟨λh0=>?_,λj hj=>?_⟩
  ·refine hQ fr w hf (rX.refl _ _) (hE.ofEv _ _ (Ev.refl w)) (h.1 ?_)
   cases hr:gW ls 0 all with
   |nil=>rfl
   |cons x l=>
    have:x.1∈Region.ready .any ⟨all⟩ (ar ls):=sQ.2 ⟨x.2,η⟩
    simp_all
  ·obtain⟨o,ho⟩:=sQ.1 hj
   have hx:=h.2 (j,o) ho
   obtain⟨h1,h2⟩:=jF.1 ho
   dsimp only at hx h1 h2
   have ho':(⟨all⟩:Array vB)[j]? =some o:=η
   unfold wpOpIn
   simp only[ho',Mf hf]
   have sub:∀x,o.dst=some x->x∈lJ all:=by
    intro x hx
    have:∀(l:List vB)(j:Nat),l[j]? =some o->x∈lJ l:=by
     intro l
     induction l with
     |nil=>simp
     |cons p l ih=>
      grind[lJ]
    grind
   have next:∀v w',E w w'->yh P Ty E N C all Kend n (lL ls j) (put N fr o.dst v) w'->wpAnyIn (wf i) k P .any ⟨all⟩ Q n ((ar ls).setIfInBounds j true) ((bp N fr ds).put o.dst v) w':=λv w' hew hd=>by
    rw[Ic,<-z7]
    exact Mm hE n _ _ w' hd (xY hf _ _) λfr' w'' h1 h2 h3 h4=>hQ fr' w'' h1 (((rX.refl _ fr).put v sub).trans h2) (hE.trans hew h3) h4
   split
   ·rename_i hw
    rw[gD hw] at hx
    refine PU (E:=E) ?_
    rw[Ib N fr ds hf]
    refine hx.mono (λv w' hew hk=>next v w' hew ?_) hE.trans
    simp_all
   ·rename_i hw
    rw[gv hw] at hx
    exact⟨λ_ _=>trivial,next undef w (hE.ofEv _ _ (Ev.refl w)) hx⟩
theorem UG:∀l,uk.lenO l=l.length
 |[]=>rfl
 |_::l=>by simp[uk.lenO,UG l]
theorem Jd:∀n,Ux n=List.replicate n false
 |0=>rfl
 |n+1=>by simp[Ux,Jd n,oH]
theorem P4:∀{ops:List vB},Uz ops=true->∀(k:Nat)(o:vB) cs b,ops[k]? =some o->o.op≠.select cs b
 |[],_,k,o,cs,b,hk=>η
 |p::l,h,k,o,cs,b,hk=>by
  simp only[Uz,jn] at h
  cases k with
  |zero=>grind
  |succ k=>exact P4 h.2 k o cs b η
theorem CG(n j:Nat):(ar (List.replicate n false)).getD j false=false:=by
 by_cases h:j<n<;>simp[ar,h]
theorem Ww(e:fb P Ty)(f:t_ P Fn)(b:K8 E)(n:P.follows .mixedOrders=true){o:Nat}{a:Array vB}{c:Bool}{fr:Fr}{w:ga}{K:Fr->ga->Prop}{ds:List Deferred}{Q:Exit->Act->ga->Prop}
  (h:uk P Ty Fn E N a.toList c fr w K) (g:jt N fr)
  (j:∀fr' w',jt N fr'->rX (lJ a.toList) fr fr'->E w w'->K fr' w'->Q .normal (bp N fr' ds) w'):(Code.region o a c).wpIn (wf i) k P Q (bp N fr ds) w:=by
 cases c with
 |false=>
  refine wpIn_region_list ?_;exact Mg e f b a.toList 0 fr w h g j
 |true=>
  refine wpIn_region_any n ?_;obtain⟨p,h⟩:=bn.1 h;obtain⟨F,q,r⟩:=h _ rfl;have s:∀(d l:Fr)(w:ga),ext d l->(∃m,ext m d/\K m w)->∃m,ext m l/\K m w:=λx y w l ⟨m,t,v⟩=>⟨m,λd=>(t d).trans (l d),v⟩;have:=lq e f b (Kend:=λfr w=>∃d,ext d fr/\K d w) (λfr w h=>⟨fr,λ_=>rfl,h⟩) s (P4 p) _ _ _ fr _ (λd l _ m=>by grind[Jd,CG]) (.inl q) r;rw[UG,Jd] at this;have t:(Array.replicate a.size false)=ar (List.replicate a.toList.length false):=by rfl
  rw[t];have v:a.size=a.toList.length:=V
  rw[v];refine Mm b (ds:=ds) (Q:=Q) _ _ fr _ this g λfr' w' x y z ⟨l,d,A⟩=>?_;rw[GM ds (fr:=fr') (fr':=l) λm _=>(d m).symm];exact j l w' (λm C=>by rw[d m];exact x m C) (λm C=>by rw[d m];exact y m C) (b.trans (b.ofEv _ _<|Ev.drew w _) z) A
end
structure Je(l:Nat)(w w':ga):Prop where
 os:w'.os=w.os
 tape:w'.tape=w.tape
 output:w'.output=w.output
 size:w.heap.size<=w'.heap.size
 dfr:∀(b:Nat)(d:Option (List Deferred)),w.heap[b]? =some (Obj.deferred d)->w'.heap[b]? =some (Obj.deferred d)
 lop:∀(b:Nat)(d:Loop),b≠l->w.heap[b]? =some (Obj.loop d)->w'.heap[b]? =some (Obj.loop d)
theorem Je.trans{l:Nat}{a b c:ga}(h:Je l a b)(k:Je l b c):Je l a c:=
 ⟨k.os.trans h.os,k.tape.trans h.tape,k.output.trans h.output,j3 h.size k.size,λd e f=>k.dfr d e<|h.dfr d e f,λd e f g=>k.lop d e f<|h.lop d e f g⟩
theorem Je.of{l:Nat}{a b:ga}(h:Ev a b):Je l a b:=⟨h.os,h.tape,h.output,h.size,h.dfr,λc d _ e=>h.lop c d e⟩
theorem CI(l:Nat):K8 (Je l):=⟨λa b=>a.trans b,λ_ _ a=>.of a,λa b c d=>a.dfr b c d,λa=>a.size⟩
theorem Je.putObj{l:Nat}{w:ga}{r r':Loop}(h:w.heap[l]? =some (.loop r)):Je l w (w.putObj l (.loop r')):=by
 refine⟨rfl,rfl,rfl,V,λa b c=>?_,λa b d c=>?_⟩
 ·grind[World.putObj_heap_other]
 simp_all[World.putObj_heap_other]
theorem Ev.back{l:Nat}{a b c:ga}(d:Ev a b)(h:Je l b c)(i:a.heap.size<=l):Ev a c:=
 ⟨h.os.trans d.os,h.tape.trans d.tape,h.output.trans d.output,j3 d.size h.size,λe f g=>h.dfr e f<|d.dfr e f g,
  λe f g=>h.lop e f (λj=>η)<|d.lop e f g⟩
theorem W.putObj{w:ga}{b:Nat}{o:Obj}{L:List aG}(h:W w (blk b o::L))(o':Obj)(a:Pw o'=true:=by rfl):W (w.putObj b o') (blk b o'::L):=h.setObj o' a
theorem W.alloc{w:ga}{L:List aG}(h:W w L)(o:Obj)(a:Pw o=true:=by rfl):W (w.alloc o) (blk w.heap.size o::L):=h.push o a
theorem W.ae1{w:ga}{L:List aG}(h:W w L)(d:Option (List Deferred)):W (w.alloc (.deferred d)) L:=h.eq (Yb w d)
theorem UH{c:Cs}{q p:ah->Prop}(h:c.ex q)(ha:c.all p):∃v,q v/\p v:=by
 cases c<;>simp only[Cs.ex,Cs.all] at h ha
 case slice=>obtain⟨a,l,c,h⟩:=h;exact⟨_,h,ha _ _ _⟩
 case fn=>obtain⟨a,l,h⟩:=h;exact⟨_,h,ha _ _⟩
 case ifc=>obtain⟨a,l,h⟩:=h;exact⟨_,h,ha _ _⟩
 all_goals (obtain⟨a,h⟩:=h;exact⟨_,h,ha _⟩)
theorem CV{l:List Cs}:∀{q p:Ay->Prop},rB l q->tS l p->∃vs,q vs/\p vs:=by
 induction l with
 |nil=>exactλh k=>⟨[],h,k⟩
 |cons a l b=>intro q p h k;obtain⟨c,h,k⟩:=UH h k;grind
theorem YA{c:S1}{q p:ah->Prop}(h:c.ex q)(a:c.all p):∃v,q v/\p v:=by
 cases c with
 |one c=>exact UH h a
 |agg b=>obtain⟨d,h,e⟩:=CV h a;grind
theorem CY{l:List S1}:∀{q p:Ay->Prop},pb l q->PE l p->∃vs,vs.length=l.length/\q vs/\p vs:=by
 induction l with
 |nil=>exactλh k=>⟨[],rfl,h,k⟩
 |cons a l b=>intro q p h k;obtain⟨c,h,k⟩:=YA h k;grind
theorem P5{p:Nat->Prop}:∀{l:A0},wF l p->∀j,yc j l=true->p j
 |[],_,j,h=>by simp[yc] at h
 |[a],h,j,hj=>by
  simp only[yc,Bool.or_false] at hj
  rw[rm hj];exact h
 |a::b::l,h,j,hj=>by
  obtain⟨h1,h2⟩:=h
  by_cases e:Nat.beq j a=true
  ·rw[rm e];exact h1
  ·refine P5 h2 j ?_
   simp_all[yc]
theorem UI:∀lv,(C0 lv).length=lv.length
 |[]=>rfl
 |_::l=>by simp[C0,UI l]
theorem Mn:∀{ps:A0}{lv:List (Nat×S1)},yd ps lv=true->ps.length=lv.length
 |[],[],_=>rfl
 |[],_::_,h=>by grind[yd]
 |_::_,[],h=>by grind[yd]
 |a::l,(b,c)::m,h=>by simp only[yd,jn] at h;simp[Mn h.2]
theorem Mo{N:Nat}{d:List Deferred}:∀(ps:A0)(lv:List (Nat×S1))(vs:Ay)(fr:Fr),yd ps lv=true->vs.length=lv.length->
  (ps.zip vs).foldl (λ(t:Array ah)(x:Nat×ah)=>t.setIfInBounds x.1 x.2) (bp N fr d).tmps=(bp N (qU N fr lv vs) d).tmps
 |[],[],vs,fr,_,hl=>by rfl
 |[],_::_,_,_,h,_=>by grind[yd]
 |_::_,[],_,_,h,_=>by grind[yd]
 |a::l,(b,c)::m,[],fr,h,hl=>by rfl
 |a::l,(b,c)::m,v::vs,fr,h,hl=>by
  simp only[yd,jn] at h
  have hab:=rm h.1
  subst hab
  simp only[List.zip_cons_cons,List.foldl_cons,qU]
  have:=Ic N fr d (some a) v
  rw[<-Mo l m vs _ h.2 η,<-this]
  rfl
section
variable{P:iI}{Ty:aC->Option dL}{Fn:aM->Bool}{E:ga->ga->Prop}{N:Nat}{k:Nat}{rf:Bool}
theorem Wx(hrf:rf=true)(hT:fb P Ty)(hF:t_ P Fn)(hE:K8 E)(hEE:∀a b,E a b->Ev a b)(A:a_){f:St}{ps:Array Tmp}{a b:Code}{fr:Fr}{w:ga}{n r:Fr->ga->Prop}{x:Nat->Fr->ga->Prop}{ds:List Deferred}
    (iha:∀(ro:Option Nat)(k:Nat)(fr:Fr)(w:ga)(n r:Fr->ga->Prop)(x:Nat->Fr->ga->Prop),jZ P Ty Fn E N A a fr w n r x->jt N fr->∀ds,a.wpIn (wf ro) k P (QN rf E N (tT a) fr w ds n r x) (bp N fr ds) w)
    (ihb:∀(ro:Option Nat)(k:Nat)(fr:Fr)(w:ga)(n r:Fr->ga->Prop)(x:Nat->Fr->ga->Prop),jZ P Ty Fn E N A b fr w n r x->jt N fr->∀ds,b.wpIn (wf ro) k P (QN rf E N (tT b) fr w ds n r x) (bp N fr ds) w)
    {g:aM} {first cap:Array ah} {lv:List (Nat×S1)} (hv:ev fr f=.func (.func g) first cap) (hg:Fn g=true) (hps:yd ps.toList lv=true)
    (h : yl P g first.toList cap.toList (C0 lv) (lM b) w
          (λvs w K=>jZ P Ty Fn E N A a (qU N fr lv vs) w K (λ_ _=>False) (λ_ _ _=>False))
          (λfr1 w n' r' x'=>jZ P Ty Fn E N A b fr1 w (λ_ w=>n' w) (λ_ w=>r' w) (λj _ w=>x' j w)) (n fr) (r fr) (λj=>x j fr))
    (hf:jt N fr):(Code.rangeFunc f ps a b).wpIn (wf none) k P (QN rf E N [] fr w ds n r x) (bp N fr ds) w:=by
  obtain⟨xs,D,Q,J,Jr,Jx0,L,h0,hQL,hI,hty,hrd0,hn,hr,hx0⟩:=h
  let Jx:Nat->aG:=λj=>aT [pu (yc j (lM b)=true),Jx0 j]
  have jx:∀j w L,W w (Jx j::L)↔p9 (yc j<|lM b) (W w<|Jx0 j::L):=λj w L=>by
    rw[bn];exact W.flat.trans W.pu
  have hx:∀j w',W w' (Jx j::D::L)->x j fr w':=λj w' hs=>by
    obtain⟨h1,h2⟩:=bn.1 ((jx j w' _).1 hs)
    exact P5 hx0 j h1 w' h2
  have hrd:∀i,PE (C0 lv) λvs=>xs[i]? =some vs->∀L' w,PH L' L->W w (J i::L')->
      jZ P Ty Fn E N A a (qU N fr lv vs) w (λfr1 w1=>∃M:aG,W w1 (M::L')/\∀L' w,PH L' L->W w (M::L')->
        jZ P Ty Fn E N A b fr1 w (λ_ w'=>W w'<|J (i+1)::L') (λ_ w'=>W w'<|Jr::L') (λj _ w'=>W w'<|Jx j::L')) (λ_ _=>False) (λ_ _ _=>False):=λi=>η
  refine wpIn_rangeFunc λfn _=>?_
  let rec0:Loop:={ state:=.ready,pending:=none,fn,tmps:=(bp N fr ds).tmps,params:=ps,assign:=a,body:=b,defers:=w.heap.size }
  let w1:ga:=(w.alloc<|.deferred<|some []).alloc (.loop rec0)
  have hl:w.heap.size+1=(w.alloc<|.deferred<|some []).heap.size:=V
  have ew1:Ev w w1:=(Ev.push w _).trans (Ev.push _ _)
  have he:(f:St)=f:=rfl
  have e2:first++(#[.func (.yield<|w.heap.size+1) #[] #[]]:Array ah)++cap=⟨Hj first.toList [.func (.yield<|w.heap.size+1) #[] #[]] cap.toList⟩:=by simp[Ns]
  have hev:(bp N fr ds).eval f=.func (.func g) first cap:=by simp_all[Sv]
  refine⟨w.heap.size+1,[XY w.heap.size],w1,⟨.fn (.func g) cap,first++ #[.func (.yield<|w.heap.size+1) #[] #[]]⟩,w1,g,⟨Hj first.toList [.func (.yield<|w.heap.size+1) #[] #[]] cap.toList⟩,w1,
    run_enterLoop_outer fn _ ps a b,?_,λ_ _=>trivial,?_,λh=>(by cases h),?_⟩
  · simp only[resolve,List.map_toArray,kn,List.map_nil,hev,Deferred.ofValue,Sem.run_pure]
    rfl
  · grind[invoke,vq]
  · have hcall:jm P (Je<|w.heap.size+1) g (Hj first.toList [.func (.yield<|w.heap.size+1) #[] #[]] cap.toList) w1 _:=
      hI (w.heap.size+1) (Je<|w.heap.size+1) (CI _) (λi=>aT [J i,blk (w.heap.size+1)<|.loop rec0])
        (ex λc:Option Nat=>match c with
          |none=>aT [Jr,blk (w.heap.size+1)<|.loop { rec0 with state:=.done,pending:=some .ret }]
          |some j=>aT [Jx j,blk (w.heap.size+1)<|.loop { rec0 with state:=.done,pending:=some (.exit j) }])
        L w1 ?_ hQL ?_
    · refine callsIn_wide.2 ?_
      refine Calls.mono hcall ?_
      rintro e w3⟨v,rfl,hX,hQ⟩
      have fin:∀(st:LoopState)(pd:Option Code)(M:aG),st≠.busy->W w3 (M::blk (w.heap.size+1) (.loop { rec0 with state:=st,pending:=pd })::D::L)->
          ∃w4,(Instr.endLoop<|w.heap.size+1).run P w3=.ok pd w4/\W w4 (M::D::L)/\E w w4/\Mk rf w w4 [XY w.heap.size]:=by
        intro st pd M hst hs
        have hs':=hs.swap
        have hg:=hs'.get
        refine⟨_,run_endLoop hg hst,(hs'.putObj _).tail,?_,?_⟩
        · exact hE.ofEv _ _ (ew1.back (hX.trans<|Je.putObj hg) U)
        · refine⟨λh=>η,[w.heap.size],rfl,V,λd hd=>?_⟩
          simp only[jA] at hd
          subst hd
          refine⟨gP _,?_⟩
          refine(hX.trans<|Je.putObj hg).dfr _ _ ?_
          show((w.heap.push _).push _)[w.heap.size]? =_
          grind
      have qn:∀w4,E w w4->Mk rf w w4 [XY w.heap.size]->∀{p:Prop},p->∃fr' ds',{ (bp N fr ds) with defers:=[XY w.heap.size]++(bp N fr ds).defers }=bp N fr' (ds'++ds)/\jt N fr'/\rX [] fr fr'/\E w w4/\Mk rf w w4 ds'/\(fr'=fr/\p):=
        λw4 h1 h2 _ hp=>⟨fr,[XY w.heap.size],rfl,hf,rX.refl _ _,h1,h2,rfl,hp⟩
      rcases hQ with hQ|hQ
      · have hQ:=W.flat.1 hQ
        obtain⟨w4,h1,h2,h3,h4⟩:=fin .ready none _ V hQ
        refine⟨none,w4,h1,?_⟩
        obtain⟨fr',ds',g1,g2,g3,g4,g5,rfl,g6⟩:=qn w4 h3 h4 (hn w4 h2)
        exact⟨_,ds',g1,g2,g3,g4,g5,g6⟩
      · obtain⟨c,hQ⟩:=W.ex.1 hQ
        cases c with
        |none=>
          have hQ:=W.flat.1 hQ
          obtain⟨w4,h1,h2,h3,h4⟩:=fin .done (some .ret) _ V hQ
          refine⟨some .ret,w4,h1,wpIn_ret ?_⟩
          obtain⟨fr',ds',g1,g2,g3,g4,g5,rfl,g6⟩:=qn w4 h3 h4 (hr w4 h2)
          exact⟨_,ds',g1,g2,g3,g4,g5,g6⟩
        |some j=>
          have hQ:=W.flat.1 hQ
          obtain⟨w4,h1,h2,h3,h4⟩:=fin .done (some<|.exit j) _ V hQ
          refine⟨some<|.exit j,w4,h1,wpIn_exit ?_⟩
          obtain⟨fr',ds',g1,g2,g3,g4,g5,rfl,g6⟩:=qn w4 h3 h4 (hx j w4 h2)
          exact⟨_,ds',g1,g2,g3,g4,g5,g6⟩
    · have h1:=(h0.ae1<|some []).alloc (.loop rec0)
      rw[<-hl] at h1
      refine W.flat.2 ?_
      exact h1.swap
    · intro i us hi L' w' hsup hs
      have hs1:=W.flat.1 hs
      have hg:=hs1.swap.get
      obtain⟨vs,hvl,hve,hvs⟩:=CY (hty us<|gg hi) (hrd i)
      subst hve
      have hlen:us.length=lv.length:=by grind[UI]
      have hpl:=Mn hps
      have hden:=hvs hi (blk (w.heap.size+1) (.loop rec0)::L') w' (λh hh=>hsup h<|ay hh) hs1
      refine⟨fn,(bp N (qU N fr lv us) []).tmps,a,b,?_,?_⟩
      · have hy:=run_yield (P:=P) (args:=⟨us⟩) hg G
        rw[hy]
        have hz:(ps.zip (⟨us⟩:Array ah)).foldl (λ(t:Array ah)(x:Nat×ah)=>t.setIfInBounds x.1 x.2) (bp N fr ds).tmps=(bp N (qU N fr lv us) []).tmps:=by
          rw[show(bp N (qU N fr lv us) []).tmps=(bp N (qU N fr lv us) ds).tmps from rfl,<-Mo ps.toList lv us fr hps hlen,<-Array.foldl_toList]
          simp
        grind
      · refine roundIn_of_wpIn trivial ?_
        have hfit:jt N (qU N fr lv us):=pU lv _ hf
        refine wpIn_mono (iha (some<|w.heap.size+1) 0 _ w' _ _ _ hden hfit []) λe a1 w1' hq=>?_
        cases e with
        |normal=>
          obtain⟨fr1,ds1,rfl,q2,q3,q4,q5,M,q6,q7⟩:=hq
          have hs2:=q6.swap
          have hg2:=hs2.get
          refine⟨_,run_beginRound hg2 rfl,?_⟩
          have hs3:=(hs2.putObj<|.loop { rec0 with state:=.busy }).swap
          have hx3:Je (w.heap.size+1) w' (w1'.putObj (w.heap.size+1)<|.loop { rec0 with state:=.busy }):=(Je.of<|hEE _ _ q4).trans (Je.putObj hg2)
          refine wpIn_mono (ihb (some<|w.heap.size+1) 0 _ _ _ _ _ (q7 _ _ (λh hh=>hsup h<|ay hh) hs3) q2 _) λe a2 w2 hq=>?_
          cases e with
          |normal=>
            obtain⟨fr2,ds2,rfl,p2,p3,p4,p5,p6⟩:=hq
            have hs4:=p6.swap
            have hg4:=hs4.get
            refine⟨_,_,run_endRound none hg4,_,rfl,(hx3.trans<|Je.of<|hEE _ _ p4).trans (Je.putObj hg4),.inl ⟨rfl,W.flat.2 (hs4.putObj _).swap⟩⟩
          |ret=>
            obtain⟨fr2,ds2,rfl,p2,p3,p4,p5,p6⟩:=hq
            have hs4:=p6.swap
            have hg4:=hs4.get
            refine⟨_,_,run_endRound (some .ret) hg4,_,rfl,(hx3.trans<|Je.of<|hEE _ _ p4).trans (Je.putObj hg4),.inr ⟨rfl,W.ex.2 ⟨none,W.flat.2 (hs4.putObj _).swap⟩⟩⟩
          |exit j=>
            obtain⟨fr2,ds2,rfl,p2,p3,p4,p5,p6⟩:=hq
            have hs4:=p6.swap
            have hg4:=hs4.get
            refine⟨_,_,run_endRound (some<|.exit j) hg4,_,rfl,(hx3.trans<|Je.of<|hEE _ _ p4).trans (Je.putObj hg4),.inr ⟨rfl,W.ex.2 ⟨some j,W.flat.2 (hs4.putObj _).swap⟩⟩⟩
          |goto l=>exact hq.elim
          |panic ch=>exact hq.elim
          |outgrown=>exact hq.elim
        |ret=>obtain⟨_,_,_,_,_,_,_,hh⟩:=hq;grind
        |exit j=>obtain⟨_,_,_,_,_,_,_,hh⟩:=hq;grind
        |goto l=>exact hq.elim
        |panic ch=>exact hq.elim
        |outgrown=>exact hq.elim
end
section
variable{P:iI}{Ty:aC->Option dL}{Fn:aM->Bool}{E:ga->ga->Prop}{N:Nat}{rf:Bool}
theorem YB{v:ah}{a b:Prop}(h:vO v a b):∃t,v=.bool t/\(if t then a else b):=by
 unfold vO at h
 split at h
 ·rename_i c;refine⟨c,rfl,?_⟩;cases c<;>exact h
 simp_all
theorem lr{b:Frame}{a:Act}{k:List Item}{cs:List Frame}{w:ga}{c:Code}:step P (lone (b.atR a (.code (.scope c)::k)) cs w)=.next (lone (b.atR a (.code c:: .inScope c::k)) cs w):=
 step_lone_go (by rfl)
theorem Lg{b:Frame}{a:Act}{k:List Item}{cs:List Frame}{w:ga}{c:Code}:step P (lone (b.atR a (.inScope c::k)) cs w)=.next (lone (b.atR a k) cs w):=
 step_lone_go (by rfl)
theorem SM{F:Fence}{n:Nat}{a:Act}{w:ga}{Q:Exit->Act->ga->Prop}{c:Code}(t:∀l a w,¬Q (.goto l) a w)(h:c.wpIn F n P Q a w):(Code.scope c).wpIn F n P Q a w:=by
 intro o i p q j k;have b:(lone (o.atR a<|.code (.scope c)::i) p w).fenced P F:=fenced_calm j k rfl;obtain⟨r,e,f,g,d⟩:=h o (.inScope c::i) p q j k;cases r with
 |normal=>exact⟨.normal,e,f,g,.head b lr<|StepsIn.trans d<|.one (fenced_calm j k rfl) Lg⟩
 |exit m=>
  have v:exitTo m (.inScope c::i)=exitTo m i:=by rfl
  exact⟨.exit m,e,f,g,λs x=>.head b lr<|d.1 s η,
   λs x=>let⟨Y,h1,Z⟩:=d.2 s η;⟨Y,h1,.head b lr Z⟩⟩
 |goto l=>simp_all
 |ret=>exact⟨_,e,f,g,.of_steps (.one b lr) d⟩
 |panic m=>exact⟨_,e,f,g,.of_steps (.one b lr) d⟩
 |outgrown=>exact⟨_,e,f,g,.of_steps (.one b lr) d⟩
theorem Mp{e:A0}{fr c:Fr}{a:List (Nat×S1)}{J:IL (C0 a) (ga->Prop)}{w:ga}{b:Fr->ga->Prop}
  (f:L9 (C0 a) J (yb c a) (λ_=>False) w) (h:∀(d:Nat->ah),PE (C0 a) λg=>∀w,L9 (C0 a) J g (λ_=>False) w->b (qU N (wN N d e fr) a g) w):
  b (qU N (wN N (fG c) e fr) a (yb c a)) w:=
 E4 (λ_=>False) (λg=>g w) (λg=>g) f _ (h<|fG c) w f
theorem C2{i j:Nat}{p q:Prop}(h:bif Nat.beq i j then p else q):if i=j then p else q:=η
def uB(a:Act):List (Nat×S1)->Ay
 |[]=>[]
 |(s,_)::l=>a.tmps.getD s undef::uB a l
theorem UJ{fr:Fr}{ds:List Deferred}(hf:jt N fr):∀lv,uB (bp N fr ds) lv=yb fr lv
 |[]=>rfl
 |(s,c)::l=>by
  have h1:=zX N fr ds hf s
  show(bp N fr ds).tmps.getD s undef::uB (bp N fr ds) l=fG fr s::yb fr l
  rw[h1,UJ hf l]
theorem z_(hT:fb P Ty)(hF:t_ P Fn)(hE:K8 E)(hm:P.follows .mixedOrders=true)(A:a_):∀(c:Code)(ro:Option Nat)(_:eE c=true->ro=none/\rf=true/\∀a b,E a b->Ev a b)(k:Nat)(fr:Fr)(w:ga)(n r:Fr->ga->Prop)(x:Nat->Fr->ga->Prop),
  jZ P Ty Fn E N A c fr w n r x->jt N fr->∀ds,c.wpIn (wf ro) k P (QN rf E N (tT c) fr w ds n r x) (bp N fr ds) w:=by
 have Y:∀w,E w w:=λw=>hE.ofEv _ _<|Ev.refl w;intro c
 induction c with
 |skip=>exactλro U k fr w n r x h hf ds=>wpIn_skip ⟨fr,[],rfl,hf,rX.refl _ _,Y w,Mk.nil _ _,h⟩
 |region id ops draw=>
  intro ro U k fr w n r x h hf ds;exact Ww hT hF hE hm h hf λu w' h1 h2 h3 Z=>⟨u,[],rfl,h1,h2,h3,Mk.nil _ _,Z⟩
 |seq a b iha ihb=>
  intro ro U k fr w n r x h hf ds;have a0:=λ(h:eE a=true)=>U (by grind[eE]);have a6:=λ(h:eE b=true)=>U (by grind[eE]);have sa:∀t∈tT a,t∈tT (.seq a b):=λt ht=>by simp_all[UE]
  have sb:∀t∈tT b,t∈tT (.seq a b):=λt ht=>by simp_all[UE]
  refine wpIn_seq ?_
  have key:∀n',jZ P Ty Fn E N A a fr w n' r x->(∀u w',jt N u->rX (tT a) fr u->E w w'->n' u w'->∃O,(∀d,bp N O d=bp N u d)/\jt N O/\rX (tT a) fr O/\jZ P Ty Fn E N A b O w' n r x)->
    a.wpIn (wf ro) k P (Exit.then (b.wpIn (wf ro) k P<|QN rf E N (tT<|.seq a b) fr w ds n r x)<|QN rf E N (tT<|.seq a b) fr w ds n r x) (bp N fr ds) w:=by
   intro n' hd hn;refine wpIn_mono (iha ro a0 k fr w n' r x hd hf ds) λe a' w' W=>?_;cases e with
   |normal=>
    obtain⟨u,o,rfl,h2,h3,Z,h5,h6⟩:=W;obtain⟨O,g1,g2,g3,g4⟩:=hn u w' h2 h3 Z h6
    show b.wpIn (wf ro) k P _ _ w'
    rw[<-g1];exact wpIn_mono (ihb ro a6 k O w' n r x g4 g2<|o++ds) λe a w W=>QN.later hE sb (g3.mono sa) Z h5 W
   |ret=>exact QN.mono sa (λ_ _ _ _ h=>h) (λ_ _ h=>h) (λ_ _ _ h=>h) (n:=n') (n':=n') W
   |exit i=>exact QN.mono sa (λ_ _ _ _ h=>h) (λ_ _ h=>h) (λ_ _ _ h=>h) (n:=n') (n':=n') W
   |goto l=>exact W.elim
   |panic ch=>exact W.elim
   |outgrown=>exact W.elim
  simp only[jZ] at h
  split at h
  ·rename_i lv _;obtain⟨J,h1,h2⟩:=h;refine key _ h1 λu w' g1 g2 g3 g4=>⟨_,λd=>Jc lv d g2,pU lv _<|p_ _ hf,E6 lv hf g2,Mp (b:=λfr w=>jZ P Ty Fn E N A b fr w n r x) g4 h2⟩
  grind
 |cond c a b iha ihb=>
  intro ro U k fr w n r x h hf ds;have a0:=λ(h:eE a=true)=>U (by grind[eE]);have a6:=λ(h:eE b=true)=>U (by grind[eE]);obtain⟨t,ht,h⟩:=YB h;have he:(bp N fr ds).eval c=.bool t:=by simp_all[Sv]
  refine wpIn_cond he ?_;cases t with
  |true=>exact wpIn_mono (iha ro a0 k fr w n r x h hf ds) λe a w W=>QN.mono (λt ht=>by simp_all[P3]) (λ_ _ _ _ h=>h) (λ_ _ h=>h) (λ_ _ _ h=>h) W
  |false=>exact wpIn_mono (ihb ro a6 k fr w n r x h hf ds) λe a w W=>QN.mono (λt ht=>by simp_all[P3]) (λ_ _ _ _ h=>h) (λ_ _ h=>h) (λ_ _ _ h=>h) W
 |block id a iha=>
  intro ro U k fr w n r x h hf ds;have a0:=λ(h:eE a=true)=>U (by simp_all[eE]);refine wpIn_block ?_
  have key:∀n',jZ P Ty Fn E N A a fr w n' r (λj fr w=>bif Nat.beq j id then n' fr w else x j fr w)->(∀u w',jt N u->rX (tT a) fr u->n' u w'->∃O,(∀d,bp N O d=bp N u d)/\jt N O/\rX (tT a) fr O/\n O w')->
    a.wpIn (wf ro) k P (Exit.inBlock id<|QN rf E N (tT<|.block id a) fr w ds n r x) (bp N fr ds) w:=by
   intro n' hd hn
   have aR:∀u o w',jt N u->rX (tT a) fr u->E w w'->Mk rf w w' o->n' u w'->QN rf E N (tT<|.block id a) fr w ds n r x .normal (bp N u<|o++ds) w':=λu o w' h2 h3 Z h5 h6=>by
    obtain⟨O,g1,g2,g3,g4⟩:=hn u w' h2 h3 h6;exact⟨O,o,(g1 _).symm,g2,g3,Z,h5,g4⟩
   refine wpIn_mono (iha ro a0 k fr w n' r _ hd hf ds) λe a' w' W=>?_;cases e with
   |normal=>obtain⟨u,o,rfl,h2,h3,Z,h5,h6⟩:=W;exact aR u o w' h2 h3 Z h5 h6
   |exit i=>
    obtain⟨u,o,rfl,h2,h3,Z,h5,h6⟩:=W;have h6:=C2 h6;simp only[Exit.inBlock]
    split
    ·simp_all
    ·rename_i hi;rw[gv hi] at h6;exact⟨u,o,rfl,h2,h3,Z,h5,h6⟩
   |ret=>exact W
   |goto l=>exact W.elim
   |panic ch=>exact W.elim
   |outgrown=>exact W.elim
  simp only[jZ] at h
  split at h
  ·rename_i lv _;obtain⟨J,h1,h2⟩:=h;refine key _ h1 λu w' g1 g2 g4=>⟨_,λd=>Jc lv d g2,pU lv _<|p_ _ hf,E6 lv hf g2,Mp g4 h2⟩
  grind
 |loop a iha=>
  intro ro U k fr w n r x h hf ds;have a0:=λ(h:eE a=true)=>U (by simp_all[eE]);simp only[jZ] at h
  split at h
  ·rename_i lv _;obtain⟨I,m,h0,hr⟩:=h
   refine wpIn_loop (λa' w'=>∃X o,a'=bp N X (o++ds)/\jt N X/\rX (tT a) fr X/\E w w'/\Mk rf w w' o/\L9 (C0 lv) I (yb X lv) (λ_=>False) w')
    (λa' w'=>L9 (C0 lv) m (uB a' lv) (λ_=>0) w') ⟨fr,[],rfl,hf,rX.refl _ _,Y w,Mk.nil _ _,h0⟩ ?_
   rintro _ w'⟨X,o,rfl,h2,h3,Z,h5,h6⟩;have a8:jt N (qU N (wN N (fG X) (tT a) fr) lv<|yb X lv):=pU lv _<|p_ _ hf;have a4:=E6 (N:=N) lv hf h3
   have hb:=E4 (λ_=>False) (λf=>f w') (λh=>h) h6 (λvs=>∀w,L9 (C0 lv) I vs (λ_=>False) w->jZ P Ty Fn E N A a (qU N (wN N (fG X) (tT a) fr) lv vs) w
    (λu w'=>L9 (C0 lv) I (yb u lv) (λ_=>False) w'/\L9 (C0 lv) m (yb u lv) (λ_=>0) w'<L9 (C0 lv) m vs (λ_=>0) w) r x) (hr<|fG X) w' h6
   have hw:=iha ro a0 k _ w' _ r x hb a8<|o++ds;rw[Jc lv (o++ds) h3] at hw;refine wpIn_mono hw λe a' a7 W=>?_;cases e with
   |normal=>
    obtain⟨az,am,rfl,g2,g3,g4,g5,g6,g7⟩:=W;refine⟨⟨az,am++o,V,g2,a4.trans g3,hE.trans Z g4,Mk.trans hE Z g4 h5 g5,g6⟩,?_⟩
    simp_all[UJ]
   |ret=>
    have a5:QN rf E N (tT a) _ w' (o++ds) n r x (.ret) a' a7:=W;exact QN.later hE (λ_ h=>h) a4 Z h5 a5
   |exit i=>
    have a5:QN rf E N (tT a) _ w' (o++ds) n r x (.exit i) a' a7:=W;exact QN.later hE (λ_ h=>h) a4 Z h5 a5
   |goto l=>exact W.elim
   |panic ch=>exact W.elim
   |outgrown=>exact W.elim
  simp_all
 |exit i=>exactλro U k fr w n r x h hf ds=>wpIn_exit ⟨fr,[],rfl,hf,rX.refl _ _,Y w,Mk.nil _ _,h⟩
 |ret=>exactλro U k fr w n r x h hf ds=>wpIn_ret ⟨fr,[],rfl,hf,rX.refl _ _,Y w,Mk.nil _ _,h⟩
 |label l=>exactλro U k fr w n r x h hf ds=>wpIn_label ⟨fr,[],rfl,hf,rX.refl _ _,Y w,Mk.nil _ _,h⟩
 |rangeFunc f ps a b iha ihb=>
  intro ro U k fr w n r x h hf ds;obtain⟨rfl,aa,ad⟩:=U rfl;simp only[jZ] at h;obtain⟨aK,h⟩:=bn.1 h;simp only[jn,ri] at aK
  split at h
  ·rename_i g first cap lv hv hlv
   obtain⟨a9,h⟩:=bn.1 h;obtain⟨av,h⟩:=bn.1 h;exact Wx aa hT hF hE ad A (λro k=>iha ro (λe=>η) k) (λro k=>ihb ro (λe=>η) k) hv av a9 h hf
  simp_all
 |scope a iha=>
  intro ro U k fr w n r x h hf ds;exact SM (λl a w W=>W.elim) (iha ro (λh=>U (by simp_all[eE])) k fr w n r x h hf ds)
 |goto l=>exactλro U k fr w n r x h hf ds=>h.elim
 |refuse y=>exactλro U k fr w n r x h hf ds=>h.elim
end
section
variable{P:iI}{Ty:aC->Option dL}{Fn:aM->Bool}{E:ga->ga->Prop}{N:Nat}
theorem YC{w w':ga}(h:hp w'=hp w){a:vP}{i:dL}{v:ah}(b:rV w a i v):rV w' a i v:=by grind[rV,Pz,cO]
def yp(tmps:Array ah):ResultVar->Sem ah
 |.tmp t=>pure (tmps.getD t undef)
 |.cell a t=>do loadVar t (<-asAddr (tmps.getD a undef))
theorem wJ(hT:fb P Ty){fr:Fr}{ds:List Deferred}{w:ga}(hf:jt N fr):∀(l:List ResultVar)(k:Ay->Prop),La.go Ty fr w l k->
  ∃vs,(∀w',hp w'=hp w->(l.mapM (yp (bp N fr ds).tmps)).run P w'=.ok vs w')/\k vs
 |[],k,h=>⟨[],λw' _=>rfl,h⟩
 |.tmp t::l,k,h=>by
  obtain⟨vs,h1,h2⟩:=wJ hT hf l _ h
  refine⟨_,λw' hw=>?_,h2⟩
  rw[List.mapM_cons,Sem.run_bind]
  show(Sem.run P (pure ((bp N fr ds).tmps.getD t undef)) w').andThen _=_
  simp only[Sem.run_pure,Result.andThen_ok,Sem.run_bind]
  rw[h1 w' hw,zX N fr ds hf]
  simp
 |.cell a t::l,k,h=>by
  unfold La.go at h
  split at h
  ·rename_i p i ha hi
   obtain⟨ad,hp',h5⟩:=Db h
   subst hp'
   obtain⟨v,hl,h6⟩:=PK h5
   obtain⟨vs,h1,h2⟩:=wJ hT hf l _ h6
   refine⟨_,λw' hw=>?_,h2⟩
   rw[List.mapM_cons,Sem.run_bind]
   show(Sem.run P (do loadVar t (<-asAddr ((bp N fr ds).tmps.getD a undef))) w').andThen _=_
   simp only[Sem.run_bind,zX N fr ds hf,ha,asAddr,Sem.run_pure,Result.andThen_ok]
   rw[Mc hT hi (YC hw hl)]
   simp only[Result.andThen_ok]
   rw[h1 w' hw]
   simp
  simp_all
theorem E7(hT:fb P Ty){fn:Func}{fr:Fr}{ds:List Deferred}{w:ga}(hf:jt N fr){R:ah->Prop}(h:La P Ty fn.results.toList fr w R):
  ∃v,(∀w',hp w'=hp w->(results fn (bp N fr ds).tmps).run P w'=.ok v w')/\R v:=by
 obtain⟨vs,U,u⟩:=wJ (ds:=ds) hT hf _ _ h
 refine⟨if h:vs.length=1 then vs[0] else .tuple ⟨vs⟩,λw' O=>?_,?_⟩
 ·have J:results fn (bp N fr ds).tmps=(do let vs<-fn.results.mapM (yp (bp N fr ds).tmps);pure (if h:vs.size=1 then vs[0] else .tuple vs)):=by rfl
  rw[J,Array.mapM_eq_mapM_toList,map_eq_pure_bind]
  simp_all
 ·split at u
  ·simpa using u
  ·rename_i hne
   split
   ·rename_i hl;cases vs with
    |nil=>simp at hl
    |cons v l=>cases l with
     |nil=>exact absurd rfl (hne v)
     |cons _ _=>simp at hl
   ·exact u
theorem GU{F:Fence}{n:Nat}{fn:Func}{tmps:Array ah}{R:Ending->ga->Prop}{w0:ga}(hE:K8 E):∀(Ds:A0)(w:ga),Ds.Nodup->(∀D∈Ds,w0.heap.size<=D/\w.heap[D]? =some (Obj.deferred (some [])))->Ev w0 w->
  (∀w',hp w'=hp w->Ev w0 w'->∃v,(results fn tmps).run P w'=.ok v w'/\R (.returned v) w')->LeavesInM F n P fn tmps R (Ds.map XY) .returning w
 |[],w,_,_,he,h=>h w rfl he
 |D::Ds,w,hn,hD,he,h=>by
  obtain⟨h1,h2⟩:=hD D V
  rw[kN] at hn
  refine⟨V,.inl ⟨D,_,rfl,run_takeDeferred h2,?_⟩⟩
  have hhp:hp (w.putObj D (.deferred none))=hp w:=BW h2
  have he':Ev w0 (w.putObj D (.deferred none)):=by
   refine⟨he.os,he.tape,he.output,by simpa using he.size,λb d hb=>?_,λb d hb=>?_⟩
   ·rw[World.putObj_heap_other];exact he.dfr _ _ hb
    grind
   ·rw[World.putObj_heap_other];exact he.lop _ _ hb
    grind
  refine GU hE Ds _ hn.2 (λD' h'=>?_) he' λw' g1 g2=>h w' (g1.trans hhp) g2
  grind[World.putObj_heap_other]
theorem yi:∀(l:Ay)(i t:Nat),fG (Hk i l) t=if i<=t then(l[t-i]?).getD undef else undef
 |[],i,t=>by simp[Hk,fG]
 |v::l,i,t=>by
  simp only[Hk]
  rw[EU,yi l (i+1) t]
  grind
theorem YD(r:fb P Ty)(y:t_ P Fn)(z:P.follows .mixedOrders=true){f:aM}{fn:Func}(C:P.funcs[f]? =some fn)(A:a_)(m:K8 E)
  (g:(match fn.body with|some c=>eE c|none=>false)=true->∀a b,E a b->Ev a b) {args:Ay} {w:ga} {R:ah->ga->Prop}
  (h:fnV P Ty Fn E A fn args w R):jm P E f args w R:=by
 unfold fnV at h;cases o:fn.body with
 |none=>rw[o] at h;exact h.elim
 |some c=>
  rw[o] at h g;dsimp only at h g;obtain⟨I,h⟩:=fI h;have a2:=No _ _ I;refine callsIn_wide.1 (callsIn_of_wp_marks (F:=Fence.wide) (n:=0) C o trivial ?_)
  have L:({ tmps:=(⟨args⟩:Array ah)++Array.replicate (fn.ntmps-(⟨args⟩:Array ah).size) undef,defers:=[] }:Act)=bp fn.ntmps (Hk 0 args) []:=by
   simp only[bp,Act.mk.injEq,and_true];apply lI;apply kv
   grind[Array.toList_append,Array.toList_replicate,List.getElem?_append_left,List.getElem?_range,yi,List.getElem?_append_right,List.getElem?_eq_none,List.range]
  rw[L]
  have N:jt fn.ntmps (Hk 0 args):=λd e=>by
   rw[yi,gD<|gu _,lA U];rfl
  have s:∀i d,(∃e j,i=bp fn.ntmps e (j++[])/\jt fn.ntmps e/\rX (tT c) (Hk 0 args) e/\E w d/\Mk (eE c) w d j/\La P Ty fn.results.toList e d λk=>SC c R k d)->
    LeavesInM Fence.wide 0 P fn i.tmps (λk e=>∃j,k=.returned j/\E w e/\R j e) i.defers .returning d:=by
   rintro a3 p⟨q,a4,rfl,Q,a5,t,⟨S,d,rfl,X,Y⟩,a0⟩;obtain⟨i,j,k⟩:=E7 (ds:=(d.map XY)++[]) r Q a0
   show LeavesInM Fence.wide 0 P fn (bp fn.ntmps q<|d.map XY++[]).tmps _ (d.map XY++[]) .returning p
   cases l:eE c with
   |true=>
    have x:=g l;simp only[SC,l,cond_true] at k;generalize (bp fn.ntmps q<|d.map XY++[]).tmps=a6 at j;rw[jK];exact GU m d p X Y (x _ _ t) λe v a1=>⟨i,j e v,i,rfl,m.ofEv _ _ a1,k e v⟩
   |false=>
    simp only[SC,l,cond_false] at k;have e:=S l;generalize (bp fn.ntmps q<|d.map XY++[]).tmps=v at j;rw[e];exact⟨i,j p rfl,i,rfl,t,k⟩
  refine wpIn_mono (z_ r y m z A c none (λe=>⟨rfl,e,g e⟩) 0 _ w _ _ _ h N []) λa1 v x e=>?_;cases a1 with
  |normal=>exact s v x e
  |ret=>exact s v x e
  |exit a6=>obtain⟨_,_,_,_,_,_,_,a7⟩:=e;simp_all
  |goto a6=>exact e.elim
  |panic a6=>exact e.elim
  |outgrown=>exact e.elim
def SN(fn:Func):Bool:=match fn.body with|some c=>eE c|none=>false
theorem YE(a:fb P Ty)(b:t_ P Fn)(c:P.follows .mixedOrders=true){f:aM}{fn:Func}(d:P.funcs[f]? =some fn)(A:a_){args:Ay}{w:ga}{R:ah->ga->Prop}
  (h:fnV P Ty Fn Ev A fn args w R):aA P f args w R:=YD a b c d A vN (λ_ _ _ h=>h) h
theorem Dg(a:fb P Ty)(b:t_ P Fn)(c:P.follows .mixedOrders=true){f:aM}{fn:Func}(d:P.funcs[f]? =some fn)(A:a_)(e:K8 E)(g:SN fn=false){args:Ay}{w:ga}{R:ah->ga->Prop}
  (h:fnV P Ty Fn E A fn args w R):jm P E f args w R:=YD a b c d A e (λh=>absurd (g.symm.trans h) V) h
end
abbrev WP:=ga->Prop
abbrev lP(l:List (Nat×S1)):=IL (C0 l) (ga->Prop)
abbrev lN(l:List (Nat×S1)):=IL (C0 l) (ga->Nat)
abbrev aP:S1:=S1.one (Cs.int IntKind.i64)
abbrev jG:S1:=S1.one Cs.slice
abbrev mR:S1:=S1.one Cs.bool
abbrev O(n:Int):ah:=.int .i64 n
abbrev T(a:E)(l c:Nat):ah:=.slice a l c
abbrev D:=T none 0 0
abbrev u(a:E):ah:=.pointer a
abbrev J(b:Bool):ah:=.bool b
abbrev vA(a:Array ah):ah:=.agg a
abbrev vG(l:Ay):ah:=.agg (Array.mk l)
abbrev vT(a:Array ah):ah:=.tuple a
abbrev Z(k:Nat):vP:=⟨k,0,none⟩
abbrev oC(l:Ay)(t:aC):Obj:=.cells (Array.mk l) t
abbrev ft(t:aC)(xs:Array ah):Sem ah:=Builtin.append_ (Array.mk [t,t]) t xs
def ax(b:Nat)(vs:Ay):aG:=λh=>∃e,h b=some (.cells ⟨vs⟩ e (0,0))
section
variable{P:iI}{w w':ga}{L:List aG}{b:Nat}{vs:Ay}{e:aC}{A B C D:aG}
theorem kg:W w (ax b vs::L)↔∃e,W w (blk b (.cells ⟨vs⟩ e (0,0))::L):=
 ⟨λ⟨a,c,d,f,g,⟨e,h⟩,i⟩=>⟨e,a,c,d,f,g,h,i⟩,λ⟨e,a,c,d,f,g,h,i⟩=>⟨a,c,d,f,g,⟨e,h⟩,i⟩⟩
theorem W.cell(h:W w (ax b vs::L))(i:Nat):w.cell? ⟨b,i,none⟩=vs[i]?:=by
 obtain⟨e,h⟩:=kg.1 h;have:=h.get
 simp_all[World.cell?]
theorem W.frozen(h:W w (ax b vs::L))(i:Nat)(s:Option _):w.frozen? ⟨b,i,s⟩=false:=by
 obtain⟨e,h⟩:=kg.1 h;have:=h.get
 simp_all[World.frozen?]
theorem W.ae2(h:W w (ax b vs::L))(i:Nat)(v:ah):W (w.setCell ⟨b,i,none⟩ v) (ax b (vs.set i v)::L):=by
 obtain⟨e,h⟩:=kg.1 h;have:=W.setCell h i v
 grind[kg]
theorem oW{o:Obj}{k:Nat->ga->Prop}(h:W w L)(a:∀b w',W w' (blk b o::L)->k b w')(c:Pw o=true:=by rfl):new w o k:=
 λb w' d e=>by subst d;subst e;exact a _ _ (h.push o c)
theorem ag{k:Nat->ga->Prop}(h:W w L)(a:∀b w',W w' (ax b vs::L)->k b w'):new w (.cells (Array.mk vs) e) k:=oW h λb w' h=>a b w' (kg.2 ⟨_,h⟩)
theorem aX{i:Nat}{v:ah}{k:ga->Prop}(h:W w (ax b vs::L))(hi:i<vs.length)(a:∀w',W w' (ax b (vs.set i v)::L)->k w')(c:aO v=true:=by rfl):gh w ⟨b,i,none⟩ v k:=
 ⟨⟨vs[i],by rw[h.cell];simp⟩,h.frozen i none,c,λw' d=>by subst d;exact a _<|h.ae2 i v⟩
theorem W.setCells:∀(news pre post:Ay){w:ga},news.length<=post.length->W w (ax b (pre++post)::L)->W (w.setCells b pre.length news) (ax b (pre++news++post.drop news.length)::L)
 |[],pre,post,w,_,h=>by simp_all[World.setCells]
 |v::r,pre,[],w,hl,h=>η
 |v::r,pre,p::post,w,hl,h=>by
  have h1:=h.ae2 pre.length v
  have e1:(pre++p::post).set pre.length v=(pre++[v])++post:=V
  rw[e1] at h1
  have h2:=W.setCells r (pre++[v]) post (by simpa using hl) h1
  have e2:(pre++[v]).length=pre.length+1:=V
  rw[e2] at h2
  simpa[World.setCells] using h2
theorem l8(b o j:Nat):(⟨b,o,none⟩:vP).add j=⟨b,o+j,none⟩:=by simp[Addr.add]
theorem ak(b j:Nat):(⟨b,0,none⟩:vP).add j=⟨b,j,none⟩:=by simp[l8]
theorem ke(a:vP)(i j:Nat):(a.add i).add j=a.add (i+j):=by grind[Addr.add,Nat.add_assoc]
def own(sz:Nat)(a:E)(l c:Nat)(vs:Ay):aG:=λh=>
 (a=none/\l=0/\c=0/\vs=[])\/∃b pre cs post,a=some ⟨b,List.length pre,none⟩/\ax b (pre++(vs++(cs++post))) h/\vs.length=l*sz/\(vs++cs).length=c*sz/\l<=c
theorem aH(sz:Nat)(h:W w L):W w (own sz none 0 0 []::L):=
 ⟨λ_=>none,hp w,λ_=>.inl rfl,λ_ _ h=>(nomatch h),sZ,.inl ⟨rfl,rfl,rfl,rfl⟩,h⟩
theorem dM{sz l c:Nat}{a:E}(h:W w (own sz a l c vs::L)):
  (a=none/\l=0/\c=0/\vs=[])\/∃b pre cs post,a=some ⟨b,List.length pre,none⟩/\W w (ax b (pre++(vs++(cs++post)))::L)/\vs.length=l*sz/\(vs++cs).length=c*sz/\l<=c:=by
 obtain⟨d,e,f,g,i,j,k⟩:=h
 rcases j with r|⟨b,pre,cs,post,m,n,o,p,q⟩
 ·simp_all
 ·exact .inr ⟨b,pre,cs,post,m,⟨d,e,f,g,i,n,k⟩,o,p,q⟩
theorem fJ{sz l c:Nat}{pre cs post:Ay}(h:W w (ax b (pre++(vs++(cs++post)))::L))(a:vs.length=l*sz)(d:(vs++cs).length=c*sz)(e:l<=c):W w (own sz (some ⟨b,pre.length,none⟩) l c vs::L):=
 h.head λh f=>.inr ⟨b,pre,cs,post,rfl,f,a,d,e⟩
theorem bq{sz l c:Nat}{cs:Ay}(h:W w (ax b (vs++cs)::L))(a:vs.length=l*sz)(d:(vs++cs).length=c*sz)(e:l<=c):W w (own sz (some ⟨b,0,none⟩) l c vs::L):=
 fJ (pre:=[]) (post:=[]) η a d e
theorem gm{sz l c:Nat}{a:E}(h:W w (own sz a l c vs::L)):vs.length=l*sz:=by
 rcases dM h with⟨_,rfl,_,rfl⟩|⟨_,_,_,_,_,_,h,_⟩
 ·simp
 omega
theorem bJ{sz l c:Nat}{a:E}(h:W w (own sz a l c vs::L)):l<=c:=by
 rcases dM h with⟨_,rfl,_,rfl⟩|⟨_,_,_,_,_,_,_,_,h⟩
 ·omega
 omega
theorem cV{sz l c:Nat}{a:E}(h:W w (own sz a l c vs::L)){j:Nat}{v:ah}(d:vs[j]? =some v):∃b,a=some b/\w.cell? (b.add j)=some v:=by
 rcases dM h with⟨_,_,_,rfl⟩|⟨b,e,f,g,rfl,h,_⟩
 ·simp_all
 ·refine⟨_,rfl,?_⟩;rw[l8,h.cell,kL U,mu,ki (gJ.1 d).1];omega
theorem Dh{t tx ty:aC}{i:TypeInfo}{z:ah}(m:P.underlying t=some (.slice e))(hi:P.info? e=some i)(A:i.zero=some z)(C:z.cells.size=i.size)
  {a:E} {l c:Nat} (h:W w (own i.size a l c vs::L)) {x:ah} {n:Nat} {news:Ay} (d:Src P i.size tx x n news w) (F:(l+n)*i.bytes<=140737488355328) (a5:l+n<=9223372036854775807):
  bg P (Builtin.append_ (Array.mk [t,tx]) ty (Array.mk [T a l c,x])) w λf g=>∃b c',f=T b (l+n) c'/\W g (own i.size b (l+n) c' (vs++news)::L):=by
 have I:=d.newsLen
 have p:c<l+n->(Builtin.firstCells i.size l<|T a l c).run P w.drew=.ok vs.toArray w.drew->(vs.length=l*i.size)->W w L->
   bg P (Builtin.append_ (Array.mk [t,tx]) ty<|Array.mk [T a l c,x]) w λf g=>∃b c',f=T b (l+n) c'/\W g (own i.size b (l+n) c' (vs++news)::L):=by
  intro q N Q R;have S:=run_append_grow_src (P:=P) w t tx ty e i z m hi A a l c vs N x n news d q U<|growslice_fits q F;refine⟨_,_,S,(Ev.drew w _).trans (Ev.push _ _),_,_,rfl,?_⟩;have X:=grownCap_ge w (l+n) c e;have Y:W w.drew L:=R.same rfl;have r:=Y.push (.cells ((vs++news).toArray++Builtin.zeroCells z.cells (grownCap w (l+n) c e-(l+n))) e)
  have a0:W (w.drew.alloc<|.cells ((vs++news).toArray++Builtin.zeroCells z.cells (grownCap w (l+n) c e-(l+n))) e) (ax w.heap.size ((vs++news)++(Builtin.zeroCells z.cells<|grownCap w (l+n) c e-(l+n)).toList)::L):=by
   have:((vs++news).toArray++Builtin.zeroCells z.cells (grownCap w (l+n) c e-(l+n)))=⟨(vs++news)++(Builtin.zeroCells z.cells<|grownCap w (l+n) c e-(l+n)).toList⟩:=V
   rw[this] at r ⊢;exact kg.2 ⟨_,r⟩
  refine bq a0 ?_ ?_ X
  ·grind
  ·rw[jw,jw,Q,I,<-Nat.add_mul,rz,size_zeroCells,C,<-Nat.add_mul]
   simp_all
 rcases dM h with⟨rfl,rfl,rfl,rfl⟩|⟨s,b,f,g,rfl,j,k,a6,a7⟩
 ·rcases Nat.eq_zero_or_pos n with rfl|y
  ·have:news=[]:=j2 U;subst this;refine⟨.slice none 0 0,w,?_,Ev.refl w,none,0,rfl,h⟩;rcases d.kind with⟨a1,v⟩|v<;>simp[Builtin.append_,run_underlying m,run_underlying v,sizeOf,typeInfo,hi,d.len,d.cells]
  ·exact p U (run_firstCells_none w.drew _ _ _ _) V h.tail
 ·by_cases v:l+n<=c
  ·have a8:news.length<=f.length:=by
    have y:(l+n)*i.size<=c*i.size:=nO _ v
    grind
   have y:=run_append_room_src (P:=P) w t tx ty e i m hi s b.length l c x n news d v
    (λa1 a2=>by
     rw[j.cell,<-k]
     grind)
    (λa1 a2=>j.frozen _ _)
   have a1:b++(vs++(f++g))=(b++vs)++(f++g):=V
   rw[a1] at j;have a2:=j.setCells news (b++vs) (f++g) G;rw[jw,k] at a2
   refine⟨_,_,y,?_,_,_,rfl,?_⟩
   ·have:∀(news:Ay)(w0 w:ga)(o:Nat),Ev w0 w->Ev w0 (w.setCells s o news):=by
     intro news
     induction news with
     |nil=>exactλ_ _ _ h=>h
     |cons a3 a9 a4=>exactλw0 w o h=>a4 w0 _ (o+1) (h.trans<|Ev.setCell w _ a3)
    grind[Ev.refl]
   ·have a3:(b++vs)++news++(f++g).drop news.length=b++((vs++news)++(f.drop news.length++g)):=G
    grind[fJ,List.length_append,Nat.add_mul,List.length_drop]
  ·refine p U (run_firstCells_some w.drew _ _ _ _ _ _ k λa1 a2 y=>?_) k h.tail;rw[l8];have:=j.cell<|b.length+a1;rw[kL U,mu,ki (gJ.1 y).1,y] at this
   simp_all
theorem jH{Ty:aC->Option dL}(d:fb P Ty){t tx ty:aC}{i:dL}{z:ah}(j:ai Ty t=.slice e)(hi:Ty e=some i)(k:i.zero=some z)(m:(cellsOf z).length=i.size)
  {a:E} {l c:Nat} (h:W w (own i.size a l c vs::L)) {x:ah} {n:Nat} {news:Ay} (o:Src P i.size tx x n news w) (f:(l+n)*i.bytes<=140737488355328) (p:l+n<=9223372036854775807):
  bg P (Builtin.append_ (Array.mk [t,tx]) ty (Array.mk [T a l c,x])) w λg q=>∃b c',g=T b (l+n) c'/\W q (own i.size b (l+n) c' (vs++news)::L):=by
 obtain⟨v,g,q⟩:=dR d j V;rw[fH q] at g;obtain⟨r,y,b⟩:=tY d hi;have s:z.cells.size=r.size:=by rw[<-b.size,<-m,eF];simp
 rw[b.size] at*;rw[b.bytes] at f;exact Dh g b.inf (by rw[<-b.zero,k]) s h o f p
theorem gU{Ty:aC->Option dL}(e:fb P Ty){tx f:aC}(g:ai Ty tx=.slice f){size:Nat}{a:E}{n c:Nat}{news:Ay}(h:news.length=n*size)
  (i:n=0\/∃b,a=some b/\∀j d,news[j]? =some d->w.cell? (b.add j)=some d) (l:∀b∈news,aO b=true):Src P size tx (T a n c) n news w:=by
 obtain⟨m,b,d⟩:=dR e g V;rw[fH d] at b;cases a with
 |none=>
  rcases i with rfl|⟨k,o,_⟩
  ·simp_all[j2,Src.ofNil]
  simp_all
 |some k=>
  refine Src.ofSlice w b k n c news h ?_ λo p=>by simp_all[Nx]
  grind
end
theorem uD(n:Nat)(h:n<2^64):IntKind.u64.wrap (n:Int)=n:=by grind[Int.emod_eq_of_lt,IntKind.wrap,IntKind.signed,IntKind.bits]
theorem P6(n:Nat):BitVec.ofInt 64 (n:Int)=BitVec.ofNat 64 n:=by rfl
theorem Jf{a b:Nat}(c:a<2^64)(d:b<2^64):p8 .and .u64 (a:Int) (b:Int)=((a&&& b:Nat):Int):=by
 show IntKind.u64.wrap (((BitVec.ofInt 64 (a:Int))&&& (BitVec.ofInt 64 (b:Int))).toNat:Int)=_
 grind[P6,BitVec.toNat_and,BitVec.toNat_ofNat,Nat.mod_eq_of_lt,uD,Nat.and_lt_two_pow]
theorem DH{a b:Nat}(c:a<2^64)(d:b<2^64):p8 .or .u64 (a:Int) (b:Int)=((a|||b:Nat):Int):=by
 show IntKind.u64.wrap (((BitVec.ofInt 64 (a:Int))|||(BitVec.ofInt 64 (b:Int))).toNat:Int)=_
 grind[P6,BitVec.toNat_or,BitVec.toNat_ofNat,Nat.mod_eq_of_lt,uD,Nat.or_lt_two_pow]
theorem YF{s:Nat}(h:s<64):Yd .u64 1 (s:Int)=((2^s:Nat):Int):=by
 simp only[Yd,IntKind.bits,je,Int.one_mul];rw[pS U];have a:((2:Int)^s)=((2^s:Nat):Int):=V
 rw[a,uD _<|Nat.pow_lt_pow_right U h]
theorem Jg{n s:Nat}(h:s<64):bj .u64 (n:Int) (s:Int)=((n/2^s:Nat):Int):=by grind[bj,IntKind.bits,Int.toNat_natCast,Nat.min_eq_left,Int.fdiv_eq_ediv_of_nonneg,Int.natCast_nonneg]
theorem BN(k:Nat):Int.tdiv (k:Int) 64=((k/64:Nat):Int):=by rfl
theorem SO(k:Nat):Int.tmod (k:Int) 64=((k%64:Nat):Int):=by rfl
theorem P7{n s:Nat}(a:n<2^64)(h:s<64):(p8 .and .u64 (bj .u64 (n:Int) (s:Int)) 1==1)=n.testBit s:=by
 rw[Jg h];have:(1:Int)=((1:Nat):Int):=rfl;rw[this,Jf (Nat.lt_of_le_of_lt (Nat.div_le_self _ _) a) U]
 grind
def Lh(P:iI)(E:ga->ga->Prop)(g:aM)(args:Ay)(w:ga)(R:ga->Prop):Prop:=
 CallsDIn Fence.wide 0 P g ⟨args⟩ .returning w λe u' w'=>∃v,e=.returned v/\u'=.returning/\E w w'/\R w'
def yq(N:Nat)(o1 o2:vB)(fr:Fr)(K:aM->Ay->Fr->Prop):Prop:=
 match o1.op,o1.dst,o1.guard,o2.op,o2.dst,o2.guard with
 |.makeFunc (.func g) first cap,some d,none,.defer c,none,none=>(match c.callee,first.toList,c.args.toList with
  |.value (.tmp t),[],[]=>p9 (Nat.beq t d&&Nat.ble (d+1) N) (K g (oz fr cap.toList) ((d,.func (.func g) ⟨[]⟩ ⟨oz fr cap.toList⟩)::fr))
  |_,_,_=>False)
 |_,_,_,_,_,_=>False
def fnD(P:iI)(Ty:aC->Option dL)(Fn:aM->Bool)(E:ga->ga->Prop)(A:a_)(fn:Func)(args:Ay)(w:ga)(R:ah->ga->Prop):Prop:=
 match fn.body with
 |some (.seq a (.seq (.region _ ops false) b))=>(match ops.toList with
  |[o1,o2]=>bif ub args fn.ntmps&&(!eE a&& !eE b) then
    jZ P Ty Fn E fn.ntmps A a (Hk 0 args) w (λa c=>yq fn.ntmps o1 o2 a λa d e=>p9 (Fn a)
     (jZ P Ty Fn E fn.ntmps A b e c (λb c=>Lh P E a d c λa=>La P Ty fn.results.toList b a λb=>R b a)
      (λb c=>Lh P E a d c λa=>La P Ty fn.results.toList b a λb=>R b a) λ_ _ _=>False)) (λ_ _=>False) (λ_ _ _=>False)
   else False
  |_=>False)
 |_=>False
section
variable{P:iI}{Ty:aC->Option dL}{Fn:aM->Bool}{E:ga->ga->Prop}{N:Nat}
theorem P8(args:Ay)(n:Nat)(a:args.length<=n):({ tmps:=(⟨args⟩:Array ah)++Array.replicate (n-(⟨args⟩:Array ah).size) undef,defers:=[] }:Act)=bp n (Hk 0 args) []:=by
 simp only[bp,Act.mk.injEq,and_true];apply lI;apply kv;intro b;simp only[Array.toList_append,Array.toList_replicate,iE]
 grind[List.getElem?_append_left,List.getElem?_range,yi,List.getElem?_append_right,List.getElem?_eq_none,List.range]
theorem Mq{args:Ay}{n:Nat}(a:args.length<=n):jt n (Hk 0 args):=λb c=>by
 rw[yi,gD<|gu _,lA U];rfl
theorem DJ(e:fb P Ty)(o:t_ P Fn)(p:P.follows .mixedOrders=true){f:aM}{fn:Func}(q:P.funcs[f]? =some fn)(A:a_)(r:K8 E)(N:SN fn=false){args:Ay}{w:ga}{R:ga->Prop}
  (h:fnV P Ty Fn E A fn args w λ_ w=>R w):Lh P E f args w R:=by
 unfold fnV at h;cases g:fn.body with
 |none=>simp_all
 |some b=>
  have i:eE b=false:=by simp_all[SN]
  rw[g] at h;dsimp only at h;obtain⟨s,h⟩:=fI h;have j:=No _ _ s;refine CallsDIn.mono (callsDIn_of_wp (F:=Fence.wide) (n:=0) (R:=λc a=>∃d,c=.returned d/\E w a/\R a) q g trivial ?_) λm t v ⟨a,c,d,k,l⟩=>⟨c,d,a,k,l⟩;rw[P8 args _ j]
  have k:∀d a,(∃c l,d=bp fn.ntmps c (l++[])/\jt fn.ntmps c/\rX (tT b) (Hk 0 args) c/\E w a/\Mk false w a l/\La P Ty fn.results.toList c a λm=>SC b (λ_ w=>R w) m a)->
    d.defers=[]/\∃c,(results fn d.tmps).run P a=.ok c a/\∃l,Ending.returned c=.returned l/\E w a/\R a:=by
   rintro Q t⟨S,X,rfl,v,Y,x,⟨y,_⟩,z⟩;have C:=y rfl;subst C;obtain⟨c,I,d⟩:=E7 (ds:=[]) e v z;simp only[SC,i,cond_false] at d;exact⟨rfl,c,I t rfl,c,rfl,x,d⟩
  refine wpIn_mono (z_ (rf:=false) e o r p A b none (λa=>absurd (i.symm.trans a) V) 0 _ w _ _ _ h (Mq j) []) λL l m a=>?_;cases L with
  |normal=>exact k l m a
  |ret=>exact k l m a
  |exit a0=>obtain⟨_,_,_,_,_,_,_,a1⟩:=a;simp_all
  |goto a0=>exact a.elim
  |panic a0=>exact a.elim
  |outgrown=>exact a.elim
theorem DL(hT:fb P Ty)(hF:t_ P Fn)(hm:P.follows .mixedOrders=true){f:aM}{fn:Func}(hfn:P.funcs[f]? =some fn)(A:a_)(hE:K8 E){args:Ay}{w:ga}{R:ah->ga->Prop}
  (h:fnD P Ty Fn E A fn args w R):jm P E f args w R:=by
 unfold fnD at h
 split at h
 ·rename_i a id ops b hbd
  split at h
  ·rename_i o1 o2 hops;obtain⟨J,h⟩:=fI h;simp only[jn,ri] at J;obtain⟨J,ra,rb⟩:=J;have J:=No _ _ J;refine callsIn_wide.1<|callsIn_of_wp_marks (F:=Fence.wide) (n:=0) hfn hbd trivial ?_;rw[P8 args _ J];have b2:∀w,E w w:=λw=>hE.ofEv _ _<|Ev.refl w;refine wpIn_seq ?_;refine wpIn_mono (z_ (rf:=false) hT hF hE hm A a none (λhh=>absurd (ra.symm.trans hh) V) 0 _ w _ _ _ h (Mq J) []) λe Y W j=>?_;cases e with
   |ret=>obtain⟨_,_,_,_,_,_,_,hh⟩:=j;simp_all
   |exit i=>obtain⟨_,_,_,_,_,_,_,hh⟩:=j;simp_all
   |goto l=>exact j.elim
   |panic ch=>exact j.elim
   |outgrown=>exact j.elim
   |normal=>
    obtain⟨fr,k,rfl,h1,_,aa,⟨h0,_⟩,X⟩:=j;have hd:=h0 rfl;subst hd
    show(Code.seq (.region id ops false) b).wpIn (wf none) 0 P _ (bp fn.ntmps fr []) W
    obtain⟨b3,b7,av,a6,az,be⟩:=o1;obtain⟨b4,b6,aR,a4,am,bb⟩:=o2;unfold yq at X;dsimp only at X
    split at X
    ·rename_i g first cap d c _
     split at X
     ·rename_i t hcal hfst hargs;obtain⟨hc,X⟩:=bn.1 X;simp only[jn,Nat.ble_eq] at hc;obtain⟨Z,bi⟩:=hc;have Z:=rm Z;subst Z;obtain⟨hg,X⟩:=bn.1 X;obtain⟨callee,a0,a9⟩:=c;dsimp only at hcal hargs;subst hcal;have aV:first=#[]:=η
      have aK:a0=#[]:=η
      subst aV aK;have b5:cap.map (ev fr)=⟨oz fr cap.toList⟩:=by grind[ET,Array.ext']
      refine wpIn_seq<|wpIn_region_list ?_;rw[hops]
      have a5:put fn.ntmps fr (some t) (.func (.func g) ⟨[]⟩ ⟨oz fr cap.toList⟩)=(t,.func (.func g) ⟨[]⟩ ⟨oz fr cap.toList⟩)::fr:=by
       rw[II,gD U]
      have a7:jt fn.ntmps ((t,.func (.func g) ⟨[]⟩ ⟨oz fr cap.toList⟩)::fr):=by grind[xY]
      have b1:(bp fn.ntmps fr []).eval=ev fr:=Ib _ _ _ h1;have e1:(execOp (ev fr) { dst:=some t,op:=.makeFunc (.func g) #[] cap,type:=av,pos:=a6,after:=az,guard:=none }).run P W=.ok (.value<|.func (.func g) ⟨[]⟩ ⟨oz fr cap.toList⟩) W:=by simp_all[execOp,Instr.makeFunc]
      have e2:(execOp (ev<|(t,.func (.func g) ⟨[]⟩ ⟨oz fr cap.toList⟩)::fr) { dst:=none,op:=.defer { callee:=.value<|.tmp t,args:=#[],argTypes:=a9 },type:=aR,pos:=a4,after:=am,guard:=none }).run P W=.ok (.defer { target:=.fn (.func g) ⟨oz fr cap.toList⟩,args:=#[] }) W:=by simp[execOp,resolve,ev,fG,Deferred.ofValue]
      have a8:∀(al:List vB)(tm:Array ah)(o:vB),o.guard=none->Region.wanted o (yielded ⟨al⟩ tm)=true:=λal tm o h=>by simp_all[Region.wanted]
      simp only[wpListIn];rw[gD (a8 _ _ _ rfl)];refine⟨λ_ _=>trivial,?_⟩;rw[show(wf none).round=none from rfl,yn V,b1,e1,Oper.uponIn_value,Ic,a5];rw[gD (a8 _ _ _ rfl)];refine⟨λ_ _=>trivial,?_⟩;rw[Ib _ _ _ a7];rw[show(wf none).round=none from rfl,show∀ρ(o:vB),o.semAt none ρ=execOp ρ o fromλ_ _=>rfl,e2,Oper.uponIn_defer]
      show b.wpIn (wf none) 0 P _ (bp fn.ntmps ((t,.func (.func g) ⟨[]⟩ ⟨oz fr cap.toList⟩)::fr) [{ target:=.fn (.func g) ⟨oz fr cap.toList⟩,args:=#[] }]) W
      have fin:∀Y w',(∃O k,Y=bp fn.ntmps O (k++[{ target:=.fn (.func g) ⟨oz fr cap.toList⟩,args:=#[] }])/\jt fn.ntmps O/\rX (tT b) ((t,.func (.func g) ⟨[]⟩ ⟨oz fr cap.toList⟩)::fr) O/\E W w'/\Mk false W w' k/\
        Lh P E g (oz fr cap.toList) w' λw2=>La P Ty fn.results.toList O w2 λv=>R v w2)->
        LeavesInM Fence.wide 0 P fn Y.tmps (λe w'=>∃v,e=.returned v/\E w w'/\R v w') Y.defers .returning w':=by
       rintro Y w'⟨O,k,rfl,k1,_,k3,⟨k0,_⟩,k6⟩;have hd:=k0 rfl;subst hd
       show LeavesInM Fence.wide 0 P fn (bp fn.ntmps O [{ target:=.fn (.func g) ⟨oz fr cap.toList⟩,args:=#[] }]).tmps _ [{ target:=.fn (.func g) ⟨oz fr cap.toList⟩,args:=#[] }] .returning w'
       refine⟨V,.inr ⟨λh=>(by cases h),.func g,⟨oz fr cap.toList⟩,g,⟨oz fr cap.toList⟩,rfl,?_,λ_ _=>trivial,?_⟩⟩
       ·grind[invoke,vq]
       ·refine CallsDIn.mono k6 λe u' w2 ⟨v,he,hu,ad,hr⟩=>?_;subst he hu;obtain⟨v,g1,g2⟩:=E7 (ds:=[{ target:=.fn (.func g) ⟨oz fr cap.toList⟩,args:=#[] }]) hT k1 hr;exact⟨v,g1 w2 rfl,v,rfl,hE.trans aa<|hE.trans k3 ad,g2⟩
      refine wpIn_mono (z_ (rf:=false) hT hF hE hm A b none (λhh=>absurd (rb.symm.trans hh) V) 0 _ W _ _ _ X a7 [{ target:=.fn (.func g) ⟨oz fr cap.toList⟩,args:=#[] }]) λe Y w' j=>?_;cases e with
      |normal=>exact fin Y w' j
      |ret=>exact fin Y w' j
      |exit i=>obtain⟨_,_,_,_,_,_,_,hh⟩:=j;simp_all
      |goto l=>exact j.elim
      |panic ch=>exact j.elim
      |outgrown=>exact j.elim
     simp_all
    simp_all
  ·exact h.elim
 ·exact h.elim
end
end Go.Proofs.YtaoaemnefghnbaaGreatDoor
