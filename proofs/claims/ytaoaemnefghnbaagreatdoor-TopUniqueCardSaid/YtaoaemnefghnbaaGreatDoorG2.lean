/- Texts of this claim, one behind the other. -/
import Derived.Test.YtaoaemnefghnbaaGreatDoorG1
import Derived.Test.YtaoaemnefghnbaaGreatDoorProg
import Derived.Lib.TrailingZeros
import Derived.Laws.IdiomCopy
import Derived.MapKept
import Derived.Laws.RangeAny
import Derived.Laws.Strings
import Derived.Lib.OthersKept
import Derived.Laws.StructEq
import Derived.Shelf.SlSortCmp.NoneTotal
import Derived.Shelf.Sort.Plain
set_option linter.unusedVariables false
set_option linter.unusedSectionVars false
set_option maxRecDepth 100000
set_option maxHeartbeats 16000000
namespace Go.V
end Go.V
namespace Go.Proofs.YtaoaemnefghnbaaGreatDoor
end Go.Proofs.YtaoaemnefghnbaaGreatDoor
open Go.V Go.Proofs.YtaoaemnefghnbaaGreatDoor
namespace Go.Proofs.YtaoaemnefghnbaaGreatDoor
def WO:List (TypeId×dD):=[(3,⟨(.int .i64),1,8,(some (iI 0)),[],[],true⟩),(4,⟨.bool,1,1,(some (vB false)),[],[],true⟩),(5,⟨(.int .u8),1,1,(some (.int .u8 0)),[],[],true⟩),(9,⟨.string,1,16,(some (.string ⟨#[]⟩)),[],[],true⟩),(24,⟨(.slice 3),1,24,(some (zS)),[],[],false⟩),(39,⟨(.slice 235),1,24,(some (zS)),[],[],false⟩),(86,⟨(.slice 170),1,24,(some (zS)),[],[],false⟩),(90,⟨.struct,3,40,(some (.agg #[(iI 0),(iI 0),(zS)])),[(0,1,false),(1,1,false),(2,1,false)],[],false⟩),(134,⟨.struct,3,40,(some (.agg #[(iI 0),(zS),(iI 0)])),[(0,1,false),(1,1,false),(2,1,false)],[],false⟩),(138,⟨.struct,4,48,(some (.agg #[(iI 0),(iI 0),(iI 0),(zS)])),[(0,1,false),(1,1,false),(2,1,false),(3,1,false)],[],false⟩),(170,⟨.struct,2,16,(some (.agg #[(iI 0),(iI 0)])),[(0,1,false),(1,1,false)],[],true⟩),(178,⟨(.ptr 356),1,8,(some (vP none)),[],[],true⟩),(188,⟨(.map 9 3),1,8,(some (.map none)),[],[],false⟩),(193,⟨.struct,2,16,(some (.agg #[(iI 0),(iI 0)])),[(0,1,false),(1,1,false)],[],true⟩),(194,⟨(.slice 193),1,24,(some (zS)),[],[],false⟩),(195,⟨(.map 3 194),1,8,(some (.map none)),[],[],false⟩),(197,⟨(.slice 203),1,24,(some (zS)),[],[],false⟩),(199,⟨.struct,2,48,(some (.agg #[(zS),(zS)])),[(0,1,false),(1,1,false)],[],false⟩),(203,⟨.struct,2,16,(some (.agg #[(iI 0),(iI 0)])),[(0,1,false),(1,1,false)],[],true⟩),(212,⟨.struct,3,40,(some (.agg #[(iI 0),(iI 0),(zS)])),[(0,1,false),(1,1,false),(2,1,false)],[],false⟩),(216,⟨.struct,3,40,(some (.agg #[(iI 0),(iI 0),(zS)])),[(0,1,false),(1,1,false),(2,1,false)],[],false⟩),(235,⟨.struct,3,24,(some (.agg #[(iI 0),(iI 0),(iI 0)])),[(0,2,true),(2,1,false)],[],true⟩),(276,⟨(.map 3 3),1,8,(some (.map none)),[],[],false⟩),(288,⟨.struct,2,24,(some (.agg #[(.string ⟨#[]⟩),(iI 0)])),[(0,1,false),(1,1,false)],[],true⟩),(297,⟨.struct,2,16,(some (.agg #[(iI 0),(iI 0)])),[(0,1,false),(1,1,false)],[],true⟩),(328,⟨(.map 3 24),1,8,(some (.map none)),[],[],false⟩),(346,⟨(.map 297 24),1,8,(some (.map none)),[],[],false⟩),(347,⟨(.map 297 3),1,8,(some (.map none)),[],[],false⟩),(356,⟨.struct,2,32,(some (.agg #[(zS),(iI 0)])),[(0,1,false),(1,1,false)],[],false⟩),(368,⟨(.map 373 86),1,8,(some (.map none)),[],[],false⟩),(369,⟨(.map 373 86),1,8,(some (.map none)),[],[],false⟩),(373,⟨.struct,2,16,(some (.agg #[(iI 0),(iI 0)])),[(0,1,false),(1,1,false)],[],true⟩),(376,⟨.struct,2,48,(some (.agg #[(zS),(zS)])),[(0,2,true)],[],false⟩),(379,⟨.struct,8,192,(some (.agg #[(zS),(zS),(zS),(zS),(zS),(zS),(zS),(zS)])),[(0,8,true)],[],false⟩),(419,⟨(.int .u64),1,8,(some (.int .u64 0)),[],[],true⟩),(426,⟨(.slice 5),1,24,(some (zS)),[],[],false⟩),(513,⟨.struct,2,16,(some (.agg #[(iI 0),(iI 0)])),[(0,1,false),(1,1,false)],[],true⟩)]
noncomputable def Ty(t:TypeId):Option dD:=match Ut WO t with
 |some i=>some i
 |none=>tyi Tryz.prog t
theorem aT:ec Tryz.prog Ty:=λt i h=>by
 rcases e:Ut WO t with _|j
 ·exact⟨i.cmp,(by simpa[Ty,e] using h:tyi Tryz.prog t=some i)⟩
 exact Sn (l:=WO) (by kernel_rfl) t i (by simpa[Ty,e] using h)
theorem Gu{P:Program}{F F':FuncId->Bool}(h:sI P F)(h':sI P F'):sI P λg=>F g||F' g:=λg u=>by
 rcases ahz _ _▸u with u|u
 ·exact h g u
 ·exact h' g u
def Fn(g:FuncId):Bool:=(Nat.ble 3 g&&Nat.ble g 349)||(Nat.ble 351 g&&Nat.ble g 397)||(Nat.ble 399 g&&Nat.ble g 400)||(Nat.ble 419 g&&Nat.ble g 425)||(Nat.ble 432 g&&Nat.ble g 432)
theorem WQ:sI Tryz.prog Fn:=(Gu (Gu (Gu (Gu (BJ (by kernel_rfl)) (BJ (by kernel_rfl))) (BJ (by kernel_rfl))) (BJ (by kernel_rfl))) (BJ (by kernel_rfl)))
theorem mixed:Tryz.prog.follows .mixedOrders=true:=by kernel_rfl
abbrev vU(l:List Value):Value:=.tuple (Array.mk l)
abbrev cL(w:aiA)(a:Addr)(v:Value):Prop:=w.cell? a=some v
abbrev rA(w:aiA)(a:Addr)(n:Nat)(l:List Value):Prop:=rowAt w a 0 n=some l
abbrev χ(w:aiA)(s:Addr)(K:Value->Prop):Prop:=∃a b c d e f g h i j k l m,rA w s 5 [vS a b c,vS d e f,vS g h i,iI j,vS k l m]/\K (vG [vS a b c,vS d e f,vS g h i,iI j,vS k l m])
abbrev φ(a:aiz)(b c:Nat)(d:aiz)(e f:Nat)(g:aiz)(h i:Nat)(j:Int)(k:aiz)(l m:Nat):Value:=.agg #[(vS a b c),(vS d e f),(vS g h i),(iI j),(vS k l m)]
abbrev ψ(a:aiz)(b c:Nat)(d:aiz)(e f:Nat)(g:aiz)(h i:Nat)(j:Int)(k:aiz)(l m:Nat):Obj:=oC [vS a b c,vS d e f,vS g h i,iI j,vS k l m] 27
abbrev τ(l:List (Nat×S1))(K:lP l->lN l->Prop):Prop:=∃x,∃y,K x y
abbrev ρ:=ay Tryz.prog
abbrev rE:=iA Tryz.prog Ev
abbrev dLs(I:World->Prop)(a:Addr)(K:Option Addr->Nat->Nat->Prop):Prop:=∃c d e,(∀u,I u->cL u a (vS c d e))/\K c d e
abbrev dLi(I:World->Prop)(a:Addr)(K:Int->Prop):Prop:=∃c,(∀u,I u->cL u a (iI c))/\K c
abbrev dLb(I:World->Prop)(a:Addr)(K:Bool->Prop):Prop:=∃c,(∀u,I u->cL u a (vB c))/\K c
abbrev dLp(I:World->Prop)(a:Addr)(K:Option Addr->Prop):Prop:=∃c,(∀u,I u->cL u a (vP c))/\K c
abbrev dW1(w:World)(K:World->WP->Prop):Prop:=∀u,drawn w u->∃I:WP,I u/\K u I
abbrev nA{A:Type}(c:A->WP)(d:A->World->Nat)(x0:A)(w:World)(y0:A)(u:World):Prop:=c x0 w/\d x0 w<d y0 u
abbrev nB{A:Type}{B:Type}(c:A->B->WP)(d:A->B->World->Nat)(x0:A)(x1:B)(w:World)(y0:A)(y1:B)(u:World):Prop:=c x0 x1 w/\d x0 x1 w<d y0 y1 u
abbrev nC1{A:Type}{B:Type}{C:Type}(c:A->B->C->WP)(d:A->B->C->World->Nat)(x0:A)(x1:B)(x2:C)(w:World)(y0:A)(y1:B)(y2:C)(u:World):Prop:=c x0 x1 x2 w/\d x0 x1 x2 w<d y0 y1 y2 u
abbrev nD1{A:Type}{B:Type}{C:Type}{D:Type}(c:A->B->C->D->WP)(d:A->B->C->D->World->Nat)(x0:A)(x1:B)(x2:C)(x3:D)(w:World)(y0:A)(y1:B)(y2:C)(y3:D)(u:World):Prop:=c x0 x1 x2 x3 w/\d x0 x1 x2 x3 w<d y0 y1 y2 y3 u
abbrev nE1{A:Type}{B:Type}{C:Type}{D:Type}{E:Type}(c:A->B->C->D->E->WP)(d:A->B->C->D->E->World->Nat)(x0:A)(x1:B)(x2:C)(x3:D)(x4:E)(w:World)(y0:A)(y1:B)(y2:C)(y3:D)(y4:E)(u:World):Prop:=c x0 x1 x2 x3 x4 w/\d x0 x1 x2 x3 x4 w<d y0 y1 y2 y3 y4 u
abbrev fW1(t:TypeId)(l:List Value):=fW t (Array.mk l)
abbrev vF1(d:FuncId)(e:List Value):Value:=Value.func (.func d) #[] ⟨e⟩
abbrev bQ(p:Prop)[Decidable p](a b:Prop):Prop:=br (decide p) a b
abbrev rEs(f:FuncId)(l:List Value)(w:World)(K:Option Addr->Nat->Nat->World->Prop):Prop:=rE f l w λa b=>∃c d e,a=vS c d e/\K c d e b
abbrev cLs(w:World)(a:Addr)(K:Option Addr->Nat->Nat->Prop):Prop:=∃c d e,cL w a (vS c d e)/\K c d e
abbrev rEi(f:FuncId)(l:List Value)(w:World)(K:Int->World->Prop):Prop:=rE f l w λa b=>∃c,a=iI c/\K c b
abbrev cLi(w:World)(a:Addr)(K:Int->Prop):Prop:=∃c,cL w a (iI c)/\K c
abbrev rEb(f:FuncId)(l:List Value)(w:World)(K:Bool->World->Prop):Prop:=rE f l w λa b=>∃c,a=vB c/\K c b
abbrev cLb(w:World)(a:Addr)(K:Bool->Prop):Prop:=∃c,cL w a (vB c)/\K c
abbrev rEp(f:FuncId)(l:List Value)(w:World)(K:Option Addr->World->Prop):Prop:=rE f l w λa b=>∃c,a=vP c/\K c b
abbrev cLp(w:World)(a:Addr)(K:Option Addr->Prop):Prop:=∃c,cL w a (vP c)/\K c
abbrev rS:=@aY Value Tryz.prog
theorem rv{i:FuncId}{fn:Func}(hf:Tryz.prog.funcs[i]? =some fn){args:List Value}{w:aiA}{R:Value->aiA->Prop}{V:Prop}(h:V)(A:aW:=⟨[],[],[],[]⟩)(e:Z6 Tryz.prog Ty Fn Ev A fn args w R=V:=by kernel_rfl):ρ i args w R:=WM aT WQ mixed hf A (e▸h)
theorem rvD{i:FuncId}{fn:Func}(hf:Tryz.prog.funcs[i]? =some fn)(A:aW){args:List Value}{w:aiA}{R:Value->aiA->Prop}{V:Prop}(e:fnD Tryz.prog Ty Fn Ev A fn args w R=V)(h:V):ρ i args w R:=aar aT WQ mixed hf A ac2 (e▸h)
section
variable{a b c d:aiz}{i j k l m n o p:Nat}{A B:Int}{w:aiA}{R:Value->WP}
theorem FE(h:new w (ψ a i j b k l c m n A d o p) λa b=>∃(c:lP [(21,yV)]),(cLs b (Addr.add (aM a) 1) λd e f=>br ((e:Int)==0) (c true b) (cLs b (Addr.add (aM a) 1) λd e f=>idx d e 0 1 λd=>∃e,cL b d (Value.string e)/\br (!ByteArray.toList e==ByteArray.toList (ByteArray.mk (Array.mk []))) (c true b) (χ b (aM a) λa=>rEb 164 [a,iI 1] b λd b=>c (!d) b)))/\∀(_:ν) b d,c b d->br b (R (vB false) d) (χ d (aM a) λb=>rE 165 [b,iI 1] d λb c=>∃d e f g,b=vU [vS d e f,vB g]/\cLs c (Addr.add (aM a) 4) λb d e=>dW1 c λe c=>br g (idx b d 0 3 λf=>dLi c f λg=>dLs c (aM a) λf h i=>br (g==(h:Int)) (idx b d 0 3 λf=>dLs c (f.add 1) λg h i=>br ((h:Int)==1) (idx b d 0 3 λf=>dLs c (f.add 1) λg h i=>idx g h 0 1 λf=>dLi c f λg=>dLi c (Addr.add (aM a) 3) λf=>br (g==f) (idx b d 0 3 λa=>dLi c (a.add 2) λb=>R (vB (b==0)) e) (R (vB false) e)) (R (vB false) e)) (R (vB false) e)) (R (vB false) e))):ρ 81 [φ a i j b k l c m n A d o p] w R:=rv Tryz.func81 h ⟨[],[(2,[(21,yV)])],[],[]⟩
theorem mr{d:Bool}(h:rEi 175 [vS a i j,vB d] w λc b=>R (vB (decide (0<=c))) b):ρ 84 [vS a i j,vB d] w R:=rv Tryz.func84 h
theorem wN(h:rE 172 [vP a] w λa b=>∃c d,a=vF1 c d/\rEs 181 [vF1 c d] b λc d e b=>R (vS c d e) b):ρ 89 [.pointer a] w R:=rv Tryz.func89 h
theorem bK{d:FuncId}{e:List Value}(h:τ [(8,aN)] λb c=>b 0 w/\∀(_:ν) f g,b f g->bQ (f<(i:Int)) (idx a i f 1 λa=>∃h,World.cell? g a=some (iI h)/\pj (Fn d) (rEb d (iI h::e) g λe d=>br e (R (iI f) d) (aA (f+1)/\nA b c (f+1) d f g))) (R (iI (-1)) g)):ρ 90 [vS a i j,(.func (.func d) #[] ⟨e⟩)] w R:=rv Tryz.func90 h ⟨[(2,[(8,aN)])],[],[],[]⟩
def Hn(a:Int)(b:aiz)(c d:Nat)(w:aiA)(R:Value->WP):Prop:=  aA ((if 1024<if a<0 then 0 else a then 1024 else if a<0 then 0 else a)+63)/\nz 64/\aA (Int.tdiv ((if 1024<if a<0 then 0 else a then 1024 else if a<0 then 0 else a)+63) 64)/\od (Int.tdiv ((if 1024<if a<0 then 0 else a then 1024 else if a<0 then 0 else a)+63) 64) (Int.tdiv ((if 1024<if a<0 then 0 else a then 1024 else if a<0 then 0 else a)+63) 64) 8/\new w (Obj.cells (Array.mk (gD (Int.toNat (Int.tdiv ((if 1024<if a<0 then 0 else a then 1024 else if a<0 then 0 else a)+63) 64)) [Value.int IntKind.u64 0])) 419) λe f=>new f (oC [vS (some (aM e)) (Int.toNat (Int.tdiv ((if 1024<if a<0 then 0 else a then 1024 else if a<0 then 0 else a)+63) 64)) (Int.toNat (Int.tdiv ((if 1024<if a<0 then 0 else a then 1024 else if a<0 then 0 else a)+63) 64)),iI (if 1024<if a<0 then 0 else a then 1024 else if a<0 then 0 else a)] 356) λa e=>iA Tryz.prog Ev 103 [vP (some (aM a)),vS b c d] e λb c=>∃d,b=iI d/\R (vP (some (aM a))) c
theorem Oh(a:Int)(b:aiz)(c d:Nat)(w:aiA)(R:Value->WP)(h:Hn a b c d w R):ρ 102 [iI a,vS b c d] w R:=rv Tryz.func102 h
theorem DG(h:τ [(5,aN),(10,aN)] λc d=>c 0 0 w/\∀(_:ν) e f g,c e f g->bQ (f<(i:Int)) (idx b i f 1 λb=>∃h,World.cell? g b=some (iI h)/\bQ (0<=h) (rEi 171 [vP a] g λj i=>bQ (h<j) (nn a λb=>∃j k l,World.cell? i b=some (vS j k l)/\rEb 199 [vS j k l,iI h] i λj i=>br (!j) (nn a λa=>∃b j k,World.cell? i a=some (vS b j k)/\rE 200 [vS b j k,iI h] i λa b=>a=vU []/\aA (e+1)/\aA (f+1)/\nB c d (e+1) (f+1) b e f g) (aA (f+1)/\nB c d e (f+1) i e f g)) (aA (f+1)/\nB c d e (f+1) i e f g)) (aA (f+1)/\nB c d e (f+1) g e f g)) (R (iI e) g)):ρ 103 [.pointer a,vS b i j] w R:=rv Tryz.func103 h ⟨[(3,[(5,aN),(10,aN)])],[],[],[]⟩
theorem iQ(h:br (Option.isNone a) (R (zS) w) (new w (oC [] 3) λb c=>rS (fW1 24 [vS (some (aM b)) 0 0,vS a i j]) c λa b=>∃c d e,a=vS c d e/\R (vS c d e) b)):ρ 115 [vS a i j] w R:=rv Tryz.func115 h
theorem bZ{d:FuncId}{e:List Value}(h:rEi 90 [vS a i j,vF1 d e] w λc b=>R (vB (decide (0<=c))) b):ρ 126 [vS a i j,(.func (.func d) #[] ⟨e⟩)] w R:=rv Tryz.func126 h
theorem DI(h:new w (ψ a i j b k l c m n A d o p) λa b=>∃(c:lP [(57,yV)]),(cLs b (aM a) λd e f=>br ((e:Int)==0) (c true b) (cLs b (aM a) λd e f=>idx d e 0 2 λd=>∃e f,rA b d 2 [Value.string e,iI f]/\∃d,Sem.run Tryz.prog (q9 BinOp.neq 288 (Operand.tmp 20) (Operand.tmp 21) (vG [Value.string e,iI f]) (vG [Value.string (ByteArray.mk (Array.mk [])),iI 0])) b=Result.ok d b/\∃e,d=vB e/\br e (c true b) (cLs b (Addr.add (aM a) 1) λd e f=>bQ ((e:Int)<=B) (c true b) (cLs b (aM a) λd e f=>bQ (65<(e:Int)) (c true b) (cLs b (Addr.add (aM a) 1) λd e f=>aA (64+B)/\bQ (64+B<(e:Int)) (c true b) (cLs b (aM a) λd e f=>aA ((e:Int)-1)/\cLs b (Addr.add (aM a) 1) λd f g=>aA ((e:Int)-1+(f:Int))/\aA ((e:Int)-1+(f:Int)-B)/\c (decide (64<(e:Int)-1+(f:Int)-B)) b))))))/\∀(_:ν) b d,c b d->br b (R (vB false) d) (new d (Obj.map (Array.mk []) 0) λb c=>cLs c (aM a) λd e f=>lU d e f (some 1) none none 2 λ(d:aiz)(e _:Nat)=>τ [(5,kT),(63,aN)] λf g=>f none 0 0 0 c/\∀(_:ν) c h i j k,f c h i j k->bQ (j<(e:Int)) (idx d e j 2 λd=>∃e l,rA k d 2 [Value.string e,iI l]/\new k (oC [Value.string (ByteArray.mk (Array.mk [])),iI 0] 288) λd m=>bA m (aM d) [Value.string e,iI l] λe=>∃(l:lP [(83,yV)]),(∃b,cL e (aM d) (Value.string b)/\rEb 236 [Value.string b] e λe c=>br (!e) (l true c) (cLi c (Addr.add (aM d) 1) λb=>bQ (b<0) (l true c) (cLi c (Addr.add (aM d) 1) λb=>cLs c (Addr.add (aM a) 2) λd e f=>l (decide ((e:Int)<b)) c)))/\∀(_:ν) a e,l a e->br a (R (vB false) e) (∃a,cL e (aM d) (Value.string a)/\new e (oC [Value.string a] 9) λa e=>rS (fW1 23 [vS c h i,vS (some (aM a)) 1 1]) e λa e=>∃l m n,a=vS l m n/\cLi e (Addr.add (aM d) 1) λa=>aY Tryz.prog (Instr.mapUpdate 276 (Value.map (some b)) (iI a) (iI 1)) e λ(_:Unit)(a:aiA)=>aA (j+1)/\nD1 f g l m n (j+1) a c h i j k)) (cLs k (Addr.add (aM a) 2) λd e f=>τ [(96,aN)] λf g=>f 0 k/\∀(_:ν) j k,f j k->bQ (j<(e:Int)) (idx d e j 1 λa=>cLi k a λc=>bQ (c<1) (R (vB false) k) (bQ (3<c) (R (vB false) k) (aA (j+1)/\aY Tryz.prog (Instr.lookup 276 (Value.map (some b)) (iI (j+1)) false) k λa b=>∃c,a=iI c/\br (c==0) (R (vB false) b) (aA (j+1)/\nA f g (j+1) b j k)))) (cLs k (Addr.add (aM a) 1) λb d e=>lU b d e (some B) none none 1 λ(a:aiz)(b d:Nat)=>rEb 254 [vS c h i] k λf e=>br f (rEb 254 [vS a b d] e λf e=>br f (rEb 255 [vS a b d,vF1 256 []] e λc b=>R (vB !c) b) (R (vB false) e)) (R (vB false) e))))):ρ 164 [φ a i j b k l c m n A d o p,iI B] w R:=rv Tryz.func164 h ⟨[(6,[(5,kT),(63,aN)]),(14,[(96,aN)])],[(2,[(57,yV)]),(9,[(83,yV)])],[],[]⟩
theorem wQ(h:new w (ψ a i j b k l c m n A d o p) λa b=>∃(c:lP [(25,yV)]),(cLs b (Addr.add (aM a) 4) λd e f=>bQ ((e:Int)<=B) (c true b) (cLs b (Addr.add (aM a) 4) λd e f=>aA (96+B)/\c (decide (96+B<(e:Int))) b))/\∀(_:ν) b d,c b d->br b (R (vU [zS,vB false]) d) (cLs d (aM a) λb c e=>cLs d (Addr.add (aM a) 1) λb e f=>aA ((c:Int)+(e:Int))/\cLs d (aM a) λb f g=>aA ((f:Int)+B)/\cLs d (Addr.add (aM a) 4) λb g h=>lU b g h (some B) none none 3 λ(b:aiz)(g _:Nat)=>τ [(8,kT),(43,aN)] λh i=>h none 0 0 0 d/\∀(_:ν) d j k l m,h d j k l m->bQ (l<(g:Int)) (idx b g l 3 λb=>∃g n o p q,rA m b 3 [iI g,vS n o p,iI q]/\new m (oC [iI 0,zS,iI 0] 134) λb r=>bA r (aM b) [iI g,vS n o p,iI q] λg=>∃(n:lP [(69,yV)]),(cLi g (aM b) λd=>bQ (d<(f:Int)+B) (n true g) (cLi g (aM b) λd=>bQ ((c:Int)+(e:Int)<=d) (n true g) (cLi g (Addr.add (aM b) 2) λc=>bQ (c<0) (n true g) (cLi g (Addr.add (aM b) 2) λc=>cLs g (Addr.add (aM a) 2) λb d e=>n (decide ((d:Int)<c)) g))))/\∀(_:ν) g o,n g o->br g (R (vU [zS,vB false]) o) (cLs o (Addr.add (aM b) 1) λg n p=>τ [(73,aN)] λp q=>p 0 o/\∀(_:ν) o r,p o r->bQ (o<(n:Int)) (idx g n o 1 λb=>cLi r b λd=>bQ (d<1) (R (vU [zS,vB false]) r) (bQ ((c:Int)+(e:Int)<=d) (R (vU [zS,vB false]) r) (cLs r (aM a) λb c e=>bQ ((c:Int)<=d) (bQ (d<(f:Int)+B) (R (vU [zS,vB false]) r) (aA (o+1)/\nA p q (o+1) r o r)) (aA (o+1)/\nA p q (o+1) r o r)))) (cLi r (aM b) λa=>rEb 257 [vS d j k,iI a] r λe c=>br (!e) (cLi c (aM b) λa=>new c (oC [iI a] 3) λa b=>rS (fW1 24 [vS d j k,vS (some (aM a)) 1 1]) b λa b=>∃c e f,a=vS c e f/\aA (l+1)/\nD1 h i c e f (l+1) b d j k l m) (aA (l+1)/\nD1 h i d j k (l+1) c d j k l m)))) (dW1 m λb g=>dLs g (Addr.add (aM a) 1) λh i l=>aA ((i:Int)-B)/\br ((j:Int)==(i:Int)-B) (dLi g (Addr.add (aM a) 3) λh=>bQ ((f:Int)+B<=h) (dLi g (Addr.add (aM a) 3) λf=>R (vU [vS d j k,vB (decide (f<(c:Int)+(e:Int)))]) b) (R (vU [vS d j k,vB false]) b)) (R (vU [vS d j k,vB false]) b)))):ρ 165 [φ a i j b k l c m n A d o p,iI B] w R:=rv Tryz.func165 h ⟨[(7,[(8,kT),(43,aN)]),(12,[(73,aN)])],[(2,[(25,yV)]),(10,[(69,yV)])],[],[]⟩
theorem Hr(h:new w (ψ a i j b k l c m n A d o p) λa b=>χ b (aM a) λc=>rEb 164 [c,iI 0] b λd c=>br (!d) (R (vB false) c) (χ c (aM a) λa=>rE 165 [a,iI 0] c λa b=>∃c d e f,a=vU [vS c d e,vB f]/\br f (rEb 258 [vS c d e] b λc b=>R (vB c) b) (R (vB false) b))):ρ 166 [φ a i j b k l c m n A d o p] w R:=rv Tryz.func166 h
theorem DK(h:bQ (0<=A) (rEi 171 [vP a] w λd c=>bQ (A<d) (nn a λa=>∃b d e,World.cell? c a=some (vS b d e)/\rEb 199 [vS b d e,iI A] c λc b=>R (vB c) b) (R (vB false) c)) (R (vB false) w)):ρ 168 [.pointer a,iI A] w R:=rv Tryz.func168 h
theorem jm(h:br (Option.isNone a) (R (zS) w) (new w (oC [] 288) λb c=>rS (fW1 22 [vS (some (aM b)) 0 0,vS a i j]) c λa b=>∃c d e,a=vS c d e/\R (vS c d e) b)):ρ 170 [vS a i j] w R:=rv Tryz.func170 h
theorem qI(h:br (Option.isNone a) (R (iI 0) w) (nn a λa=>∃b,World.cell? w (a.add 1)=some (iI b)/\R (iI b) w)):ρ 171 [.pointer a] w R:=rv Tryz.func171 h
theorem DM(h:new w (oC [zS] 354) λb c=>br (!Option.isNone a) (nn a λa=>∃d e f,World.cell? c a=some (vS d e f)/\rEs 263 [vS d e f] c λd e f c=>st1 c (aM b) (vS d e f) λa=>R (vF1 264 [vP (some (aM b))]) a) (R (vF1 264 [vP (some (aM b))]) c)):ρ 172 [.pointer a] w R:=rv Tryz.func172 h
theorem ot{a:aiz}{b c:Nat}{d:Bool}{w:aiA}{R:Value->WP}(h:τ [(8,aN)] λc e=>c 0 w/\∀(_:ν) f g,c f g->bQ (f<(b:Int)) (idx a b f 1 λa=>∃b,World.cell? g a=some (vB b)/\br (d==b) (R (iI f) g) (aA (f+1)/\nA c e (f+1) g f g)) (R (iI (-1)) g)):ρ 175 [vS a b c,vB d] w R:=rv Tryz.func175 h ⟨[(2,[(8,aN)])],[],[],[]⟩
theorem jO(h:lU a i j none (some (i:Int)) (some (i:Int)) 2 λ(a:aiz)(b c:Nat)=>R (vS a b c) w):ρ 176 [vS a i j] w R:=rv Tryz.func176 h
theorem mw(h:lU a i j none (some (i:Int)) (some (i:Int)) 1 λ(a:aiz)(b c:Nat)=>R (vS a b c) w):ρ 177 [vS a i j] w R:=rv Tryz.func177 h
theorem lW(h:br (Option.isNone a) (R (zS) w) (new w (oC [] 9) λb c=>rS (fW1 23 [vS (some (aM b)) 0 0,vS a i j]) c λa b=>∃c d e,a=vS c d e/\R (vS c d e) b)):ρ 178 [vS a i j] w R:=rv Tryz.func178 h
theorem sO{a:FuncId}{b:List Value}(h:rEs 269 [zS,vF1 a b] w λc d e b=>R (vS c d e) b):ρ 181 [(.func (.func a) #[] ⟨b⟩)] w R:=rv Tryz.func181 h
theorem pn(h:nz 64/\aA (Int.tdiv A 64)/\idx a i (Int.tdiv A 64) 1 λa=>∃b,World.cell? w a=some (Value.int IntKind.u64 b)/\nz 64/\ns (Int.tmod A 64)/\R (vB (ph BinOp.and IntKind.u64 (aZ IntKind.u64 b (Int.tmod A 64)) 1==1)) w):ρ 199 [vS a i j,iI A] w R:=rv Tryz.func199 h
theorem An(h:dW1 w λb c=>nz 64/\aA (Int.tdiv A 64)/\idx a i (Int.tdiv A 64) 1 λd=>∃e,(∀a,c a->World.cell? a d=some (Value.int IntKind.u64 e))/\nz 64/\ns (Int.tmod A 64)/\idx a i (Int.tdiv A 64) 1 λa=>st1 b a (Value.int IntKind.u64 (ph BinOp.or IntKind.u64 e (Wi IntKind.u64 1 (Int.tmod A 64)))) λa=>R (vU []) a):ρ 200 [vS a i j,iI A] w R:=rv Tryz.func200 h
def wR(a:ByteArray)(w:aiA)(R:Value->WP):Prop:=  br (!ByteArray.toList a==ByteArray.toList (ByteArray.mk (Array.mk []))) (br (decide ((↑(ByteArray.size a):Int)<=16)) (iA Tryz.prog Ev 319 [Value.string a,vF1 320 []] w λa b=>∃c,a=iI c/\R (vB (decide (c<0))) b) (R (vB false) w)) (R (vB false) w)
theorem FG(a:ByteArray)(w:aiA)(R:Value->WP)(h:wR a w R):ρ 236 [.string a] w R:=rv Tryz.func236 h
def wS(a:ByteArray)(w:aiA)(R:Value->WP):Prop:=  τ [(7,aN)] λb c=>b 0 w/\∀(_:ν) d e,b d e->br (decide (d<(↑(ByteArray.size a):Int))) (inS d (ByteArray.size a)/\br ((↑(UInt8.toNat (sb a (Int.toNat d))):Int) !=95) (br (decide (ph BinOp.or IntKind.u8 (↑(UInt8.toNat (sb a (Int.toNat d))):Int) 32<97)) (br (d==0) (R (vB false) e) (br (decide ((↑(UInt8.toNat (sb a (Int.toNat d))):Int)<48)) (R (vB false) e) (br (decide (57<(↑(UInt8.toNat (sb a (Int.toNat d))):Int))) (R (vB false) e) (aA (d+1)/\nA b c (d+1) e d e)))) (br (decide (122<ph BinOp.or IntKind.u8 (↑(UInt8.toNat (sb a (Int.toNat d))):Int) 32)) (br (d==0) (R (vB false) e) (br (decide ((↑(UInt8.toNat (sb a (Int.toNat d))):Int)<48)) (R (vB false) e) (br (decide (57<(↑(UInt8.toNat (sb a (Int.toNat d))):Int))) (R (vB false) e) (aA (d+1)/\nA b c (d+1) e d e)))) (aA (d+1)/\nA b c (d+1) e d e))) (aA (d+1)/\nA b c (d+1) e d e)) (br (!ByteArray.toList a==ByteArray.toList (ByteArray.mk (Array.mk []))) (R (vB (decide ((↑(ByteArray.size a):Int)<=16))) e) (R (vB false) e))
theorem FI(a:ByteArray)(w:aiA)(R:Value->WP)(h:wS a w R):ρ 240 [.string a] w R:=rv Tryz.func240 h ⟨[(2,[(7,aN)])],[],[],[]⟩
theorem jQ(h:lU a i j none (some (i:Int)) (some (i:Int)) 3 λ(a:aiz)(b c:Nat)=>R (vS a b c) w):ρ 253 [vS a i j] w R:=rv Tryz.func253 h
theorem FK(h:new w (Obj.map (Array.mk []) 0) λb c=>τ [(9,aN)] λd e=>d 0 c/\∀(_:ν) c f,d c f->bQ (c<(i:Int)) (idx a i c 1 λa=>∃g,cL f a (Value.string g)/\aY Tryz.prog (Instr.lookup 188 (Value.map (some b)) (Value.string g) false) f λa h=>∃i,a=iI i/\aA (i+1)/\aY Tryz.prog (Instr.mapUpdate 188 (Value.map (some b)) (Value.string g) (iI (i+1))) h λ(_:Unit)(a:aiA)=>aA (c+1)/\nA d e (c+1) a c f) (∃a,Sem.run Tryz.prog (Builtin.len_ (Array.mk [188]) 3 (Array.mk [Value.map (some b)])) f=Result.ok a f/\∃b,a=iI b/\R (vB (b==(i:Int))) f)):ρ 254 [vS a i j] w R:=rv Tryz.func254 h ⟨[(3,[(9,aN)])],[],[],[]⟩
theorem gZ{d:FuncId}{e:List Value}(h:rEi 322 [vS a i j,vF1 d e] w λc b=>R (vB (decide (0<=c))) b):ρ 255 [vS a i j,(.func (.func d) #[] ⟨e⟩)] w R:=rv Tryz.func255 h
abbrev kW:FuncId:=256
theorem yX{a:ByteArray}(h:rEb 240 [Value.string a] w λc b=>R (vB !c) b):ρ 256 [.string a] w R:=rv Tryz.func256 h
theorem nI(h:rEi 323 [vS a i j,iI A] w λc b=>R (vB (decide (0<=c))) b):ρ 257 [vS a i j,iI A] w R:=rv Tryz.func257 h
theorem nK(h:aA ((i:Int)-1)/\τ [(3,aN)] λb c=>b ((i:Int)-1) w/\∀(_:ν) d e,b d e->bQ (0<d) (dW1 e λf g=>idx a i d 1 λh=>dLi g h λj=>aA (d-1)/\idx a i (d-1) 1 λa=>dLi g a λh=>rEb 277 [iI j,iI h] f λg f=>br g (R (vB false) f) (aA (d-1)/\nA b c (d-1) f d e)) (R (vB true) e)):ρ 258 [vS a i j] w R:=rv Tryz.func258 h ⟨[(2,[(3,aN)])],[],[],[]⟩
theorem jo(h:br (Option.isNone a) (R (zS) w) (new w (oC [] 419) λb c=>rS (fW1 354 [vS (some (aM b)) 0 0,vS a i j]) c λa b=>∃c d e,a=vS c d e/\R (vS c d e) b)):ρ 263 [vS a i j] w R:=rv Tryz.func263 h
abbrev qJ:FuncId:=264
def nU:aW:={ rngs:=[],loops:=[(1,[(7,(.one (.int .i64)))]),(3,[(4,(.one (.int .u64)))])],joins:=[],blocks:=[] }
def mT(E:aiA->aiA->Prop)(p0yield:Nat)(c0:Addr)(w:aiA)(R:Value->aiA->Prop):Prop:=  ∃a b c,World.cell? w c0=some (vS a b c)/\τ [(7,aN)] λc d=>c 0 w/\∀(_:ν) e f,c e f->br (decide (e<(↑b:Int))) (idx a b e 1 λa=>∃b,World.cell? f a=some (Value.int IntKind.u64 b)/\τ [(4,S1.one (Cs.int IntKind.u64))] λa g=>a b f/\∀(_:ν) b h,a b h->br (b !=0) (aA (64*e)/\iA Tryz.prog E 265 [Value.int IntKind.u64 b] h λc d=>∃f,c=iI f/\aA (64*e+f)/\yld Tryz.prog E p0yield [iI (64*e+f)] d λc d=>∃e,c=vB e/\br (!e) (R (vT (Array.mk [])) d) (a (ph BinOp.and IntKind.u64 b (IntKind.wrap IntKind.u64 (b-1))) d/\g (ph BinOp.and IntKind.u64 b (IntKind.wrap IntKind.u64 (b-1))) d<g b h)) (aA (e+1)/\c (e+1) h/\d (e+1) h<d e f)) (R (vT (Array.mk [])) f)
theorem vx(E:aiA->aiA->Prop)(p0yield:Nat)(c0:Addr)(hE:Jt E)(w:aiA)(R:Value->aiA->Prop)(h:mT E p0yield c0 w R):iA Tryz.prog E 264 [(.func (.yield p0yield) #[] #[]),(.pointer (some c0))] w R:=
 aan aT WQ mixed Tryz.func264 nU hE (by kernel_rfl) ((by kernel_rfl:Z6 Tryz.prog Ty Fn E nU Tryz.f264 [(.func (.yield p0yield) #[] #[]),(.pointer (some c0))] w R=mT E p0yield c0 w R)▸h)
theorem mW(h:br (A==0) (R (iI 64) w) (ns 58/\idx (some (aM 0)) 64 (aZ IntKind.u64 (IntKind.wrap IntKind.u64 (ph BinOp.and IntKind.u64 A (IntKind.wrap IntKind.u64 (0-A))*285870213051353865)) 58) 1 λa=>∃b,World.cell? w a=some (Value.int IntKind.u8 b)/\aA b/\R (iI b) w)):ρ 265 [.int .u64 A] w R:=rv Tryz.func265 h
theorem mY{d:FuncId}{e:List Value}(h:new w (oC [vS a i j] 24) λa b=>pj (Fn d) (∃(c:List (List Value)),∃(f:aE),∃(g:aE),∃(h:Nat->aE),∃(i:aE),∃(_:Nat->aE),∃(j:List aE),St b (h 0::f::j)/\(∀(a:Hp),aF j a->g a)/\Z5 Tryz.prog d [] e f g c/\(∀(a:List Value),a∈c->∃b,a=[iI b])/\(∀(b:Nat)(d:Int),List.get?Internal c b=some [iI d]->∀(c:List aE)(e:aiA),NR c j->St e (h b::c)->∃(f:aE),St e (f::c)/\∀(c:List aE)(e:aiA),NR c j->St e (f::c)->∃f g i,World.cell? e (aM a)=some (vS f g i)/\new e (oC [iI d] 3) λd e=>rS (fW1 24 [vS f g i,vS (some (aM d)) 1 1]) e λd e=>∃f g i,d=vS f g i/\st1 e (aM a) (vS f g i) λa=>St a (h (b+1)::c))/\(∀(b:aiA),St b (h (List.length c)::f::j)->∃c d e,World.cell? b (aM a)=some (vS c d e)/\∀(a:aiA),hp a=hp b->R (vS c d e) a)/\(∀(a:aiA),St a (i::f::j)->∀(b:aiA),hp b=hp a->R (zS) b)/\True)):ρ 269 [vS a i j,(.func (.func d) #[] ⟨e⟩)] w R:=rv Tryz.func269 h ⟨[],[],[],[(2,[(7,aN)])]⟩
theorem BP(h:rEb 283 [iI A] w λc b=>br c (rEb 283 [iI B] b λc b=>br (!c) (R (vB true) b) (R (vB (decide (A<B))) b)) (R (vB (decide (A<B))) b)):ρ 277 [iI A,iI B] w R:=rv Tryz.func277 h
theorem py(h:R (vB (A !=A)) w):ρ 283 [iI A] w R:=rv Tryz.func283 h
theorem hZ(h:new w (oC [iI A,iI B] 193) λb c=>∃d e,rowAt c (aM b) 0 2=some [iI d,iI e]/\rEi 356 [vS a i j,vG [iI d,iI e]] c λc b=>R (vB (decide (0<=c))) b):ρ 297 [vS a i j,(.agg #[iI A,iI B])] w R:=rv Tryz.func297 h
theorem vz{a:ByteArray}{b:FuncId}{c:List Value}(h:rEi 370 [Value.string a,vF1 b c,vB true] w λc b=>R (iI c) b):ρ 319 [.string a,(.func (.func b) #[] ⟨c⟩)] w R:=rv Tryz.func319 h
abbrev my:FuncId:=320
theorem Aq(h:bQ (A<32) (R (vB true) w) (bQ (126<A) (R (vB true) w) (R (vB (A==39)) w))):ρ 320 [.int .i32 A] w R:=rv Tryz.func320 h
theorem jr{d:FuncId}{e:List Value}(h:τ [(8,aN)] λb c=>b 0 w/\∀(_:ν) f g,b f g->bQ (f<(i:Int)) (idx a i f 1 λa=>∃h,World.cell? g a=some (Value.string h)/\pj (Fn d) (rEb d (Value.string h::e) g λe d=>br e (R (iI f) d) (aA (f+1)/\nA b c (f+1) d f g))) (R (iI (-1)) g)):ρ 322 [vS a i j,(.func (.func d) #[] ⟨e⟩)] w R:=rv Tryz.func322 h ⟨[(2,[(8,aN)])],[],[],[]⟩
theorem qk(h:τ [(8,aN)] λb c=>b 0 w/\∀(_:ν) d e,b d e->bQ (d<(i:Int)) (idx a i d 1 λa=>∃f,World.cell? e a=some (iI f)/\br (A==f) (R (iI d) e) (aA (d+1)/\nA b c (d+1) e d e)) (R (iI (-1)) e)):ρ 323 [vS a i j,iI A] w R:=rv Tryz.func323 h ⟨[(2,[(8,aN)])],[],[],[]⟩
theorem Au(h:new w (oC [vP a] 178) λa c=>new c (oC [iI 0] 3) λc d=>st1 d (aM c) (iI 0) λd=>τ [(11,aN)] λe f=>e 0 d/\∀(_:ν) d g,e d g->bQ (d<(i:Int)) (idx b i d 1 λb=>∃h,World.cell? g b=some (vP h)/\rE 172 [vP h] g λb h=>∃i j,b=vF1 i j/\pj (Fn i) (∃(b:List (List Value)),∃(k:aE),∃(l:aE),∃(m:Nat->aE),∃(n:aE),∃(_:Nat->aE),∃(o:List aE),St h (m 0::k::o)/\(∀(a:Hp),aF o a->l a)/\Z5 Tryz.prog i [] j k l b/\(∀(a:List Value),a∈b->∃b,a=[iI b])/\(∀(d:Nat)(e:Int),List.get?Internal b d=some [iI e]->∀(b:List aE)(f:aiA),NR b o->St f (m d::b)->∃(g:aE),St f (g::b)/\∀(b:List aE)(f:aiA),NR b o->St f (g::b)->dW1 f λg f=>dLi f (aM c) λh=>dLp f (aM a) λi=>new g (oC [iI e] 3) λa e=>f e/\rEi 103 [vP i,vS (some (aM a)) 1 1] e λg e=>f e/\aA (h+g)/\st1 e (aM c) (iI (h+g)) λa=>St a (m (d+1)::b))/\(∀(a:aiA),St a (m (List.length b)::k::o)->aA (d+1)/\nA e f (d+1) a d g)/\(∀(a:aiA),St a (n::k::o)->∀(b:aiA),hp b=hp a->R (iI 0) b)/\True)) (∃a,World.cell? g (aM c)=some (iI a)/\∀(b:aiA),hp b=hp g->R (iI a) b)):ρ 349 [.pointer a,vS b i j] w R:=rv Tryz.func349 h ⟨[(3,[(11,aN)])],[],[],[(6,[(17,aN)])]⟩
theorem jt(h:new w (oC [iI A,iI B] 193) λb c=>τ [(8,aN)] λd e=>d 0 c/\∀(_:ν) c f,d c f->bQ (c<(i:Int)) (dW1 f λg h=>∃j k,(∀a,h a->rowAt a (aM b) 0 2=some [iI j,iI k])/\idx a i c 2 λa=>∃b i,(∀c,h c->rowAt c a 0 2=some [iI b,iI i])/\∃a,(∀c,h c->Sem.run Tryz.prog (q9 BinOp.eql 193 (Operand.tmp 11) (Operand.tmp 15) (vG [iI j,iI k]) (vG [iI b,iI i])) c=Result.ok a c)/\∃b,a=vB b/\br b (R (iI c) g) (aA (c+1)/\nA d e (c+1) g c f)) (R (iI (-1)) f)):ρ 356 [vS a i j,(.agg #[iI A,iI B])] w R:=rv Tryz.func356 h ⟨[(2,[(8,aN)])],[],[],[]⟩
theorem vD{a:ByteArray}{b:FuncId}{c:List Value}{d:Bool}(h:aY Tryz.prog (Instr.range 9 (Value.string a)) w λa e=>∃f,a=vP f/\τ [] λa g=>a e/\∀(_:ν) e,a e->aY Tryz.prog (Instr.next (vP f) true 0) e λf h=>f=vU [vB false]/\R (iI (-1)) h\/∃i j,f=vU [vB true,iI i,Value.int IntKind.i32 j]/\pj (Fn b) (rEb b (Value.int IntKind.i32 j::c) h λf c=>br (f==d) (R (iI i) c) (a c/\g c<g e))):ρ 370 [.string a,(.func (.func b) #[] ⟨c⟩),vB d] w R:=rv Tryz.func370 h ⟨[(2,[])],[],[],[]⟩
theorem jS{d:FuncId}{e:List Value}(h:rEi 394 [vS a i j,vF1 d e] w λc b=>R (vB (decide (0<=c))) b):ρ 380 [vS a i j,(.func (.func d) #[] ⟨e⟩)] w R:=rv Tryz.func380 h
theorem lZ{d:FuncId}{e:List Value}(h:τ [(8,aN)] λb c=>b 0 w/\∀(_:ν) f g,b f g->bQ (f<(i:Int)) (idx a i f 1 λa=>∃h i j,World.cell? g a=some (vS h i j)/\pj (Fn d) (rEb d (vS h i j::e) g λe d=>br e (R (iI f) d) (aA (f+1)/\nA b c (f+1) d f g))) (R (iI (-1)) g)):ρ 394 [vS a i j,(.func (.func d) #[] ⟨e⟩)] w R:=rv Tryz.func394 h ⟨[(2,[(8,aN)])],[],[],[]⟩
end
section
variable{P:Program}{w w':aiA}{L:List aE}{b:Nat}{vs:List Value}
theorem fX{sz l c j:Nat}{a:aiz}{ad:Addr}{v:Value}{k:aiA->Prop}(h:St w (own sz a l c vs::L))(ha:a=some ad)(hj:j<vs.length)
  (hk:∀w',St w' (own sz a l c (vs.set j v)::L)->k w') (hv:aK v=true:=by rfl):st1 w (ad.add j) v k:=by
 rcases dE h with⟨rfl,_⟩|⟨b,O,cs,u,rfl,h,U,V,J⟩
 ·cases ha
 ·cases ha;rw[add_lit];refine aR h (by grind) (λw' h'=>?_) hv;rw[ahW _ _ ω,ahC,List.set_append_left _ _ hj] at h';refine hk w' (fp h' (by simp_all) (by simp_all) J)
theorem ax{a:aiz}{ad:Addr}{len i:Nat}{k:Addr->Prop}(ha:a=some ad)(hi:i<len)(hk:k (ad.add i)):idx a len (i:Int) 1 k:=
 ⟨ad,ha,ω,ω,by simpa[ff] using hk⟩
theorem eQ{sz l c:Nat}{a:aiz}(h:St w (own sz a l c vs::L))(hl:0<vs.length):∃ad,a=some ad:=by
 rcases dE h with⟨rfl,_,_,rfl⟩|⟨b,J,cs,u,rfl,_⟩
 ·simp_all
 simp
theorem qK{sz l c:Nat}{a:aiz}{ad:Addr}(h:St w (own sz a l c vs::L))(ha:a=some ad){j:Nat}{v:Value}(hj:vs[j]? =some v):w.cell? (ad.add j)=some v:=by grind[cO]
theorem m_(h:drawn w w'):hp w'=hp w:=by unfold drawn at h;subst h;rfl
theorem St.drawn(h:St w L)(hd:Proofs.YtaoaemnefghnbaaGreatDoor.drawn w w'):St w' L:=h.eq (m_ hd)
end
def cw(ws:List Nat):List Value:=ws.map λ(n:Nat)=>Value.int .u64 (n:Int)
def mem(ws:List Nat)(k:Nat):Bool:=(ws.getD (k/64) 0).testBit (k%64)
structure Inv(n:Nat)(ws:List Nat)(m:Nat->Bool):Prop where
 len:ws.length=(n+63)/64
 le:n<=1024
 lt:∀x∈ws,x<2^64
 mm:∀k,m k=mem ws k
 out:∀k,n<=k->m k=false
def BQ(p:aiz)(n:Nat)(m:Nat->Bool):aE:=λh=>
 (p=none/\n=0/\m=λ_=>false)\/
 ∃b a c ws,p=some ⟨b,0,none⟩/\Inv n ws m/\aF [az b [vS a ws.length c,iI (n:Int)],own 1 a ws.length c (cw ws)] h
section
variable{w w':aiA}{L:List aE}{p:aiz}{n:Nat}{m:Nat->Bool}
theorem mz(h:St w (BQ p n m::L)):(p=none/\n=0/\(m=λ_=>false)/\St w L)\/
  ∃b a c ws,p=some ⟨b,0,none⟩/\Inv n ws m/\St w (az b [vS a ws.length c,iI (n:Int)]::own 1 a ws.length c (cw ws)::L):=by
 have ht:=h.tail;obtain⟨U,V,d,s1,s2,ha,hl⟩:=h
 rcases ha with⟨O,J,u⟩|⟨b,a,c,ws,O,J,u⟩
 ·simp_all
 ·exact .inr ⟨b,a,c,ws,O,J,St.flat.1 (show St w (aV [_,_]::L) from⟨U,V,d,s1,s2,u,hl⟩)⟩
theorem SK{b:Nat}{a:aiz}{c:Nat}{ws:List Nat}(hi:Inv n ws m)(h:St w (az b [vS a ws.length c,iI (n:Int)]::own 1 a ws.length c (cw ws)::L)):St w (BQ (some ⟨b,0,none⟩) n m::L):=
 (St.flat.2 (show St w ([_,_]++L) from h)).head λh ha=>.inr ⟨b,a,c,ws,rfl,hi,ha⟩
theorem WR(h:St w (BQ p n m::L)){k:Nat}(hk:n<=k):m k=false:=by
 rcases mz h with⟨_,_,rfl,_⟩|⟨_,_,_,_,_,hi,_⟩
 ·rfl
 ·exact hi.out k hk
theorem aas(h:St w (BQ p n m::L)):n<=1024:=by
 rcases mz h with⟨_,rfl,_,_⟩|⟨_,_,_,_,_,hi,_⟩
 ·omega
 ·exact hi.le
end
section
variable{w:aiA}{L:List aE}{a:aiz}{c:Nat}{ws:List Nat}{p:aiz}{n:Nat}{m:Nat->Bool}
theorem LW{ws:List Nat}{j:Nat}(h:j<ws.length):(cw ws)[j]? =some (.int .u64 ((ws.getD j 0:Nat):Int)):=by grind[cw]
theorem BR{ws:List Nat}(hl:∀x∈ws,x<2^64)(j:Nat):ws.getD j 0<2^64:=by grind[List.getElem?_eq_getElem,List.getElem_mem,List.getElem?_eq_none]
theorem QT:nz 64:=by simp[nz]
theorem BS{k:Nat}(h:k<9223372036854775807):aA (k:Int):=ξ
theorem Oi(h:St w (own 1 a ws.length c (cw ws)::L))(hlt:∀x∈ws,x<2^64){k:Nat}(hk:k/64<ws.length)(hb:k<4096):
  ρ 199 [vS a ws.length c,iI (k:Int)] w λv w'=>v=vB (mem ws k)/\w'=w:=by
 refine pn ?_;obtain⟨J,rfl⟩:=eQ h (by grind[cw]);have u:=qK h rfl (LW hk)
 refine⟨QT,?_,?_⟩
 ·grind[Ai,BS]
 ·rw[Ai,QS]
  refine ax rfl hk ⟨_,u,QT,?_,?_,rfl⟩
  ·show(0:Int)<=_;omega
  ·rw[Od (BR hlt _) (Nat.mod_lt _ ω)];rfl
theorem mem_set{ws:List Nat}{k r:Nat}(hk:k/64<ws.length)(j:Nat):mem (ws.set (k/64) r) j=if j/64=k/64 then r.testBit (j%64) else mem ws j:=by
 unfold mem
 grind
theorem adk{ws:List Nat}{i r:Nat}:(cw ws).set i (.int .u64 (r:Int))=cw (ws.set i r):=by simp[cw]
theorem Oj(h:St w (own 1 a ws.length c (cw ws)::L))(hlt:∀x∈ws,x<2^64){k:Nat}(hk:k/64<ws.length)(hb:k<4096):
  ρ 200 [vS a ws.length c,iI (k:Int)] w λv w'=>v=.tuple #[]/\∃ws',ws'.length=ws.length/\(∀x∈ws',x<2^64)/\(∀j,mem ws' j=(mem ws j||j==k))/\St w' (own 1 a ws.length c (cw ws')::L):=by
 refine An ?_;intro w1 V;have X:=h.drawn V;obtain⟨Y,rfl⟩:=eQ h (by grind[cw]);have W:=λJ(e:hp J=hp w)=>qK (h.eq e) rfl (LW hk)
 refine⟨λJ=>hp J=hp w,m_ V,QT,?_,?_⟩
 ·grind[Ai,BS]
 ·rw[Ai,QS]
  refine ax rfl hk ⟨_,W,QT,?_,ax rfl hk ?_⟩
  ·show(0:Int)<=_;omega
  ·have u:k%64<64:=Nat.mod_lt _ ω;rw[WN u,aap (BR hlt _) (Nat.pow_lt_pow_right ω u)];refine fX X rfl (by simp_all[cw]) λZ O=>?_;rw[adk] at O
   refine⟨rfl,_,σ,λx U=>?_,λj=>?_,O⟩
   ·rcases List.mem_or_eq_of_mem_set U with U|rfl
    ·simp_all
    ·exact Nat.or_lt_two_pow (BR hlt _) (Nat.pow_lt_pow_right ω u)
   grind[mem_set,mem]
theorem adl(h:St w (BQ p n m::L)):ρ 171 [.pointer p] w λv w'=>v=iI (n:Int)/\w'=w:=by
 refine qI ?_
 rcases mz h with⟨rfl,rfl,rfl,_⟩|⟨b,a,c,ws,rfl,hi,h⟩
 ·exact⟨rfl,rfl⟩
 ·refine⟨(n:Int),?_,rfl,rfl⟩;rw[ak,h.cell];rfl
theorem WS(hi:Inv n ws m){k:Nat}(hk:k<n):k/64<ws.length:=by rw[hi.len];omega
end
def vn(h:Hp)(a:Addr):Option Value:=
 match h a.block with
 |some (.cells c _ _)=>if a.spot.isSome then none else c[a.off]?
 |_=>none
theorem sU{h h':Hp}(s:sub h h'){a:Addr}{v:Value}(hc:vn h a=some v):vn h' a=some v:=by
 unfold vn at*
 split at hc
 ·rename_i c _ _ he;rw[s _ _ he];omega
 simp_all
theorem jI{w:aiA}{a:Addr}{v:Value}(hc:vn (hp w) a=some v):w.cell? a=some v:=by
 unfold vn at hc
 split at hc
 ·rename_i c _ _ he;unfold World.cell?;rw[sD he];omega
 simp_all
def eE(a:aiz)(vs:List Value):aE:=λh=>vs=[]\/∃ad,a=some ad/\∀j v,vs[j]? =some v->vn h (ad.add j)=some v
section
variable{w w':aiA}{L:List aE}{a:aiz}{vs:List Value}
theorem Gv(h:St w (eE a vs::L)){j:Nat}{v:Value}(hj:vs[j]? =some v):∃ad,a=some ad/\w.cell? (ad.add j)=some v:=by
 obtain⟨J,u,d,s1,s2,ha,hl⟩:=h
 rcases ha with rfl|⟨ad,e,hc⟩
 ·simp_all
 grind[jI,sU]
theorem bH{sz l c:Nat}{h:Hp}(ha:own sz a l c vs h):eE a vs h:=by
 rcases ha with⟨_,_,_,rfl⟩|⟨b,J,cs,u,rfl,⟨e,U⟩,_⟩
 ·exact .inl rfl
 ·refine .inr ⟨_,rfl,λj v O=>?_⟩;rw[add_lit];unfold vn;grind
end
def iv(xs:List Int):List Value:=xs.map λx=>iI x
theorem LX{xs:List Int}{j:Nat}{x:Int}(h:xs[j]? =some x):(iv xs)[j]? =some (iI x):=by grind[iv]
theorem bR{l j:Nat}(h:j<l):l-((j:Int)+1).toNat<l-(j:Int).toNat:=ω
def dp(n:Nat)(m:Nat->Bool):Nat:=((List.range n).filter m).length
theorem DQ(n:Nat)(m:Nat->Bool):dp n m<=n:=by grind[dp,Nat.le_trans,List.length_filter_le]
theorem wT(n:Nat)(m:Nat->Bool):dp (n+1) m=dp n m+(if m n then 1 else 0):=by grind[dp,List.range_succ,List.length_append]
theorem KI{n:Nat}{m m':Nat->Bool}(h:∀k,k<n->m k=m' k):dp n m=dp n m':=by grind[dp,List.filter_congr]
theorem SL{n:Nat}{m:Nat->Bool}{k:Nat}(hk:k<n)(hm:m k=false):dp n (λj=>m j||j==k)=dp n m+1:=by
  induction n with
  |zero=>omega
  |succ n ih=>
    rw[wT,wT]
    by_cases h:k=n
    · subst h
      rw [KI (m' := m) λj hj => by have:(j==k)=false:=by grind
                                   simp_all]
      grind
    grind
def gf(n:Nat)(m:Nat->Bool)(xs:List Int):Nat->Bool:=λk=>m k||(decide (k<n)&&xs.contains (k:Int))
theorem b_{xs:List Int}{j:Nat}{x:Int}(h:xs[j]? =some x):xs.take (j+1)=xs.take j++[x]:=by simp_all[agR]
theorem ri(l:List Int)(x y:Int):(l++[x]).contains y=(l.contains y||y==x):=by grind
theorem UI{n:Nat}{m:Nat->Bool}{xs:List Int}{j:Nat}{x:Nat}(h:xs[j]? =some (x:Int))(hx:x<n):gf n m (xs.take (j+1))=λk=>gf n m (xs.take j) k||k==x:=by
 funext k
 simp only[gf,b_ h,ri]
 grind
theorem KJ{n:Nat}{m:Nat->Bool}{xs:List Int}{j:Nat}{x:Int}(h:xs[j]? =some x)(hx:∀k:Nat,k<n->(k:Int)=x->gf n m (xs.take j) k=true):gf n m (xs.take (j+1))=gf n m (xs.take j):=by
 funext k
 have u:=hx k;simp only[gf,b_ h,ri] at u ⊢
 grind
theorem Ol(n:Nat)(m:Nat->Bool):gf n m []=m:=by grind[gf]
section
variable{w:aiA}{L:List aE}{a:aiz}{l c:Nat}{p:aiz}{n:Nat}{m:Nat->Bool}{xs:List Int}
theorem acJ{D:aE}(hD:∀h,D h->eE a (iv xs) h)(h:St w (BQ p n m::D::L))(hl:xs.length=l)(hb:l<=4611686018427387904):
  ρ 103 [.pointer p,vS a l c] w λv w'=>v=iI ((dp n (gf n m xs):Int)-dp n m)/\St w' (BQ p n (gf n m xs)::D::L):=by
 refine DG ?_
 refine⟨λn1 n2 w=>∃j:Nat,n2=j/\j<=l/\n1=(dp n (gf n m (xs.take j)):Int)-dp n m/\St w (BQ p n (gf n m (xs.take j))::D::L),
  λ_ n2 _=>l-n2.toNat,⟨0,rfl,ω,by simp[Ol],by simp_all[Ol]⟩,?_⟩
 rintro _ n1 n2 w1⟨j,rfl,hj,a6,O⟩
 refine ae (λh0=>?_) λh0=>?_
 ·have h0:j<l:=by simp_all
  obtain⟨x,hx⟩:∃x,xs[j]? =some x:=⟨xs[j],σ⟩;obtain⟨ad,rfl,hc⟩:=Gv (O.swap.head hD) (LX hx);have a7:=DQ n (gf n m (xs.take j));have a5:=DQ n m;have hn:=aas O;have mI:aA ((j:Int)+1):=ξ;refine ax rfl h0 ⟨x,hc,?_⟩
  have skip:(∀k:Nat,k<n->(k:Int)=x->gf n m (xs.take j) k=true)->∀w2,St w2 (BQ p n (gf n m (xs.take j))::D::L)->aA ((j:Int)+1)/\
    (∃Y:Nat,(j:Int)+1=Y/\Y<=l/\n1=(dp n (gf n m (xs.take Y)):Int)-dp n m/\St w2 (BQ p n (gf n m (xs.take Y))::D::L))/\l-((j:Int)+1).toNat<l-(j:Int).toNat:=by
   intro a9 w2 u
   refine⟨mI,⟨j+1,σ,ω,?_,?_⟩,bR h0⟩
   ·simp_all[KJ]
   simp_all[KJ]
  refine ae (λZ=>?_) λZ=>?_
  ·have Z:=agQ Z;obtain⟨x,rfl⟩:=Int.eq_ofNat_of_zero_le Z;refine(adl O).mono ?_;rintro _ _⟨rfl,rfl⟩
   refine⟨_,rfl,ae (λW=>?_) λW=>?_⟩
   ·have W:x<n:=by simp_all
    rcases mz O with⟨rfl,rfl,_⟩|⟨b,ab,cb,ws,rfl,hi,u⟩
    ·omega
    have hw:=WS hi W;have V:x<4096:=ω
    refine⟨ab,ws.length,cb,by rw[u.cell];rfl,?_⟩;refine(Oi u.swap hi.lt hw V).mono ?_;rintro _ _⟨rfl,rfl⟩
    refine⟨_,rfl,ae (λh3=>?_) λh3=>?_⟩
    ·refine⟨ab,ws.length,cb,by rw[u.cell];rfl,?_⟩;refine(Oj u.swap hi.lt hw V).mono ?_;rintro _ w3⟨rfl,a8,e1,e2,e3,U⟩;have J:gf n m (xs.take j) x=false:=by rw[hi.mm];simp_all
     have a4:=SL W J;have a0:=UI (m:=m) hx W
     refine⟨rfl,ξ,mI,⟨j+1,σ,ω,?_,?_⟩,bR h0⟩
     ·grind
     ·rw[a0];rw[<-e1] at U
      refine SK ⟨e1▸hi.len,hi.le,e2,λk=>?_,λk X=>?_⟩ (by rw[e1] at U ⊢;exact U.swap)
      ·rw[e3,hi.mm]
      ·rw[hi.out k X];grind
    ·refine skip (λk X he=>?_) _ O;have:k=x:=ω
     subst this;rw[hi.mm];simp_all
   ·refine skip (λk X he=>?_) _ O
    grind
  ·refine skip (λk X he=>?_) _ O
   grind
 grind
end
theorem LY(n:Nat):IntKind.u64.wrap (n:Int)=((n%18446744073709551616:Nat):Int):=by rfl
theorem LZ{x:Nat}(h0:x≠0)(hx:x<2^64):IntKind.u64.wrap (0-(x:Int))=((18446744073709551616-x:Nat):Int):=by grind[IntKind.wrap,IntKind.signed,IntKind.bits]
theorem WT{T:List Nat}{i k:Nat}{f:Nat->Value}(h:T.getD i 0=k)(hi:i<T.length):(T.map f)[i]? =some (f k):=by simp_all
theorem adm{x a:Nat}(h0:x≠0)(hx:x<2^64)(ha:x&&& (18446744073709551616-x)=a):
  aZ .u64 (IntKind.u64.wrap (ph .and .u64 (x:Int) (IntKind.u64.wrap (0-(x:Int)))*285870213051353865)) 58=((a*285870213051353865%18446744073709551616/2^58:Nat):Int):=by
 have O:=Hl (a:=x) (b:=18446744073709551616-x) hx ω;rw[LZ h0 hx,O,ha];have u:=LY (a*285870213051353865);rw[Int.natCast_mul] at u;have J:((285870213051353865:Nat):Int)=285870213051353865:=rfl;rw[J] at u;rw[u];exact Hm (s:=58) ω
theorem BT{x:Nat}(hx:x<2^64)(w:aiA){L:List aE}(h:St w (eE (some ⟨0,0,none⟩) (Lib.deBruijn64tab.map λ(k:Nat)=>Value.int .u8 (k:Int))::L)):ρ 265 [.int .u64 (x:Int)] w λv w'=>v=iI ((Lib.ctz 64 x:Nat):Int)/\w'=w:=by
 refine mW ?_
 refine ae (λh0=>?_) λh0=>?_
 ·have:x=0:=by simp_all
  subst this;exact⟨rfl,rfl⟩
 ·have h0:x≠0:=by simp_all
  obtain⟨J,U⟩:=Lib.lowest_bit 64 x h0 hx;obtain⟨hi,u⟩:=Lib.deBruijn64_at _ U;rw[adm h0 hx J];generalize Lib.ctz 64 x=k at U hi u ⊢;have O:(2:Nat)^58=288230376151711744:=by rfl
  rw[O];generalize 2^k*285870213051353865%18446744073709551616/288230376151711744=i at hi u ⊢;refine⟨show(0:Int)<=58 by simp,ax rfl hi ⟨(k:Int),?_,ξ,rfl,rfl⟩⟩;have V:=WT (f:=λ(k:Nat)=>Value.int .u8 (k:Int)) u hi
  grind[Gv]
theorem KK(a b:Nat)(m:Nat->Bool):dp (a+b) m=dp a m+dp b (λk=>m (a+k)):=by
 unfold dp;rw[List.range_add,aho,agV,List.filter_map,ag5];rfl
theorem Om{a:Nat}{m:Nat->Bool}(h:∀k,k<a->m k=false):dp a m=0:=by simp_all[dp]
theorem aat{n:Nat}{ws:List Nat}{m:Nat->Bool}(hi:Inv n ws m):dp (64*ws.length) m=dp n m:=by
 have h:64*ws.length=n+(64*ws.length-n):=by rw[hi.len];omega
 rw[h,KK,Om (a:=64*ws.length-n) λk _=>hi.out _ ω];omega
def KL(s:Int):Nat:=(if 1024<if s<0 then 0 else s then 1024 else if s<0 then 0 else s).toNat
theorem adn(s:Int):(if 1024<if s<0 then 0 else s then(1024:Int) else if s<0 then 0 else s)=(KL s:Int):=by grind[KL]
theorem ado(s:Int):KL s<=1024:=by grind[KL]
theorem aau{n:Nat}(h:n<=1024):KL (n:Int)=n:=by
 unfold KL;omega
theorem cZ(v:Value):∀n,gD n [v]=List.replicate n v
 |0=>rfl
 |n+1=>by simp[gD,cZ v n,ah1]
theorem aav(n:Nat):cw (List.replicate n 0)=List.replicate n (.int .u64 0):=by simp[cw]
theorem WU(n k:Nat):mem (List.replicate n 0) k=false:=by grind[mem]
theorem inv_zero{n:Nat}(h:n<=1024):Inv n (List.replicate ((n+63)/64) 0) (λ_=>false):=
 ⟨σ,h,λx u=>by simp_all,λk=>(WU _ k).symm,λ_ _=>rfl⟩
section
variable{w:aiA}{L:List aE}{a:aiz}{l c:Nat}{p:aiz}{n:Nat}{m:Nat->Bool}{xs:List Int}
theorem agq(size:Int){D:aE}(hD:∀h,D h->eE a (iv xs) h)(h:St w (D::L))(hl:xs.length=l)(hb:l<=4611686018427387904):
  ρ 102 [iI size,vS a l c] w λv w'=>∃b,v=.pointer (some ⟨b,0,none⟩)/\St w' (BQ (some ⟨b,0,none⟩) (KL size) (gf (KL size) (λ_=>false) xs)::D::L):=by
 refine Oh _ _ _ _ w _ ?_;unfold Hn;rw[adn];have J:=ado size;generalize KL size=N at*;have X:((N:Int)+63)=((N+63:Nat):Int):=by rfl
 rw[X,Ai,agZ];refine⟨BS ω,QT,BS ω,⟨ω,rfl,ω⟩,?_⟩;rw[cZ];refine ag h λU w1 V=>ag V λW Y Z=>?_
 have O:St Y (BQ (some ⟨W,0,none⟩) N (λ_=>false)::D::L):=by
  refine SK (a:=some ⟨U,0,none⟩) (c:=(N+63)/64) (inv_zero J) ?_;have u:(List.replicate ((N+63)/64) 0:List Nat).length=(N+63)/64:=σ
  rw[u]
  refine St.swap (bg (cs:=[]) ?_ ?_ ?_ (agT _))
  ·rw[ahe,aav];exact Z.swap
  ·simp[cw]
  simp[cw]
 refine(acJ hD O hl hb).mono ?_
 simp_all
end
def WV(b:Nat)(n:Nat)(m:Nat->Bool):aE:=ex λx:aiz×Nat×List Nat=>aV [pu (Inv n x.2.2 m),az b [vS x.1 x.2.2.length x.2.1],own 1 x.1 x.2.2.length x.2.1 (cw x.2.2)]
theorem BU{w:aiA}{L:List aE}{b n:Nat}{m:Nat->Bool}:St w (WV b n m::L)↔∃a c ws,Inv n ws m/\St w (az b [vS a ws.length c]::own 1 a ws.length c (cw ws)::L):=by simp[WV,St.ex,St.pu,St.flat]
theorem adp{ws:List Nat}(h:cw ws=[]):ws=[]:=by simp_all[cw]
section
variable{w:aiA}{L:List aE}{a:aiz}{l c:Nat}{p:aiz}{n:Nat}{m:Nat->Bool}{xs:List Int}{ws:List Nat}
theorem aaw{D:aE}(hD:∀h,D h->eE a (cw ws) h)(h:St w (D::L))(hb:ws.length<=1024)(hn:a=none->ws=[]):
  ρ 263 [vS a ws.length c] w λv w'=>∃a' c',v=vS a' ws.length c'/\St w' (own 1 a' ws.length c' (cw ws)::D::L):=by
 refine jo ?_;cases a with
 |none=>
  have V:=hn rfl;subst V;exact⟨none,0,rfl,aI 1 h⟩
 |some ad=>
  refine ag h λb X W=>?_;have O:St X (own 1 (some ⟨b,0,none⟩) 0 0 []::D::L):=bg (cs:=[]) W rfl rfl (agT _)
  refine(ji aT (rfl:ai Ty _=.slice _) rfl rfl rfl O (n:=ws.length) (news:=cw ws) ?_ ?_ ω).mono ?_
  ·exact gA aT (rfl:ai Ty _=.slice _) (by simp[cw]) (.inr ⟨ad,rfl,λj u U=>by
    obtain⟨_,e,hc⟩:=Gv (O.swap.head hD) U
    simp_all⟩) (λu J=>by
    simp only[cw,agY] at J;obtain⟨_,_,rfl⟩:=J;rfl)
  ·grind
  grind
end
def dx(n:Nat)(m:Nat->Bool):List Nat:=(List.range n).filter m
theorem mA(n:Nat)(m:Nat->Bool):(dx n m).length=dp n m:=rfl
theorem WW{n k:Nat}{m:Nat->Bool}(hk:k<n)(hm:m k=true):(dx n m)[dp k m]? =some k:=by
 have e:n=k+(n-k-1+1):=ω
 unfold dx;rw[e,List.range_add,aho,ahg (by simp[dp])];have:dp k m-(List.filter m (List.range k)).length=0:=by simp[dp]
 grind[List.range_succ_eq_map]
theorem WX{x:Nat}(h0:x≠0)(hx:x<2^64):Lib.ctz 64 x<64/\x.testBit (Lib.ctz 64 x)=true/\(∀k,k<Lib.ctz 64 x->x.testBit k=false)/\∀k,(x&&& (x-1)).testBit k=(x.testBit k&& !(k==Lib.ctz 64 x)):=by
 have e:Lib.ctz 64 x=Lib.ctzFrom 64 x:=by simp_all[Lib.ctz]
 obtain⟨q,V,hc⟩:=Lib.ctzFrom_spec 64 x ω hx;rw[e];generalize Lib.ctzFrom 64 x=c at*;have hp:0<2^c:=Nat.two_pow_pos c;have u:x-1=2^c*(2*q)+(2^c-1):=by grind
 have t1:∀k,x.testBit k=if k<c then false else(2*q+1).testBit (k-c):=λk=>by grind
 have t2:∀k,(x-1).testBit k=if k<c then true else(2*q).testBit (k-c):=λk=>by
  rw[u,Nat.testBit_two_pow_mul_add _ ω];simp
 refine⟨hc,?_,λk J=>?_,λk=>?_⟩
 ·simp_all
 ·simp_all
 ·rw[Nat.testBit_and,t2,t1]
  by_cases J:k<c
  ·grind
  ·rw[agW J,agW J]
   by_cases O:k=c
   ·simp_all
   ·have U:k-c=(k-c-1)+1:=ω
    grind
def sC(l:List Nat):List (List Value):=l.map λ(k:Nat)=>[iI (k:Int)]
theorem z6{a b:Nat}{m:Nat->Bool}(h:a<=b)(hf:∀k,a<=k->k<b->m k=false):dp b m=dp a m:=by
 have e:b=a+(b-a):=ω
 grind[KK,Om]
def aax:List Value:=Lib.deBruijn64tab.map λ(k:Nat)=>Value.int .u8 (k:Int)
def dP:aE:=eE (some ⟨0,0,none⟩) aax
theorem adq{A:aE}{w:aiA}(h:A (hp w)):St w [A]:=⟨hp w,λ_=>none,λ_=>.inr rfl,sZZ,λ_ _ h=>(nomatch h),h,trivial⟩
section
variable{w:aiA}{L:List aE}{b:Nat}{n:Nat}{m:Nat->Bool}
theorem o_:Z5 Tryz.prog qJ [] [.pointer (some ⟨b,0,none⟩)] (WV b n m) dP (sC (dx n m)):=by
 intro l E hE J Jx L w0 h0 hQ hy
 have b2:∃a c ws,Inv n ws m/\St w0 (J 0::az b [vS a ws.length c]::own 1 a ws.length c (cw ws)::L):=by
  obtain⟨a,c,ws,hi,V⟩:=BU.1 h0.swap;exact⟨a,c,ws,hi,V.NJ⟩
 obtain⟨a,c,ws,hi,b1⟩:=b2
 have back:∀(A:aE) w',St w' (A::az b [vS a ws.length c]::own 1 a ws.length c (cw ws)::L)->St w' (A::WV b n m::L):=by
  intro A w' h;exact(BU.2 ⟨a,c,ws,hi,h.perm ((List.Perm.swap _ _ _).trans (List.Perm.cons _ (List.Perm.swap _ _ _)))⟩).swap
 have Y:∀{A B C:aE}{w'},St w' (A::B::C::L)->St w' [dP]:=λ{A B C w'} h=>adq (hQ _ (aj (aj (aj h))));refine vx E l ⟨b,0,none⟩ hE w0 _ ?_;refine⟨a,ws.length,c,by rw[b1.swap.cell];rfl,?_⟩
 refine⟨λn1 w=>∃j:Nat,n1=j/\j<=ws.length/\St w (J (dp (64*j) m)::az b [vS a ws.length c]::own 1 a ws.length c (cw ws)::L),λn1 _=>ws.length-n1.toNat,
  ⟨0,rfl,ω,by simp_all[dp]⟩,?_⟩
 rintro _ n1 w1⟨j,rfl,hj,hs⟩;have b5:=hi.len;have hn:=hi.le
 refine ae (λh1=>?_) λh1=>?_
 ·have h1:j<ws.length:=by grind
  obtain⟨ad,rfl⟩:=eQ hs.NJ (by grind[cw]);have hg:=qK hs.NJ rfl (LW h1);refine ax rfl h1 ⟨_,hg,?_⟩;have U:=BR hi.lt j
  have u:∀k,k<64->m (64*j+k)=(ws.getD j 0).testBit k:=λk hk=>by
   rw[hi.mm];grind[mem]
  generalize ws.getD j 0=W at hg U u ⊢
  refine⟨λn3 w=>∃(r s:Nat),n3=r/\r<2^64/\s<=64/\(∀k,r.testBit k=(decide (s<=k)&&W.testBit k))/\St w (J (dp (64*j+s) m)::az b [vS (some ad) ws.length c]::own 1 (some ad) ws.length c (cw ws)::L),λn3 _=>n3.toNat,
   ⟨W,0,rfl,U,ω,σ,ω⟩,?_⟩
  rintro _ n3 w2⟨r,s,rfl,hr,b6,O,a0⟩
  refine ae (λV=>?_) λV=>?_
  ·have V:r≠0:=by simp_all
   obtain⟨k1,k2,k3,k4⟩:=WX V hr;have a4:aA (64*(j:Int)):=ξ;refine⟨a4,?_⟩;refine((BT hr w2 (Y a0)).toE hE).mono ?_;rintro _ _⟨rfl,rfl⟩;generalize Lib.ctz 64 r=k at k1 k2 k3 k4 ⊢;refine⟨_,rfl,ξ,?_⟩;have ba:s<=k/\W.testBit k=true:=by simp_all
   have a5:m (64*j+k)=true:=by simp_all
   have b4:64*j+k<n:=Nat.lt_of_not_le λav=>by rw[hi.out _ av] at a5;grind
   have Z:dp (64*j+k) m=dp (64*j+s) m:=z6 ω λq a9 am=>by
    have h3:=k3 (q-64*j) ω;rw[O] at h3;have:s<=q-64*j:=ω
    have h4:=u (q-64*j) ω;rw[show 64*j+(q-64*j)=q by omega] at h4
    simp_all
   have b3:(sC (dx n m))[dp (64*j+s) m]? =some [iI ((64*j+k:Nat):Int)]:=by
    unfold sC;rw[agS,<-Z,WW b4 a5];rfl
   have a8:(64*(j:Int)+(k:Int))=((64*j+k:Nat):Int):=by rfl
   rw[a8];obtain⟨f',X,aa,a7,y1,y2⟩:=hy _ _ b3 _ _ (λh hh=>aj (aj hh)) a0;refine⟨f',X,aa,a7,y1,RoundIn.mono y2 ?_⟩;rintro e w4⟨v,rfl,al,hv⟩;refine⟨v,rfl,al,?_⟩;have b7:dp (64*j+(k+1)) m=dp (64*j+s) m+1:=by grind[wT]
   rcases hv with⟨rfl,a6⟩|⟨rfl,a6⟩
   ·refine⟨true,rfl,?_⟩
    have e1:IntKind.u64.wrap ((r:Int)-1)=((r-1:Nat):Int):=by
     have:=wrap_u64 (r-1) ω
     grind
    have e2:=Hl (a:=r) (b:=r-1) hr ω
    show(∃r' s':Nat,_/\_)/\_
    rw[e1,e2]
    refine⟨⟨r&&& (r-1),k+1,rfl,Nat.and_lt_two_pow _ ω,ω,λq=>?_,?_⟩,?_⟩
    ·grind
    ·grind
    grind[Nat.and_le_right,Int.toNat_natCast]
   ·refine⟨false,rfl,?_⟩;exact .inr (back _ _ a6)
  ·have V:r=0:=by simp_all
   subst V;refine⟨ξ,⟨j+1,σ,ω,?_⟩,bR h1⟩
   have:dp (64*(j+1)) m=dp (64*j+s) m:=z6 ω λq a9 am=>by
    have h3:=O (q-64*j);have h4:=u (q-64*j) ω;rw[show 64*j+(q-64*j)=q by omega] at h4
    grind
   simp_all
 grind[of_decide_eq_false,aat,mA,sC,dx]
end
def dS(l:List Nat):List Value:=l.map λ(k:Nat)=>iI (k:Int)
theorem WY{ks:List Nat}{i k:Nat}(h:ks[i]? =some k):dS (ks.take (i+1))=dS (ks.take i)++[iI (k:Int)]:=by simp_all[dS,agR]
section
variable{w:aiA}{L:List aE}{a:aiz}{l c:Nat}{p:aiz}{n:Nat}{m:Nat->Bool}{xs:List Int}{ws:List Nat}
theorem On{g:FuncId}{cap:List Value}{D Q:aE}{ks:List Nat}{vs:List Value}(hg:Fn g=true)(hI:Z5 Tryz.prog g [] cap D Q (sC ks))(hQ:∀h,aF L h->Q h)(hb:l+ks.length<=1099511627776)
  (h:St w (own 1 a l c vs::D::L)):
  ρ 269 [vS a l c,.func (.func g) #[] ⟨cap⟩] w λv w'=>∃a' c',v=vS a' (l+ks.length) c'/\St w' (own 1 a' (l+ks.length) c' (vs++dS ks)::D::L):=by
 refine mY ?_;refine ag h λb w1 h1=>a_.2 ⟨hg,?_⟩
 refine⟨sC ks,D,Q,λi=>ex λy:aiz×Nat=>aV [az b [vS y.1 (l+i) y.2],own 1 y.1 (l+i) y.2 (vs++dS (ks.take i))],pu False,λ_=>pu False,L,?_,hQ,hI,?_,?_,?_,?_,trivial⟩
 ·refine St.ex.2 ⟨(a,c),St.flat.2 ?_⟩
  simp_all[dS]
 ·intro x U;simp only[sC,agY] at U
  grind
 ·intro i x U L' w2 _ O;refine⟨_,O,λV w3 _ J=>?_⟩;obtain⟨⟨a1,c1⟩,J⟩:=St.ex.1 J;have J:=St.flat.1 J;have U:(sC ks)[i]? =some [iI x]:=U
  obtain⟨k,X,rfl⟩:∃k,ks[i]? =some k/\x=(k:Int):=by
   unfold sC at U
   grind
  have a0:=(agN.1 X).1;refine⟨a1,l+i,c1,by rw[J.cell];rfl,?_⟩;refine ag J λb2 w4 W=>?_
  refine(ji aT (rfl:ai Ty _=.slice _) rfl rfl rfl W.NJ (n:=1) (news:=[iI (k:Int)]) ?_ ?_ ω).mono ?_
  ·refine gA aT (rfl:ai Ty _=.slice _) rfl (.inr ⟨_,rfl,λj u hj=>?_⟩) (λu Y=>?_)
   ·rw[ak,W.cell];omega
   ·simp only[ag_] at Y;subst Y;rfl
  ·grind
  ·rintro _ w5⟨a',c',rfl,h5⟩;refine⟨_,_,_,rfl,aR h5.NJ σ λw6 h6=>St.ex.2 ⟨(a',c'),St.flat.2 ?_⟩⟩;rw[WY X,<-ag3];have h7:St w6 (az b [vS a' (l+i+1) c']::own 1 a' (l+i+1) c' (vs++dS (ks.take i)++[iI (k:Int)])::az b2 [iI (k:Int)]::V):=h6;exact h7.perm (List.Perm.refl _)|>.NJ.tail
 ·intro w2 O;obtain⟨⟨a1,c1⟩,O⟩:=St.ex.1 O;have O:=St.flat.1 O;have e:(sC ks).length=ks.length:=by simp[sC]
  rw[e,ag9] at O;refine⟨a1,_,c1,by rw[O.cell];rfl,λw3 Z=>⟨a1,c1,rfl,(O.eq Z).tail⟩⟩
 simp[St.pu]
theorem UJ{g:FuncId}{cap:List Value}{D Q:aE}{ks:List Nat}(hg:Fn g=true)(hI:Z5 Tryz.prog g [] cap D Q (sC ks))(hQ:∀h,aF L h->Q h)(hb:ks.length<=1099511627776)(h:St w (D::L)):
  ρ 181 [.func (.func g) #[] ⟨cap⟩] w λv w'=>∃a' c',v=vS a' ks.length c'/\St w' (own 1 a' ks.length c' (dS ks)::D::L):=by
 refine sO ?_;refine(On hg hI hQ (l:=0) ω (aI 1 h)).mono ?_
 grind
end
theorem afs{a b:Nat}(h:((a:Int)==b)=true):a=b:=by grind
theorem adr{a b:Nat}(h:((a:Int)==b)=false):a≠b:=by grind
theorem qL{ks:List Nat}{j k:Nat}(h:ks[j]? =some k):(dS ks)[j]? =some (iI (k:Int)):=by grind[dS]
theorem WZ(ks:List Nat):dS ks=iv (ks.map λ(k:Nat)=>(k:Int)):=by simp[dS,iv]
def tlA:List aE->List aE
 |[]=>[]
 |_::L=>L
def SM:Nat->List aE->List aE
 |0,L=>L
 |n+1,L=>SM n (tlA L)
abbrev acK(L:List aE)(n:Nat):List aE:=SM n L
theorem KM:∀n,SM n []=[]
 |0=>rfl
 |n+1=>KM n
def aay(i:Nat):List Nat->Bool
 |[]=>false
 |j::l=>Nat.beq i j||aay i l
theorem SN(i:Nat):∀l,aay i l=l.contains i
 |[]=>rfl
 |j::l=>by
  rw[aay,SN i l,List.contains_cons];congr 1;rw[ahN];simp
def W0(L:List aE):List Nat->List aE->List aE
 |[],T=>T
 |i::is,T=>vv L i::W0 L is T
def okP(n:Nat):List Nat->Bool
 |[]=>true
 |i::is=>Nat.blt i n&& !aay i is&&okP n is
theorem Fb:∀(n:Nat)(L:List aE)(h:Hp),aF L h->
  ∃(f:Nat->Hp)(g:Hp),(∀i j,i≠j->i<n->j<n->LF (f i) (f j))/\(∀i,i<n->LF (f i) g)/\(∀i,i<n->sub (f i) h)/\sub g h/\(∀i,i<n->vv L i (f i))/\aF (acK L n) g
 |0,L,h,hs=>⟨λ_=>h,h,λ_ _ _ hi=>absurd hi ω,λ_ hi=>absurd hi ω,λ_ hi=>absurd hi ω,sZZ,λ_ hi=>absurd hi ω,hs⟩
 |n+1,[],h,hs=>⟨λ_ _=>none,h,λ_ _ _ _ _ _=>.inl rfl,λ_ _ _=>.inl rfl,λ_ _ _ _ h=>(nomatch h),sZZ,λ_ _=>trivial,by simp[aF,KM]⟩
 |n+1,A::L,h,⟨h1,h2,d,s1,s2,ha,hl⟩=>by
  obtain⟨f,g,f1,f2,f3,f4,f5,f6⟩:=Fb n L h2 hl
  refine⟨λi=>match i with|0=>h1|i+1=>f i,g,λi j hne hi hj=>?_,λi hi=>?_,λi hi=>?_,f4.trans s2,λi hi=>?_,f6⟩
  ·cases i with
   |zero=>cases j with
    |zero=>omega
    |succ j=>exact d.sub sZZ (f3 j ω)
   |succ i=>cases j with
    |zero=>exact(d.sub sZZ (f3 i ω)).symm
    |succ j=>simp_all
  ·cases i with
   |zero=>exact d.sub sZZ f4
   |succ i=>simp_all
  ·cases i with
   |zero=>omega
   |succ i=>exact(f3 i ω).trans s2
  ·cases i with
   |zero=>exact ha
   |succ i=>exact f5 i ω
theorem Hu{L T:List aE}{n:Nat}{f:Nat->Hp}{g h:Hp}(f1:∀i j,i≠j->i<n->j<n->LF (f i) (f j))(f2:∀i,i<n->LF (f i) g)(f3:∀i,i<n->sub (f i) h)(f4:sub g h)
  (f5:∀i,i<n->vv L i (f i)) (f6:aF T g):∀is:List Nat,okP n is=true->∃u,sub u h/\aF (W0 L is T) u/\∀i,i<n->i∉is->LF (f i) u
 |[],_=>⟨g,f4,f6,λi hi _=>f2 i hi⟩
 |i::is,hok=>by
  simp only[okP,SN,ag1,aid,Nat.blt_eq] at hok
  obtain⟨⟨hi,hni⟩,hok⟩:=hok
  have hni:i∉is:=by simp_all
  obtain⟨u,u1,u2,u3⟩:=Hu f1 f2 f3 f4 f5 f6 is hok
  have d:=u3 i hi hni
  refine⟨V2 (f i) u,Gp (f3 i hi) u1,⟨f i,u,d,yu _ _,yv d,f5 i hi,u2⟩,λj hj hjn=>?_⟩
  simp only[ag6,not_or] at hjn
  exact(Gq (f1 i j (λe=>hjn.1 e.symm) hi hj) (u3 j hj hjn.2).symm).symm
theorem St.pick{w:aiA}{L:List aE}(h:St w L)(n:Nat)(is:List Nat)(hok:okP n is=true:=by rfl):St w (W0 L is (acK L n)):=by
 obtain⟨f,g,f1,V,W,Y,J,O⟩:=Fb n L _ h;obtain⟨u,X,U,_⟩:=Hu f1 V W Y J O is hok;exact mi U X
example {w:aiA} {A B C:aE} {L:List aE} (h:St w (A::B::C::L)):St w (C::A::L):=h.pick 3 [2,0]
def Gr(w w':aiA):Prop:=sub (hp w) (hp w')
theorem Gr.refl(w:aiA):Gr w w:=sZZ
theorem Gr.trans{a b c:aiA}(h:Gr a b)(k:Gr b c):Gr a c:=sub.trans h k
theorem Gr.of_eq{w w':aiA}(h:hp w'=hp w):Gr w w':=by simp_all[Gr,sub.refl]
theorem St.gr{w w':aiA}{L:List aE}(h:St w L)(g:Gr w w'):St w' L:=mi h g
abbrev all(w:aiA):List aE:=[has (hp w)]
theorem bF{h0 h:Hp}(s:sub h0 h):aF [has h0] h:=⟨h0,λ_=>none,λ_=>.inr rfl,s,λ_ _ h=>(nomatch h),sZZ,trivial⟩
theorem St.here{w:aiA}{h0:Hp}(s:sub h0 (hp w)):St w [Proofs.YtaoaemnefghnbaaGreatDoor.has h0]:=bF s
theorem St.all(w:aiA):St w (Proofs.YtaoaemnefghnbaaGreatDoor.all w):=bF sZZ
theorem Fc{L M N:List aE}(hm:∀h,aF M h->aF N h):∀{h:Hp},aF (L++M) h->aF (L++N) h:=by
 induction L with
 |nil=>simp_all
 |cons A L ih=>exactλ⟨J,u,d,s1,s2,ha,hl⟩=>⟨J,u,d,s1,s2,ha,ih hl⟩
theorem UK{L:List aE}{h0:Hp}(hl:aF L h0):∀h,aF [has h0] h->aF L h:=λh u=>mi hl (oX u)
theorem St.on{w':aiA}{N L:List aE}{h0:Hp}(h:St w' (N++[Proofs.YtaoaemnefghnbaaGreatDoor.has h0]))(hl:aF L h0):St w' (N++L):=Fc (UK hl) h
theorem St.eM{w':aiA}{A:aE}{L:List aE}{h0:Hp}(h:St w' [A,Proofs.YtaoaemnefghnbaaGreatDoor.has h0])(hl:aF L h0):St w' (A::L):=St.on (N:=[A]) h hl
theorem St.Oo{w':aiA}{A B:aE}{L:List aE}{h0:Hp}(h:St w' [A,B,Proofs.YtaoaemnefghnbaaGreatDoor.has h0])(hl:aF L h0):St w' (A::B::L):=St.on (N:=[A,B]) h hl
theorem St.gone{w':aiA}{N:List aE}{h0:Hp}(h:St w' (N++[Proofs.YtaoaemnefghnbaaGreatDoor.has h0])):sub h0 (hp w'):=by
 induction N with
 |nil=>exact oX h
 |cons A N ih=>exact ih h.tail
theorem St.aP{w':aiA}{A:aE}{h0:Hp}(h:St w' [A,Proofs.YtaoaemnefghnbaaGreatDoor.has h0]):sub h0 (hp w'):=St.gone (N:=[A]) h
theorem St.afu{w':aiA}{A B:aE}{h0:Hp}(h:St w' [A,B,Proofs.YtaoaemnefghnbaaGreatDoor.has h0]):sub h0 (hp w'):=St.gone (N:=[A,B]) h
theorem St.freeze{w:aiA}{A:aE}{L:List aE}(h:St w (A::L)):∃h0,aF L h0/\sub h0 (hp w)/\St w [A,Proofs.YtaoaemnefghnbaaGreatDoor.has h0]:=by
 obtain⟨J,u,d,s1,s2,ha,hl⟩:=h;exact⟨u,hl,s2,J,u,d,s1,s2,ha,bF sZZ⟩
theorem St.SO{w:aiA}{A B:aE}{L:List aE}(h:St w (A::B::L)):∃h0,aF L h0/\sub h0 (hp w)/\St w [A,B,Proofs.YtaoaemnefghnbaaGreatDoor.has h0]:=by
 obtain⟨W,V,d,s1,s2,ha,U,u,O,X,J,hb,hl⟩:=h;exact⟨u,hl,J.trans s2,W,V,d,s1,s2,ha,U,u,O,X,J,hb,bF sZZ⟩
theorem St.first{w:aiA}{A:aE}{L:List aE}(h:St w (A::L)):∃h1,sub h1 (hp w)/\A h1:=by
 obtain⟨h1,u,d,s1,s2,ha,hl⟩:=h
 grind
def aq(h:Hp)(a:Addr)(vs:List Value):Prop:=∀j v,vs[j]? =some v->vn h (a.add j)=some v
theorem aq.mono{h h':Hp}{a:Addr}{vs:List Value}(s:sub h h')(r:aq h a vs):aq h' a vs:=λj v u=>sU s (r j v u)
theorem aq.cell{w:aiA}{h:Hp}{a:Addr}{vs:List Value}(r:aq h a vs)(s:sub h (hp w)){j:Nat}{v:Value}(hj:vs[j]? =some v):w.cell? (a.add j)=some v:=jI (sU s (r j v hj))
theorem aq.cell0{w:aiA}{h:Hp}{a:Addr}{v:Value}{vs:List Value}(r:aq h a (v::vs))(s:sub h (hp w)):w.cell? a=some v:=by
 have:=r.cell s (j:=0) (v:=v) rfl
 simp_all[Addr.add]
theorem aq.drop{h:Hp}{a:Addr}{us vs:List Value}(r:aq h a (us++vs)):aq h (a.add us.length) vs:=λj v u=>by
 rw[add_add];exact r _ v (by grind)
theorem aq.take{h:Hp}{a:Addr}{us vs:List Value}(r:aq h a (us++vs)):aq h a us:=λj v u=>
 r j v (by grind)
theorem KN{w:aiA}{h:Hp}{a:Addr}(s:sub h (hp w)):∀(vs:List Value)(i:Nat),aq h (a.add i) vs->rowAt w a i vs.length=some vs
 |[],i,_=>rfl
 |v::vs,i,r=>by
  have h1:w.cell? (a.add i)=some v:=r.cell0 s
  have h2:aq h (a.add (i+1)) vs:=by
   rw[<-add_add];exact aq.drop (us:=[v]) r
  simp only[ahr,rowAt,h1,KN s vs (i+1) h2]
theorem aq.at{w:aiA}{h:Hp}{a:Addr}{vs:List Value}{n:Nat}(r:aq h a vs)(s:sub h (hp w))(hn:vs.length=n):rowAt w a 0 n=some vs:=by grind[KN,Addr.add]
theorem kY{b:Nat}{vs:List Value}{h:Hp}(hc:az b vs h):aq h ⟨b,0,none⟩ vs:=λj v u=>by
 obtain⟨e,J⟩:=hc
 simp_all[ak,vn]
class uj (α:Type) where
 n:Nat
 rd:Hp->α->List Value->Prop
 mono:∀{h h':Hp}{x:α}{vs:List Value},sub h h'->rd h x vs->rd h' x vs
 len:∀{h:Hp}{x:α}{vs:List Value},rd h x vs->vs.length=n
abbrev rd{α:Type}[uj α](h:Hp)(x:α)(vs:List Value):Prop:=uj.rd h x vs
def aX{α:Type}[uj α](h:Hp)(xs:List α)(a:aiz)(l:Nat):Prop:=
 xs.length=l/\∀i x,xs[i]? =some x->∃ad vs,a=some ad/\aq h (ad.add (ff i (uj.n α))) vs/\rd h x vs
section
variable{α:Type}[uj α]{h h':Hp}{w:aiA}{xs:List α}{a:aiz}{l:Nat}
theorem aX.mono(s:sub h h')(r:aX h xs a l):aX h' xs a l:=
 ⟨r.1,λi x J=>by obtain⟨U,vs,V,O,u⟩:=r.2 i x J;exact⟨U,vs,V,O.mono s,uj.mono s u⟩⟩
theorem aX.nil:aX h ([]:List α) a 0:=⟨rfl,λi x u=>by simp_all⟩
theorem aX.get(r:aX h xs a l){i:Nat}(hi:i<l):∃x ad vs,xs[i]? =some x/\a=some ad/\aq h (ad.add (ff i (uj.n α))) vs/\rd h x vs:=by
 have hl:i<xs.length:=by rw[r.1];omega
 obtain⟨ad,vs,J,O,u⟩:=r.2 i xs[i] (agM hl)
 grind
theorem aX.drop{k m:Nat}(r:aX h xs a l)(hk:k<=l)(hm:l<=m):aX h (xs.drop k) (fK a k m (uj.n α)) (l-k):=by
 refine⟨by rw[ahZ,r.1],λi x u=>?_⟩;rw[ahy] at u;have U:=(agN.1 u).1;obtain⟨O,vs,rfl,V,J⟩:=r.2 _ x u;have W:=r.1
 refine⟨O.add (ff k (uj.n α)),vs,?_,?_,J⟩
 ·unfold fK;grind
 simp_all[add_add,bh,Nat.add_mul]
theorem aX.take{k:Nat}(r:aX h xs a l)(hk:k<=l):aX h (xs.take k) a k:=by
 refine⟨by rw[ahl,r.1];omega,λi x u=>?_⟩;rw[ahJ] at u
 split at u
 ·exact r.2 i x u
 simp_all
class kZ (α:Type) extends uj α where
 val:α->Value
 one:∀{h:Hp}{x:α}{vs:List Value},rd h x vs↔vs=[val x]
 n1:n=1
end
section
variable{α:Type}[kZ α]{h h':Hp}{w:aiA}{xs:List α}{a:aiz}{l:Nat}
theorem aX.at(r:aX h xs a l){i:Nat}{x:α}(hx:xs[i]? =some x):∃ad,a=some ad/\∀w,sub h (hp w)->w.cell? (ad.add i)=some (kZ.val x):=by
 obtain⟨ad,vs,J,O,u⟩:=r.2 i x hx;have:=kZ.one.1 u;subst this;refine⟨ad,J,λw s=>?_⟩;have:=O.cell0 s
 simp_all[bh,kZ.n1]
theorem aX.dQ(r:aX h xs a l){i:Nat}(hi:i<l):∃x ad,xs[i]? =some x/\a=some ad/\∀w,sub h (hp w)->w.cell? (ad.add i)=some (kZ.val x):=by
 have hl:i<xs.length:=by rw[r.1];omega
 obtain⟨ad,u,J⟩:=r.at (agM hl)
 simp_all
theorem h_(hl:xs.length=l)(hr:eE a (xs.map kZ.val) h):aX h xs a l:=by
 refine⟨hl,λi x O=>?_⟩
 rcases hr with hn|⟨u,rfl,hc⟩
 ·simp_all
 ·refine⟨u,[kZ.val x],rfl,λj v J=>?_,kZ.one.2 rfl⟩;cases j with
  |zero=>
   simp_all[Option.some.injEq,bh,kZ.n1,add_add]
  |succ j=>simp_all
theorem aX.row(r:aX h xs a l):eE a (xs.map kZ.val) h:=by
 cases xs with
 |nil=>exact .inl rfl
 |cons x0 xs'=>
  obtain⟨V,vs,rfl,_⟩:=r.2 0 x0 rfl;refine .inr ⟨V,rfl,λj v u=>?_⟩;rw[agS] at u;cases hx:(x0::xs')[j]? with
  |none=>simp_all
  |some x=>
   rw[hx] at u;cases u;obtain⟨J,vs,e,U,O⟩:=r.2 j x hx;cases e;have:=kZ.one.1 O;subst this;have:=U 0 _ rfl
   simp_all[bh,kZ.n1,add_add]
end
instance:kZ Int:={ n:=1,rd:=λ_ x vs=>vs=[iI x],mono:=λ_ h=>h,len:=λh=>by simp_all,val:=λx=>iI x,one:=Iff.rfl,n1:=rfl }
instance:kZ Bool:={ n:=1,rd:=λ_ x vs=>vs=[vB x],mono:=λ_ h=>h,len:=λh=>by simp_all,val:=λx=>vB x,one:=Iff.rfl,n1:=rfl }
instance:kZ ByteArray:={ n:=1,rd:=λ_ x vs=>vs=[.string x],mono:=λ_ h=>h,len:=λh=>by simp_all,val:=λx=>.string x,one:=Iff.rfl,n1:=rfl }
instance {α:Type} [uj α]:uj (List α):=
 { n:=1,rd:=λh xs vs=>∃a l c,vs=[vS a l c]/\l<=c/\aX h xs a l,mono:=λs ⟨a,l,c,h1,h3,h2⟩=>⟨a,l,c,h1,h3,h2.mono s⟩,len:=λ⟨_,_,_,h,_⟩=>by simp_all }
def anyI:Int->Prop:=λz=>-9223372036854775808<=z/\z<=9223372036854775807
def bv(bs:List Bool):List Value:=bs.map λb=>vB b
theorem kZ.SP:(kZ.val:Int->Value)=λx=>iI x:=rfl
theorem bt{h:Hp}{xs:List Int}{a:aiz}{l:Nat}(hl:xs.length=l)(hr:eE a (iv xs) h):aX h xs a l:=h_ hl hr
theorem Av{h:Hp}{xs:List Bool}{a:aiz}{l:Nat}(hl:xs.length=l)(hr:eE a (bv xs) h):aX h xs a l:=h_ hl hr
theorem aX.iv{h:Hp}{xs:List Int}{a:aiz}{l:Nat}(r:aX h xs a l):eE a (Proofs.YtaoaemnefghnbaaGreatDoor.iv xs) h:=r.row
theorem cf(xs:List Int):(iv xs).length=xs.length:=by simp[iv]
theorem pz(xs:List Bool):(bv xs).length=xs.length:=by simp[bv]
theorem W1{w w':aiA}(h:hp w'=hp w):sub (hp w) (hp w'):=Gr.of_eq h
def bp(bs:List Bool):Nat->Bool:=λk=>bs.getD k false
def mb(bs:List Bool):List Nat:=dx bs.length (bp bs)
def je(bs:List Bool):List Int:=(mb bs).map λ(k:Nat)=>(k:Int)
def bJ(bs:List Bool):Nat:=dp bs.length (bp bs)
def Hv(n:Nat)(m:Nat->Bool):List Bool:=(List.range n).map m
def di(bs:List Bool)(xs:List Int):List Bool:=Hv bs.length (gf bs.length (bp bs) xs)
def hasB(bs:List Bool)(k:Int):Bool:=decide (0<=k)&&bp bs k.toNat
def yz(size:Int)(xs:List Int):List Bool:=di (List.replicate (KL size) false) xs
def dH(bs:List Bool)(vss:List (List Bool)):List Bool:=vss.foldl (λb v=>di b (je v)) bs
theorem sV(n:Nat)(m:Nat->Bool):(Hv n m).length=n:=by simp[Hv]
theorem bu(bs:List Bool)(xs:List Int):(di bs xs).length=bs.length:=sV _ _
theorem L0(size:Int)(xs:List Int):(yz size xs).length=KL size:=by simp[yz,bu]
theorem uo{bs:List Bool}{k:Nat}(h:bs.length<=k):bp bs k=false:=by simp_all[bp]
theorem qM{bs:List Bool}{k:Nat}{b:Bool}(h:bs[k]? =some b):bp bs k=b:=by simp_all[bp]
theorem Gw{n:Nat}{m:Nat->Bool}(hm:∀k,n<=k->m k=false):bp (Hv n m)=m:=by
 funext k
 by_cases h:k<n
 ·simp_all[qM,Hv]
 simp_all[uo,sV]
theorem SR(bs:List Bool):Hv bs.length (bp bs)=bs:=by
 apply ahp
 grind[Hv,bp,List.getElem?_eq_none,sV]
theorem k_{cs bs:List Bool}(hl:cs.length=bs.length)(h:∀k,bp cs k=bp bs k):cs=bs:=by
 rw[<-SR cs,<-SR bs,hl];congr 1;grind
theorem eR(bs:List Bool)(xs:List Int):bp (di bs xs)=gf bs.length (bp bs) xs:=
 Gw λk u=>by grind[gf,uo]
theorem oy(n k:Nat):bp (List.replicate n false) k=false:=by grind[bp]
theorem iC(bs:List Bool):bJ bs<=bs.length:=DQ _ _
theorem BV(bs:List Bool):(je bs).length=bJ bs:=by rw[je,ag5];rfl
theorem uq{bs:List Bool}{k:Nat}:k∈mb bs↔bp bs k=true:=by grind[mb,dx,Nat.lt_of_not_le,uo]
theorem aaz{bs:List Bool}{x:Int}:x∈je bs↔hasB bs x=true:=by
 simp only[je,agY,uq,hasB,ag1,ahc]
 grind
theorem L3{bs:List Bool}{k:Nat}:(je bs).contains (k:Int)=bp bs k:=by
 rw[ahN,List.contains_iff_mem,aaz];rfl
theorem ads(bs:List Bool):iv (je bs)=dS (mb bs):=by rw[je,WZ]
theorem ia(bs vs:List Bool)(k:Nat):bp (di bs (je vs)) k=(bp bs k||(decide (k<bs.length)&&bp vs k)):=by
 rw[eR,gf,L3]
theorem Aw(vss:List (List Bool)):∀bs,(dH bs vss).length=bs.length:=by
 induction vss with
 |nil=>exactλ_=>rfl
 |cons v l ih=>exactλbs=>(ih _).trans (bu _ _)
theorem UL(vss:List (List Bool)):∀(bs:List Bool)(k:Nat),bp (dH bs vss) k=(bp bs k||(decide (k<bs.length)&&vss.any λv=>bp v k)):=by
 induction vss with
 |nil=>simp[dH]
 |cons v l ih=>
  grind[bp,dH,di,je,bu,ia,decide]
theorem Oq{vss:List (List Bool)}{bs v:List Bool}{j:Nat}(h:vss[j]? =some v):dH bs (vss.take (j+1))=di (dH bs (vss.take j)) (je v):=by simp_all[dH,agR]
theorem UM{bs:List Bool}{xs:List Int}{j:Nat}{x:Int}(h:xs[j]? =some x):di (di bs (xs.take j)) [x]=di bs (xs.take (j+1)):=by
 refine k_ (by simp[bu]) λk=>?_;rw[eR,eR,eR];simp only[gf,bu,b_ h,ri,List.contains_cons,List.contains_nil,Bool.or_false]
 grind
theorem W2{n:Nat}{m m':Nat->Bool}(h:∀k,m k=true->m' k=true):dp n m<=dp n m':=by
 unfold dp;rw[<-List.countP_eq_length_filter,<-List.countP_eq_length_filter]
 simp_all[List.countP_mono_left]
theorem sZ(bs:List Bool)(xs:List Int):bJ bs<=bJ (di bs xs):=by simp_all[bJ,bu,eR,W2,gf]
def cU(p:aiz)(bs:List Bool):aE:=BQ p bs.length (bp bs)
def eV(h:Hp)(p:aiz)(bs:List Bool):Prop:=
 (p=none/\bs=[])\/∃b a c ws,p=some ⟨b,0,none⟩/\Inv bs.length ws (bp bs)/\aq h ⟨b,0,none⟩ [vS a (List.length ws) c,iI (bs.length:Int)]/\eE a (cw ws) h
theorem eE.mono{h h':Hp}{a:aiz}{vs:List Value}(s:sub h h')(r:eE a vs h):eE a vs h':=by
 rcases r with r|⟨J,e,hc⟩
 ·exact .inl r
 ·exact .inr ⟨J,e,λj v u=>sU s (hc j v u)⟩
theorem eV.mono{h h':Hp}{p:aiz}{bs:List Bool}(s:sub h h')(r:eV h p bs):eV h' p bs:=by
 rcases r with r|⟨b,a,c,ws,O,U,u,J⟩
 ·exact .inl r
 ·exact .inr ⟨b,a,c,ws,O,U,u.mono s,J.mono s⟩
theorem DR{h:Hp}{p:aiz}{bs:List Bool}(ho:cU p bs h):eV h p bs:=by
 rcases ho with⟨J,u,_⟩|⟨b,a,c,ws,J,u,O⟩
 ·exact .inl ⟨J,ag2 u⟩
 ·obtain⟨g1,g2,d,s1,s2,ha,g3,X,W,U,V,hb,_⟩:=O;exact .inr ⟨b,a,c,ws,J,u,(kY ha).mono s1,(bH hb).mono (U.trans s2)⟩
theorem St.eV{w:aiA}{L:List aE}{p:aiz}{bs:List Bool}(h:St w (cU p bs::L)):eV (hp w) p bs:=by
 obtain⟨u,s,ha⟩:=h.first;exact(DR ha).mono s
theorem eV.le{h:Hp}{p:aiz}{bs:List Bool}(r:Proofs.YtaoaemnefghnbaaGreatDoor.eV h p bs):bs.length<=1024:=by
 rcases r with⟨_,rfl⟩|⟨b,a,c,ws,_,u,_⟩
 ·simp
 ·exact u.le
theorem W3{w:aiA}{L:List aE}{p:aiz}{n:Nat}{m:Nat->Bool}(h:St w (BQ p n m::L)):St w (cU p (Hv n m)::L):=by grind[cU,sV,Gw,WR]
instance:kZ (aiz):={ n:=1,rd:=λ_ x vs=>vs=[.pointer x],mono:=λ_ h=>h,len:=λh=>by simp_all,val:=λx=>.pointer x,one:=Iff.rfl,n1:=rfl }
theorem afv{A:aE}{w:aiA}(h:A (hp w)):St w [A]:=⟨hp w,λ_=>none,λ_=>.inr rfl,sZZ,λ_ _ h=>(nomatch h),h,trivial⟩
section
variable{w:aiA}{L:List aE}{a:aiz}{l c:Nat}{p q:aiz}{bs cs:List Bool}{xs:List Int}{ws:List Nat}
theorem Ot(h:eE a (cw ws) (hp w))(hlt:∀x∈ws,x<2^64){k:Nat}(hk:k/64<ws.length)(hb:k<4096):
  ρ 199 [vS a ws.length c,iI (k:Int)] w λv w'=>v=vB (mem ws k)/\w'=w:=by
 refine pn ?_;obtain⟨J,rfl,u⟩:=Gv (afv h) (LW hk)
 refine⟨QT,?_,?_⟩
 ·rw[Ai];exact BS ω
 ·rw[Ai,QS]
  refine ax rfl hk ⟨_,u,QT,?_,?_,rfl⟩
  ·show(0:Int)<=_;omega
  ·rw[Od (BR hlt _) (Nat.mod_lt _ ω)];rfl
theorem L4(h:eV (hp w) p bs):ρ 171 [.pointer p] w λv w'=>v=iI (bs.length:Int)/\w'=w:=by
 refine qI ?_
 rcases h with⟨rfl,rfl⟩|⟨b,a,c,ws,rfl,hi,h,_⟩
 ·exact⟨rfl,rfl⟩
 ·exact⟨_,h.cell sZZ (j:=1) rfl,rfl,rfl⟩
theorem KO(h:eV (hp w) p bs)(k:Int):ρ 168 [.pointer p,iI k] w λv w'=>v=vB (hasB bs k)/\w'=w:=by
 refine DK ?_;unfold hasB
 refine ae (λh0=>?_) λh0=>?_
 ·refine(L4 h).mono ?_;rintro _ _⟨rfl,rfl⟩
  refine⟨_,rfl,ae (λu=>?_) λu=>?_⟩
  ·have h0:=agQ h0;have u:=agQ u
   rcases h with⟨rfl,rfl⟩|⟨b,a,c,ws,rfl,hi,h,O⟩
   ·simp at u;omega
   ·obtain⟨j,rfl⟩:=Int.eq_ofNat_of_zero_le h0;have J:j<bs.length:=ω
    refine⟨a,ws.length,c,h.cell0 sZZ,?_⟩;refine(Ot O hi.lt (WS hi J) (by have:=hi.le;omega)).mono ?_;rintro _ _⟨rfl,rfl⟩;refine⟨_,rfl,?_,rfl⟩;simp[hi.mm]
  ·refine⟨?_,rfl⟩;have u:=agO u;rw[uo (k:=k.toNat) ω];simp
 ·exact⟨by rw[h0];rfl,rfl⟩
theorem z7(h:St w (cU p bs::L))(hx:∀h,aF L h->aX h xs a l)(hb:l<=4611686018427387904):
  ρ 103 [.pointer p,vS a l c] w λv w'=>v=iI ((bJ (di bs xs):Int)-bJ bs)/\St w' (cU p (di bs xs)::L):=by
 obtain⟨h0,hl,U,O⟩:=h.freeze;have hx:=hx h0 hl;refine(acJ (D:=has h0) (L:=[]) (λh J=>hx.iv.mono J) O hx.1 hb).mono ?_;rintro _ w'⟨rfl,u⟩
 refine⟨?_,?_⟩
 ·simp[bJ,bu,eR]
 ·have u:=W3 u;exact u.eM hl
theorem UN(size:Int)(hx:aX (hp w) xs a l)(hb:l<=4611686018427387904):
  ρ 102 [iI size,vS a l c] w λv w'=>∃b,v=.pointer (some ⟨b,0,none⟩)/\St w' (cU (some ⟨b,0,none⟩) (yz size xs)::all w):=by
 refine(agq size (D:=has (hp w)) (L:=[]) (λh J=>hx.iv.mono J) (St.all w) hx.1 hb).mono ?_;rintro _ w'⟨b,rfl,u⟩;refine⟨b,rfl,?_⟩;have u:=W3 u
 have e:Hv (KL size) (gf (KL size) (λ_=>false) xs)=yz size xs:=by
  unfold yz di;rw[ahX];congr 2
  grind[oy]
 simp_all
theorem KP(h:eV (hp w) p bs):ρ 172 [.pointer p] w λv w'=>∃b,v=.func (.func qJ) #[] #[.pointer (some ⟨b,0,none⟩)]/\St w' (WV b bs.length (bp bs)::all w):=by
 refine DM ?_;refine ag (St.all w) λb Z J=>?_
 rcases h with⟨rfl,rfl⟩|⟨b2,a,c,ws,rfl,hi,V,u⟩
 ·refine⟨b,rfl,BU.2 ⟨none,0,[],inv_zero (agP _),?_⟩⟩;exact(aI 1 J).swap
 ·have hl:ws.length<=1024:=by rw[hi.len];have:=hi.le;omega
  refine⟨a,ws.length,c,V.cell0 J.aP,?_⟩
  refine(aaw (D:=has (hp w)) (λh X=>u.mono X) J.swap hl (λe=>?_)).mono ?_
  ·subst e
   rcases u with u|⟨_,u,_⟩
   ·exact adp u
   simp_all
  rintro _ w2⟨Y,W,rfl,O⟩;refine⟨_,_,_,rfl,?_⟩;refine aR O.NJ σ λw3 U=>?_;exact⟨b,rfl,BU.2 ⟨Y,W,ws,hi,U⟩⟩
theorem DS(h:eV (hp w) p bs)(ht:dP (hp w)):ρ 89 [.pointer p] w λv w'=>∃a' c',v=vS a' (bJ bs) c'/\St w' (own 1 a' (bJ bs) c' (iv (je bs))::all w):=by
 refine wN ?_;have hn:=h.le;have hc:=iC bs;refine(KP h).mono ?_;rintro _ U⟨b,rfl,O⟩;refine⟨_,_,rfl,?_⟩;refine(UJ (rfl:Fn _=true) o_ (λh J=>eE.mono (oX J) ht) (by grind[mA,bJ]) O).mono ?_;rintro _ V⟨a',c',rfl,u⟩;refine⟨_,_,_,rfl,a',c',rfl,?_⟩;rw[ads];exact u.swap.tail
theorem iDZ(h:St w (own 1 a l c (iv xs)::L)):aX (hp w) xs a l:=by
 have hl:=fk h;obtain⟨u,s,ha⟩:=h.first;exact(bt (by simp_all[iv]) (bH ha)).mono s
end
theorem KQ{bs cs:List Bool}(h:∀k,bp cs k=true->bp bs k=true):di bs (je cs)=bs:=by grind[k_,bu,ia,bp]
theorem JJ(bs:List Bool)(vss:List (List Bool))(k:Nat)(h:bp bs k=true):bp (dH bs vss) k=true:=by simp_all[UL]
theorem QU(vss:List (List Bool)):∀bs,bJ bs<=bJ (dH bs vss):=by
 induction vss with
 |nil=>exactλ_=>agT _
 |cons v l ih=>exactλbs=>ahq (sZ bs (je v)) (ih _)
theorem SS{ks:List Nat}{i:Nat}{us:List Value}(h:(sC ks)[i]? =some us):∃k,ks[i]? =some k/\us=[iI (k:Int)]:=by
 unfold sC at h
 grind
theorem aaA(ks:List Nat):(sC ks).length=ks.length:=by simp[sC]
theorem SU{bs:List Bool}{i k:Nat}(h:(mb bs)[i]? =some k):(je bs)[i]? =some (k:Int):=by grind[je]
theorem ju{L:List aE}{A:aE}:∀{h:Hp},A∈L->aF L h->∃h1,sub h1 h/\A h1:=by
 induction L with
 |nil=>simp
 |cons B L ih=>
  rintro h u⟨h1,V,d,s1,s2,ha,hl⟩
  rcases ag6.1 u with rfl|u
  ·grind
  ·obtain⟨J,U,O⟩:=ih u hl;exact⟨J,U.trans s2,O⟩
section
variable{w:aiA}{L:List aE}{a:aiz}{l c:Nat}{p q:aiz}{bs cs:List Bool}{xs:List Int}{os:List (aiz)}{vss:List (List Bool)}
theorem SV(h:St w (cU p bs::L))(hx:∀h,aF L h->aX h os a l)(hv:vss.length=os.length)(ho:∀h,aF L h->∀(i:Nat) q v,os[i]? =some q->vss[i]? =some v->eV h q v\/(q=p/\v=bs))
  (ht:∀h,aF L h->dP h) (hb:l<=4611686018427387904):
  ρ 349 [.pointer p,vS a l c] w λv w'=>v=iI ((bJ (dH bs vss):Int)-bJ bs)/\St w' (cU p (dH bs vss)::L):=by
 obtain⟨h0,hl,_,V⟩:=h.freeze;have hx:=hx h0 hl;have ho:=ho h0 hl;have ht:dP h0:=ht h0 hl;have hn:=h.eV.le;have done:∀w',St w' (cU p (dH bs vss)::[has h0])->St w' (cU p (dH bs vss)::L):=λw' h=>h.eM hl;clear h hl;refine Au ?_;refine ag V λb1 w1 V=>ag V λb2 w2 V=>aR V σ λw3 V=>?_;have cb:∀j,bJ (dH bs (vss.take j))<=1024:=λj=>by grind[iC,dH,Aw]
 refine⟨λn1 w=>∃j:Nat,n1=j/\j<=l/\St w [az b2 [iI ((bJ (dH bs (vss.take j)):Int)-bJ bs)],az b1 [.pointer p],cU p (dH bs (vss.take j)),has h0],λn1 _=>l-n1.toNat,
  ⟨0,rfl,ω,?_⟩,?_⟩
 ·show St w3 [az b2 [iI ((bJ bs:Int)-bJ bs)],_,_,_]
  rw[Int.sub_self];exact V
 rintro _ n1 w4⟨j,rfl,hj,X⟩
 refine ae (λJ=>?_) λJ=>?_
 ·have J:j<l:=by simp_all
  obtain⟨q,ad,hq,rfl,hc⟩:=hx.dQ J;have Y:sub h0 (hp w4):=(X.pick 4 [3]).has;refine ax rfl J ⟨q,hc _ Y,?_⟩;obtain⟨v,Z⟩:∃v,vss[j]? =some v:=⟨vss[j]'(by grind),agM _⟩;have hU:=Oq (bs:=bs) Z;have a9:(dH bs (vss.take j)).length=bs.length:=Aw _ _;have av:=cb j;have a0:=cb (j+1);have c0:=QU (vss.take j) bs;have c1:=sZ (dH bs (vss.take j)) (je v);rw[<-hU] at c1
  obtain⟨u,a7,a5⟩:∃u,eV (hp w4) q u/\di (dH bs (vss.take j)) (je u)=dH bs (vss.take (j+1)):=by
   rcases ho j q v hq Z with hr|⟨rfl,rfl⟩
   ·exact⟨v,hr.mono Y,hU.symm⟩
   ·refine⟨dH v (vss.take j),(X.pick 4 [2]).eV,?_⟩
    simp_all[KQ,JJ]
  rw[<-a5] at c1 a0;generalize hU0:dH bs (vss.take j)=U at*;refine(KP a7).mono ?_;rintro _ w5⟨b3,rfl,h5⟩;have h6:=h5.eM X;refine⟨_,_,rfl,a_.2 ⟨rfl,?_⟩⟩
  refine⟨sC (mb u),WV b3 u.length (bp u),dP,λi=>aV [az b2 [iI ((bJ (di U ((je u).take i)):Int)-bJ bs)],az b1 [.pointer p],cU p (di U ((je u).take i))],pu False,λ_=>pu False,[has h0],?_,(λh hh=>eE.mono (oX hh) ht),o_,?_,?_,?_,?_,trivial⟩
  ·have h7:=h6.pick 5 [1,2,3,0,4];have e:di U []=U:=k_ (bu _ _) λk=>by simp[eR,gf]
   show St w5 [aV [az b2 [iI ((bJ (di U []):Int)-bJ bs)],_,cU p (di U [])],_,_]
   rw[e];exact(St.flat.2 (show St w5 ([_,_,_]++[_,_]) from h7))
  ·intro x hx;obtain⟨i,hi,rfl⟩:=List.mem_iff_getElem.1 hx;obtain⟨k,_,e⟩:=SS (agM hi)
   simp_all
  ·intro i x hx L' w6 _ a6;obtain⟨k,hk,e⟩:=SS hx;cases e;refine⟨_,a6,λam w7 _ a8 w8 hd=>?_⟩;have W:=St.flat.1 (a8.drawn hd);refine⟨λw=>w.cell? ⟨b2,0,none⟩=some (iI ((bJ (di U ((je u).take i)):Int)-bJ bs))/\w.cell? ⟨b1,0,none⟩=some (.pointer p),⟨W.cell 0,W.swap.cell 0⟩,_,λw h=>h.1,_,λw h=>h.2,?_⟩;refine ag W λb4 w9 h9=>⟨⟨h9.swap.cell 0,h9.NJ.cell 0⟩,?_⟩
   refine(z7 (xs:=[(k:Int)]) (l:=1) (h9.pick 4 [3,0,1,2]) (λh hh=>?_) ω).mono ?_
   ·obtain⟨V,_,_,s1,_,⟨e,he⟩,_⟩:=hh;exact(bt (xs:=[(k:Int)]) rfl (.inr ⟨_,rfl,kY ⟨e,he⟩⟩)).mono s1
   ·rintro _ al⟨rfl,O⟩;rw[UM (SU hk)] at O ⊢;have k1:=sZ U ((je u).take i);have k2:=iC (di U ((je u).take i));have k3:=iC (di U ((je u).take (i+1)));rw[bu] at k2 k3;refine⟨_,rfl,⟨(O.pick 4 [2]).cell 0,(O.pick 4 [3]).cell 0⟩,ξ,?_⟩;refine aR (O.pick 4 [2,3,0]) σ λaa a4=>St.flat.2 ?_;have e:((bJ (di U ((je u).take i)):Int)-bJ bs+((bJ (di U ((je u).take (i+1))):Int)-bJ (di U ((je u).take i))))=(bJ (di U ((je u).take (i+1))):Int)-bJ bs:=ω
    rw[e] at a4;exact a4
  ·intro w6 h6;refine⟨ξ,⟨j+1,σ,ω,?_⟩,bR J⟩;have e:(je u).take (sC (mb u)).length=je u:=ag4 (by rw[aaA,BV];exact agT _);dsimp only at h6;rw[e,a5] at h6;exact(show St w6 [_,_,_,_,_] from St.flat.1 h6).pick 5 [0,1,2,4]
  simp[St.pu]
 ·have J:j=l:=by grind
  subst J;rw[<-hx.1,<-hv,ag9] at X;refine⟨_,X.cell 0,λw5 h5=>⟨rfl,done _ ?_⟩⟩;exact(X.eq h5).pick 4 [2,3]
end
section
theorem aO{a:aiz}{ad:Addr}{len i sz:Nat}{k:Addr->Prop}(ha:a=some ad)(hi:i<len)(hk:k (ad.add (ff i sz))):idx a len (i:Int) sz k:=
 ⟨ad,ha,ω,ω,by simpa using hk⟩
section
variable{P:Program}{w w':aiA}{L:List aE}{b:Nat}{us vs:List Value}{e e':TypeId}{A B C D:aE}
theorem aS{Ty:TypeId->Option dD}(hT:ec P Ty){t tx ty:TypeId}{i:dD}{z:Value}(hk:ai Ty t=.slice e)(hkx:ai Ty tx=.slice e')(hi:Ty e=some i)(hz:i.zero=some z)(hzs:(cellsOf z).length=i.size)
  {a:aiz} {l c:Nat} (h:St w (az b vs::own i.size a l c us::L)) (hv:vs.length=i.size) (h1:∀u∈vs,aK u=true) (hb:(l+1)*i.bytes<=140737488355328) (h63:l<9223372036854775807):
  aY P (Builtin.append_ (Array.mk [t,tx]) ty (Array.mk [vS a l c,vS (some ⟨b,0,none⟩) 1 1])) w λv w'=>∃a' c',v=vS a' (l+1) c'/\St w' (own i.size a' (l+1) c' (us++vs)::az b vs::L):=by
 refine ji hT hk hi hz hzs h.swap (n:=1) (news:=vs) ?_ hb ω;refine gA hT hkx ω (.inr ⟨_,rfl,λj u J=>?_⟩) h1;rw[ak,h.cell];omega
theorem W4{α:Type}[kZ α]{Ty:TypeId->Option dD}(hT:ec P Ty){t tx ty:TypeId}{i:dD}{z:Value}(hk:ai Ty t=.slice e)(hkx:ai Ty tx=.slice e')(hi:Ty e=some i)(hz:i.zero=some z)(hzs:(cellsOf z).length=i.size)
  {a a2:aiz} {l c n c2:Nat} {xs:List α} (h:St w (own i.size a l c us::L)) (hs:i.size=1) (hx:aX (hp w) xs a2 n) (h1:∀x:α,aK (kZ.val x)=true) (hb:(l+n)*i.bytes<=140737488355328) (h63:l+n<=9223372036854775807):
  aY P (Builtin.append_ (Array.mk [t,tx]) ty (Array.mk [vS a l c,vS a2 n c2])) w λv w'=>∃a' c',v=vS a' (l+n) c'/\St w' (own i.size a' (l+n) c' (us++xs.map kZ.val)::L):=by
 have hl:=hx.1
 refine ji hT hk hi hz hzs h (n:=n) (news:=xs.map kZ.val) (gA hT hkx (by rw[hs,ag5,ahH];exact hx.1) ?_ ?_) hb h63
 ·rcases hx.row with U|⟨O,rfl,hc⟩
  ·left;have:xs=[]:=by simpa using U
   subst this;simpa using hl.symm
  ·exact .inr ⟨O,rfl,λj u J=>jI (hc j u J)⟩
 ·intro u V;obtain⟨x,_,rfl⟩:=agY.1 V;exact h1 x
end
theorem SX{w:aiA}{L:List aE}{a:aiz}{l c:Nat}{bs:List Bool}(h:St w (own 1 a l c (bv bs)::L)):aX (hp w) bs a l:=by
 have hl:=fk h;obtain⟨u,s,ha⟩:=h.first;exact(Av (by simpa[bv] using hl) (bH ha)).mono s
theorem St.row{w:aiA}{L:List aE}{b:Nat}{vs:List Value}(h:St w (az b vs::L)):aq (hp w) ⟨b,0,none⟩ vs:=by
 obtain⟨u,s,ha⟩:=h.first;exact(kY ha).mono s
theorem fM{c:Bool}{a b:Prop}(h:c=true)(ha:a):br c a b:=by subst h;exact ha
theorem bB{c:Bool}{a b:Prop}(h:c=false)(hb:b):br c a b:=by subst h;exact hb
theorem eO{L:List aE}:∀{h:Hp}(i:Nat),i<L.length->aF L h->∃h1,sub h1 h/\vv L i h1:=by
 induction L with
 |nil=>simp
 |cons A L ih=>
  rintro h i hi⟨h1,U,d,s1,s2,ha,hl⟩;cases i with
  |zero=>exact⟨h1,s1,ha⟩
  |succ i=>
   obtain⟨u,O,J⟩:=ih i (by simp_all) hl;exact⟨u,O.trans s2,J⟩
def DT:List aE->Nat
 |[]=>0
 |_::L=>DT L+1
theorem lh:∀L,DT L=L.length
 |[]=>rfl
 |_::L=>by simp[DT,lh L]
theorem aC{L:List aE}{h h0:Hp}(i:Nat)(hl:aF L h)(e:vv L i=has h0:=by rfl)(hi:Nat.blt i (DT L)=true:=by rfl):sub h0 h:=by
 obtain⟨u,s,ha⟩:=eO i (by simp_all[lh]) hl;rw[e] at ha;exact sub.trans ha s
theorem St.l{w:aiA}{L:List aE}(h:St w L):aF L (hp w):=h
theorem L5{bs:List Bool}{k:Nat}(h:bp bs k=true):k<bs.length:=Nat.lt_of_not_le λhl=>by simp_all[uo]
section
variable{A B C:List Bool}{N:Nat}(hA:A.length=N)(hB:B.length=N)(hC:C.length=N)
include hA hB hC
end
theorem QV{M:List aE}:∀{i:Nat}{A:aE},M[i]? =some A->M.Perm (A::M.eraseIdx i):=by
 induction M with
 |nil=>simp
 |cons B M ih=>
  intro i A h;cases i with
  |zero=>simp_all
  |succ i=>exact(List.Perm.cons B (ih (by simp_all))).trans (List.Perm.swap _ _ _)
theorem W5{M:List aE}{B:aE}:∀{i:Nat}{A:aE},M[i]? =some A->(M.set i B).Perm (B::M.eraseIdx i):=by
 induction M with
 |nil=>simp
 |cons C M ih=>
  intro i A h;cases i with
  |zero=>rfl
  |succ i=>exact(List.Perm.cons C (ih (A:=A) (by simp_all))).trans (List.Perm.swap _ _ _)
section
variable{w:aiA}{L M:List aE}{A B:aE}{i:Nat}
theorem St.out(h:St w (aV M::L))(hi:M[i]? =some A):St w (A::aV (M.eraseIdx i)::L):=by
 have u:St w (M.eraseIdx i++A::L):=(St.flat.1 h).perm (((QV hi).append_right L).trans ahG.symm)
 grind[St.flat,swap]
theorem St.back(h:St w (B::aV (M.eraseIdx i)::L))(hi:M[i]? =some A):St w (aV (M.set i B)::L):=by
 have u:=St.flat.1 h.swap;exact St.flat.2 (u.perm (ahG.trans ((W5 hi).symm.append_right L)))
theorem St.snoc(h:St w (A::aV M::L)):St w (aV (M++[A])::L):=by
 have u:=St.flat.1 h.swap
 simp_all[St.flat]
theorem aaB{h:Hp}(hs:aF (aV M::L) h)(hi:A∈M):∃h1,sub h1 h/\A h1:=by
 obtain⟨h1,U,d,s1,s2,ha,hl⟩:=hs;obtain⟨u,O,J⟩:=ju hi ha;exact⟨u,O.trans s1,J⟩
end
theorem SY{α β:Type}(f:α->β->aE){ps:List α}{vs:List β}{i:Nat}{p:α}{v':β}(hp:ps[i]? =some p):(List.zipWith f ps vs).set i (f p v')=List.zipWith f ps (vs.set i v'):=by
 apply ahp
 grind
def bk(p:Nat):aiz:=some ⟨p,0,none⟩
def pv(os:List (aiz)):List Value:=os.map λo=>Value.pointer o
def c_(ps:List Nat)(vss:List (List Bool)):List aE:=List.zipWith (λp v=>cU (bk p) v) ps vss
theorem agr{L:List aE}{h:Hp}{ps:List Nat}{vss:List (List Bool)}{k m p:Nat}{v:List Bool}(i:Nat)(hl:aF L h)(hp:ps[k]? =some p)(hv:vss[k]? =some v)(hk:k≠m)(e:vv L i=aV ((c_ ps vss).eraseIdx m):=by rfl)(hi:Nat.blt i (DT L)=true:=by rfl):eV h (bk p) v:=by
 obtain⟨J,s,ha⟩:=eO i (by simp_all[lh]) hl;rw[e] at ha;obtain⟨u,s2,hb⟩:=ju (A:=cU (bk p) v) (List.mem_eraseIdx_iff_getElem?.2 ⟨k,hk,by simp_all[c_,List.getElem?_zipWith]⟩) ha;exact(DR hb).mono (s2.trans s)
theorem UO{L:List aE}{h:Hp}{a:aiz}{l c:Nat}{os:List (aiz)}(i:Nat)(hl:aF L h)(e:vv L i=own 1 a l c (pv os):=by rfl)(hi:Nat.blt i (DT L)=true:=by rfl):os.length=l->aX h os a l:=λu=>by
 obtain⟨J,s,ha⟩:=eO i (by simp_all[lh]) hl
 rw[e] at ha
 exact(h_ u (bH ha)).mono s
theorem af{L:List aE}{h:Hp}{b:Nat}{vs:List Value}(i:Nat)(hl:aF L h)(e:vv L i=az b vs:=by rfl)(hi:Nat.blt i (DT L)=true:=by rfl):aq h ⟨b,0,none⟩ vs:=by
 obtain⟨u,s,ha⟩:=eO i (by simp_all[lh]) hl;rw[e] at ha;exact(kY ha).mono s
open MapKept
class MVal (κ:Type) where
 val:κ->Value
 inj:∀a b:κ,val a=val b->a=b
class BW (κ:Type) [DecidableEq κ] extends MVal κ where
 kd:TypeDesc
 now:∀a b:κ,Instr.sameNow kd (val a) (val b)=some (decide (a=b))
 key:∀a,IsKey kd (val a)
 bits:∀a,Instr.sameBits 10000 (val a) (val a)=true
instance:BW Int:={ kd:=.int .i64,val:=λx=>iI x,inj:=λa b h=>by simp_all,now:=λa b=>by rfl,key:=λ_=>rfl,bits:=λa=>by simp[Instr.sameBits] }
instance:BW ByteArray:={ kd:=.string,val:=λx=>.string x,inj:=λa b h=>by simp_all,now:=λa b=>by simp only[Instr.sameNow,Option.some.injEq];rw[ahN,ahc];simp[bytes_beq],key:=λ_=>trivial,bits:=λa=>by simp only[Instr.sameBits];exact(bytes_beq a a).2 rfl }
section
variable{κ:Type}[DecidableEq κ]{P:Program}{w:aiA}{L:List aE}
def assoc(k:κ):List (κ×Value)->Option Value
 |[]=>none
 |(a,v)::m=>if k=a then some v else assoc k m
def cV(k:κ)(v:Value):List (κ×Value)->List (κ×Value)
 |[]=>[(k,v)]
 |(a,u)::m=>if k=a then(k,v)::m else(a,u)::cV k v m
theorem ft(k a:κ)(v:Value):∀m,assoc a (cV k v m)=if a=k then some v else assoc a m
 |[]=>by rfl
 |(b,u)::m=>by
  unfold cV
  by_cases h:k=b
  ·simp_all[assoc]
  ·rw[agW h]
   by_cases hab:a=b
   ·simp_all[assoc,Ne.symm]
   ·simp[assoc,hab,ft k a v m]
theorem Hw(k:κ)(v:Value):∀m,(cV k v m).length=if(assoc k m).isSome then m.length else m.length+1
 |[]=>rfl
 |(b,u)::m=>by
  unfold cV assoc
  by_cases h:k=b
  ·grind
  ·simp only[agW h,ahr,Hw k v m]
   grind
variable[MVal κ]
structure z_(es:Array MapEntry)(clock:Nat)(m:List (κ×Value)):Prop where
 eq:es.toList.map (λe=>(e.key,e.val))=m.map λx=>(MVal.val x.1,x.2)
 nd:(es.toList.map (·.born)).Nodup
 lt:∀e∈es.toList,e.born<clock
def mapA(b:Nat)(m:List (κ×Value)):aE:=λh=>∃es clock,h b=some (.map es clock)/\z_ es clock m
theorem mL{b:Nat}{m:List (κ×Value)}:St w (mapA b m::L)↔∃es clock,z_ es clock m/\St w (blk b (.map es clock)::L):=
 ⟨λ⟨J,u,d,s1,s2,⟨es,cl,ha,O⟩,hl⟩=>⟨es,cl,O,J,u,d,s1,s2,ha,hl⟩,λ⟨es,cl,O,J,u,d,s1,s2,ha,hl⟩=>⟨J,u,d,s1,s2,⟨es,cl,ha,O⟩,hl⟩⟩
theorem dW{b:Nat}(h:St w (blk b (.map #[] 0)::L)):St w (mapA b ([]:List (κ×Value))::L):=mL.2 ⟨_,_,⟨rfl,σ,σ⟩,h⟩
structure afw(k:κ)(m:List (κ×Value))(r:Option (Nat×Value)):Prop where
 eq:(r.map (·.2))=assoc k m
 at':∀j v,r=some (j,v)->j<m.length/\(m[j]?).map (·.1)=some k/\∀u,cV k u m=m.set j (k,u)
 no:r=none->∀u,cV k u m=m++[(k,u)]
structure wU(P:Program)(kt:TypeId)(κ:Type)[DecidableEq κ][MVal κ]:Prop where
 check:∀(w:aiA)(em:Bool)(k:κ),(Instr.checkKey em 10000 kt (MVal.val k)).run P w=.ok () w
 find:∀(w:aiA)(k:κ)(es:List MapEntry)(m:List (κ×Value)),es.map (λe=>(e.key,e.val))=m.map (λx=>(MVal.val x.1,x.2))->∃r,(Instr.findKey kt (MVal.val k) es).run P w=.ok r w/\afw k m r
 bits:∀k:κ,Instr.sameBits 10000 (MVal.val k) (MVal.val k)=true
end
section
variable{κ:Type}[DecidableEq κ]{P:Program}{w:aiA}{L:List aE}
theorem Hx[BW κ](k:κ):∀(es:List MapEntry)(m:List (κ×Value))(i:Nat),es.map (λe=>(e.key,e.val))=m.map (λx=>(MVal.val x.1,x.2))->
  ∃r,Instr.findNow (BW.kd κ) (MVal.val k) es i=some r/\(r.map (·.2))=assoc k m/\(∀j v,r=some (j,v)->i<=j/\j<i+m.length/\(m[j-i]?).map (·.1)=some k/\∀u,cV k u m=m.set (j-i) (k,u))/\(r=none->∀u,cV k u m=m++[(k,u)])
 |[],[],i,_=>⟨none,rfl,rfl,λj v h=>(by grind),λ_ u=>rfl⟩
 |[],_::_,i,h=>by grind
 |_::_,[],i,h=>by grind
 |e::es,(a,v)::m,i,h=>by
  simp only[ahw,List.cons.injEq,Prod.mk.injEq] at h
  obtain⟨⟨h1,h2⟩,h3⟩:=h
  unfold Instr.findNow
  rw[h1,BW.now]
  by_cases hk:k=a
  ·simp_all[assoc,cV]
  ·obtain⟨r,q1,q2,q3,q4⟩:=Hx k es m (i+1) h3
   refine⟨r,by simp_all,by simp_all[assoc],λj u hj=>?_,λhn u=>by simp_all[cV]⟩
   obtain⟨p1,p2,p3,p4⟩:=q3 j u hj
   have e1:j-i=(j-(i+1))+1:=ω
   grind[cV]
theorem wU.Hy[BW κ]{kt:TypeId}(hkt:P.underlying kt=some (BW.kd κ)):wU P kt κ where
 check:=λw J k=>run_checkKey (P:=P) (w:=w) hkt (BW.key k) J 9999
 find:=λw k es m V=>by
  obtain⟨r,O,U,X,u⟩:=Hx k es m 0 V
  refine⟨r,run_findKey (P:=P) (w:=w) hkt O,U,λj v W=>?_,u⟩
  grind
 bits:=BW.bits
variable[MVal κ]
variable{Ty:TypeId->Option dD}
theorem BX{d:TypeDesc}{k e:TypeId}(h:Kd.map k e=iz d):d=.map k e:=by cases d<;>simp[iz] at h;simp_all
theorem qN(hT:ec P Ty){t kt et:TypeId}{i:dD}{z:Value}(hk:ai Ty t=.map kt et)(hkt:wU P kt κ)(hi:Ty et=some i)(hz:i.zero=some z){b:Nat}{m:List (κ×Value)}(h:St w (mapA b m::L))(k:κ):
  aY P (Instr.lookup t (.map (some b)) (MVal.val k) false) w λv w'=>v=(assoc k m).getD z/\w'=w:=by
 obtain⟨d,U,u⟩:=dJ hT hk σ;rw[BX u] at U;obtain⟨es,cl,⟨X,_,_⟩,h⟩:=mL.1 h;obtain⟨r,hf,V,_,_⟩:=hkt.find w k es.toList m X;obtain⟨O,d2,ha⟩:=sE hT hi;have J:(zeroValue et).run P w=.ok z w:=mR ha.inf (by rw[<-ha.zero,hz]);refine⟨_,w,?_,Ev.refl w,rfl,rfl⟩;have W:=h.get;have hc:=λe=>hkt.check w e k;unfold Instr.lookup;simp only[Sem.run_bind,bn U,Result.andThen_ok,run_getObj_map w b es cl W,Sem.run_pure,hc,hf];rw[<-V];cases r with
 |none=>simp[J]
 |some x=>simp
theorem qO(hT:ec P Ty){t kt et:TypeId}(hk:ai Ty t=.map kt et)(hkt:wU P kt κ){b:Nat}{m:List (κ×Value)}(h:St w (mapA b m::L))(k:κ)(v:Value):
  aY P (Instr.mapUpdate t (.map (some b)) (MVal.val k) v) w λ_ w'=>St w' (mapA b (cV k v m)::L):=by
 obtain⟨d,V,U⟩:=dJ hT hk σ;rw[BX U] at V;obtain⟨es,cl,⟨O,a0,Z⟩,h⟩:=mL.1 h;obtain⟨r,hf,q2,Y,q4⟩:=hkt.find w k es.toList m O;have X:=h.get;have hc:=λe=>hkt.check w e k;have W:es.size=m.length:=by have:=congrArg List.length O;grind
 have ev:∀o:Array MapEntry×Nat,Ev w { w with heap:=w.heap.setIfInBounds b (.map o.1 o.2) }:=λo=>by
  refine⟨rfl,rfl,rfl,σ,?_,?_⟩<;>
  ·grind
 cases r with
 |none=>
  refine⟨(),_,?_,ev (es.push { key:=MVal.val k,val:=v,born:=cl },cl+1),mL.2 ⟨_,_,?_,h.setObj _⟩⟩
  ·unfold Instr.mapUpdate;simp only[Sem.run_bind,bn V,Result.andThen_ok,run_getObj_map w b es cl X,hc,hf]
   grind[run_setObj_map]
  ·refine⟨by simp_all,?_,?_⟩
   ·grind
   grind
 |some x=>
  obtain⟨j,u⟩:=x;obtain⟨p2,p3,p4⟩:=Y j u rfl;have hj:j<es.size:=ω
  have J:((es[j]?).map (·.key)).getD (MVal.val k)=MVal.val k:=by
   have h1:=congrArg (λl=>l[j]?) O
   grind
  refine⟨(),_,?_,ev (es.modify j λe=>{ e with key:=MVal.val k,val:=v },cl),mL.2 ⟨_,_,?_,h.setObj _⟩⟩
  ·unfold Instr.mapUpdate;simp only[Sem.run_bind,bn V,Result.andThen_ok,run_getObj_map w b es cl X,hc,hf,J,Instr.keyThatStays,hkt.bits,if_true,Sem.run_pure]
   grind[run_setObj_map]
  ·refine⟨?_,?_,?_⟩
   rotate_left
   ·have:(es.modify j λe=>{ e with key:=MVal.val k,val:=v }).toList.map (·.born)=es.toList.map (·.born):=by
     apply ahp
     grind
    simp_all
   ·grind[List.getElem?_of_mem,List.mem_of_getElem?]
   rw[p4 v];apply ahp;intro i;have h1:=congrArg (λl=>l[i]?) O
   grind
theorem aaC(hT:ec P Ty){t kt et ty:TypeId}(hk:ai Ty t=.map kt et){b:Nat}{m:List (κ×Value)}(h:St w (mapA b m::L)):(Builtin.len_ #[t] ty #[.map (some b)]).run P w=.ok (iI (m.length:Int)) w:=by
 obtain⟨d,O,J⟩:=dJ hT hk σ;rw[BX J] at O;obtain⟨es,cl,⟨V,_,_⟩,h⟩:=mL.1 h;have u:es.size=m.length:=by have:=congrArg List.length V;grind
 have U:=h.get;simp[Builtin.len_,run_underlying O,run_getObj_map w b es cl U,u,goInt]
end
section
variable{κ:Type}[DecidableEq κ][BW κ]{P:Program}{w:aiA}{L:List aE}{Ty:TypeId->Option dD}
theorem cr(hT:ec P Ty){t kt et:TypeId}{i:dD}{z:Value}(hk:ai Ty t=.map kt et)(hkt:P.underlying kt=some (BW.kd κ))(hi:Ty et=some i)(hz:i.zero=some z){b:Nat}{m:List (κ×Value)}(h:St w (mapA b m::L))(k:κ):
  aY P (Instr.lookup t (.map (some b)) (MVal.val k) false) w λv w'=>v=(assoc k m).getD z/\w'=w:=qN hT hk (wU.Hy hkt) hi hz h k
theorem dr(hT:ec P Ty){t kt et:TypeId}(hk:ai Ty t=.map kt et)(hkt:P.underlying kt=some (BW.kd κ)){b:Nat}{m:List (κ×Value)}(h:St w (mapA b m::L))(k:κ)(v:Value):
  aY P (Instr.mapUpdate t (.map (some b)) (MVal.val k) v) w λ_ w'=>St w' (mapA b (cV k v m)::L):=qO hT hk (wU.Hy hkt) h k v
end
def qP(s:ByteArray)(i:Nat):Nat:=(sb s i).toNat
theorem adt(s:ByteArray)(i:Nat):qP s i<256:=(sb s i).toNat_lt
theorem adu{s:ByteArray}{i:Nat}(h:i<s.size):sb s i=s[i]'h:=by
 unfold sb;have:i<s.data.size:=h;rw[Array.getElem?_eq_getElem this];rfl
theorem toList_data(s:ByteArray):s.toList=s.data.toList:=by rw[ByteArray.toList_eq]
theorem W6(x y:ByteArray):(x.toList==y.toList)=decide (x=y):=by
 rw[ahN,beq_iff_eq,ahc,toList_data,toList_data]
 grind[WideShapes.bytes_inj]
theorem Ou(x:ByteArray):(x.toList==ByteArray.toList (ByteArray.mk (Array.mk [])))=decide (x.size=0):=by
 rw[W6,ahN,ahc,ahc]
 constructor
 ·rintro rfl;rfl
 ·intro h;refine WideShapes.bytes_inj ?_
  simp_all
def okT(c:Nat):Bool:=decide (32<=c)&&decide (c<=126)&& !decide (c=39)
def ur(s:ByteArray):Bool:=decide (1<=s.size)&&decide (s.size<=16)&&(List.range s.size).all λi=>okT (qP s i)
def okN(i c:Nat):Bool:=decide (c=95)||(decide (65<=c)&&decide (c<=90))||(decide (97<=c)&&decide (c<=122))||(decide (i≠0)&&decide (48<=c)&&decide (c<=57))
def lj(s:ByteArray):Bool:=decide (1<=s.size)&&decide (s.size<=16)&&(List.range s.size).all λi=>okN i (qP s i)
theorem UP{n:Nat}{p:Nat->Bool}:(List.range n).all p=true↔∀i,i<n->p i=true:=σ
theorem UQ(s:ByteArray)(pos:Nat)(h:pos<s.size)(hb:128<=(s[pos]'h).toNat):128<=(Utf8.decode s pos).1:=by
 have e:s.get! (pos+0)=s[pos]'h:=by
  show s.get! pos=_
  simp[ByteArray.get!,getElem!_pos,h];rfl
 grind[Utf8.decode,Utf8.runeError]
theorem wrap_u8(n:Nat)(h:n<256):IntKind.u8.wrap (n:Int)=n:=by grind[Int.emod_eq_of_lt,IntKind.wrap,IntKind.signed,IntKind.bits]
theorem W7{a b:Nat}(ha:a<256)(hb:b<256):ph .or .u8 (a:Int) (b:Int)=((a|||b:Nat):Int):=by
 show IntKind.u8.wrap (((BitVec.ofInt 8 (a:Int))|||(BitVec.ofInt 8 (b:Int))).toNat:Int)=_
 grind[BitVec.ofInt,BitVec.ofNat,BitVec.eq_of_toNat_eq,BitVec.toNat_or,BitVec.toNat_ofNat,Nat.mod_eq_of_lt,wrap_u8,Nat.or_lt_two_pow]
theorem ags:∀c:Fin 256,(decide (97<=(c.val|||32))&&decide ((c.val|||32)<=122))=((decide (65<=c.val)&&decide (c.val<=90))||(decide (97<=c.val)&&decide (c.val<=122))):=by decide+kernel
instance instRepList1 {α:Type} [uj α]:uj (List α):=inferInstance
def SZ(xs:List Int):Prop:=∀i x y,xs[i]? =some x->xs[i+1]? =some y->x<=y
end
section
variable{w:aiA}{L:List aE}{a:aiz}{l c:Nat}{s:ByteArray}{ss:List ByteArray}{xs:List Int}
theorem UR(r:Int):ρ my [.int .i32 r] w λv w'=>v=vB (decide (r<32)||decide (126<r)||(r==39))/\w'=w:=by
 refine Aq ?_;refine ae (λh=>⟨by simp_all,rfl⟩) λh=>ae (λu=>⟨by simp_all,rfl⟩) λu=>⟨by grind,rfl⟩
theorem Ov(hs:s.size<=4611686018427387904):ρ 319 [.string s,.func (.func my) #[] #[]] w λv w'=>(∃n:Int,v=iI n/\(decide (n<0)=(List.range s.size).all λi=>okT (qP s i)))/\Gr w w':=by
 refine vz ?_
 have key:ρ 370 [.string s,.func (.func my) #[] #[],vB true] w λv w'=>(∃n:Int,v=iI n/\(decide (n<0)=(List.range s.size).all λi=>okT (qP s i)))/\Gr w w':=by
  refine vD ?_;have h0:=St.all w;refine⟨_,_,run_range_string w 9 s Tryz.underlying9,Ev.push _ _,_,rfl,?_⟩;have Z:=h0.push (.stringIter s 0);generalize w.heap.size=b at Z;refine⟨λw'=>∃p,p<=s.size/\(∀i,i<p->okT (qP s i)=true)/\St w' (blk b (.stringIter s p)::all w),λw'=>s.size-w'.iterPos b,⟨0,ω,λi hi=>ω,Z⟩,?_⟩;rintro _ J⟨p,hp,Y,V⟩;have X:=V.get
  by_cases u:p<s.size
  ·have U:Ev J (J.iterAt b s (p+(Utf8.decode s p).2)):=by
    refine⟨rfl,rfl,rfl,by simp[World.iterAt],?_,?_⟩<;>
    ·grind[World.iterAt,Array.getElem?_setIfInBounds_ne]
   refine⟨_,_,Lib.run_next_any_at J b s p _ X u,U,.inr ⟨_,_,rfl,a_.2 ⟨rfl,(UR _).mono ?_⟩⟩⟩;have O:St (J.iterAt b s (p+(Utf8.decode s p).2)) (blk b (.stringIter s (p+(Utf8.decode s p).2))::all w):=V.setObj _;rintro _ _⟨rfl,rfl⟩;refine⟨_,rfl,?_⟩;have a0:qP s p=(s[p]'u).toNat:=by simp_all[qP,adu]
   refine ae (λW=>?_) λW=>?_
   ·refine⟨⟨_,rfl,?_⟩,O.tail.has⟩;have:okT (qP s p)=false:=by grind[decode_ascii,okT]
    grind
   ·have h5:(s[p]'u).toNat<128:=by grind[Nat.lt_of_not_le,UQ]
    rw[decode_ascii s p u h5] at O W ⊢;have a4:okT (qP s p)=true:=by grind[okT]
    refine⟨⟨p+1,u,λi hi=>?_,O⟩,?_⟩
    ·grind
    ·have e1:World.iterPos J b=p:=by grind[World.iterPos]
     have e2:World.iterPos (J.iterAt b s (p+1)) b=p+1:=by simp[World.iterPos,O.get]
     grind
  ·refine⟨_,_,Lib.run_next_end_at J b s p _ X u,Ev.refl _,.inl ⟨rfl,⟨_,rfl,?_⟩,V.tail.has⟩⟩
   grind
 refine key.mono ?_
 simp_all
theorem W8(hs:s.size<=4611686018427387904):ρ 236 [.string s] w λv w'=>v=vB (ur s)/\Gr w w':=by
 refine FG _ w _ ?_;unfold wR;rw[Ou];unfold ur
 refine ae (λh=>?_) λh=>?_
 ·have h:1<=s.size:=by grind
  refine ae (λu=>?_) λu=>?_
  ·have u:s.size<=16:=by grind
   refine(Ov hs).mono ?_
   simp_all
  grind[of_decide_eq_false,Gr.refl]
 simp_all[Gr.refl]
theorem W9(hs:s.size<=4611686018427387904):ρ 240 [.string s] w λv w'=>v=vB (lj s)/\w'=w:=by
 refine FI _ w _ ?_;unfold wS;rw[Ou];refine⟨λn w'=>∃j:Nat,n=j/\j<=s.size/\(∀i,i<j->okN i (qP s i)=true)/\w'=w,λn _=>s.size-n.toNat,⟨0,rfl,ω,λi hi=>ω,rfl⟩,?_⟩;rintro _ n w1⟨j,rfl,hj,W,rfl⟩
 refine ae (λh=>?_) λh=>?_
 ·have h:j<s.size:=by simp_all
  refine⟨ξ,?_⟩;rw[agZ];have X:=adt s j;have a0:=ags ⟨qP s j,X⟩;have e8:ph .or .u8 ((sb s j).toNat:Int) 32=((qP s j|||32:Nat):Int):=W7 (b:=32) X ω;rw[e8]
  show br (((qP s j:Nat):Int) !=95) _ _
  have IM:okN j (qP s j)=true->aA ((j:Int)+1)/\(∃j':Nat,(j:Int)+1=j'/\j'<=s.size/\(∀i,i<j'->okN i (qP s i)=true)/\w1=w1)/\s.size-((j:Int)+1).toNat<s.size-(j:Int).toNat:=λa5=>by
   refine⟨ξ,⟨j+1,σ,ω,λi hi=>?_,rfl⟩,bR h⟩
   grind
  have O:okN j (qP s j)=false->vB false=vB (lj s)/\w1=w1:=λa4=>by
   refine⟨?_,rfl⟩;have:(List.range s.size).all (λi=>okN i (qP s i))=false:=by grind
   simp_all[lj]
  have Y:(qP s j=95\/(97<=(qP s j|||32)/\(qP s j|||32)<=122)\/(j≠0/\48<=qP s j/\qP s j<=57))↔okN j (qP s j)=true:=by
   have Z:(97<=(qP s j|||32)/\(qP s j|||32)<=122)↔((65<=qP s j/\qP s j<=90)\/(97<=qP s j/\qP s j<=122)):=by grind
   rw[Z];unfold okN
   grind
  generalize qP s j|||32=d at*
  have J:(qP s j=95\/(97<=d/\d<=122)\/(j≠0/\48<=qP s j/\qP s j<=57))->_:=λhh=>IM (Y.1 hh);have no:¬(qP s j=95\/(97<=d/\d<=122)\/(j≠0/\48<=qP s j/\qP s j<=57))->_:=λhh=>O (by simp_all);clear Y a0 e8 IM O
  refine ae (λh1=>?_) λh1=>?_
  ·have h1:qP s j≠95:=by grind
   refine ae (λh2=>?_) λh2=>?_
   ·have h2:d<97:=by grind
    refine ae (λh3=>no (by grind)) λh3=>ae (λU=>no (by have:((qP s j:Nat):Int)<48:=agQ U;omega)) λU=>ae (λV=>no (by have:57<((qP s j:Nat):Int):=agQ V;omega)) λV=>J (.inr (.inr ?_))
    grind[qP,of_decide_eq_false]
   ·have h2:97<=d:=by grind
    refine ae (λh6=>?_) λh6=>J (.inr (.inl ⟨h2,by grind⟩));have h6:122<d:=by grind
    refine ae (λh3=>no (by simp_all)) λh3=>ae (λU=>no (by have:((qP s j:Nat):Int)<48:=agQ U;omega)) λU=>ae (λV=>no (by have:57<((qP s j:Nat):Int):=agQ V;omega)) λV=>J (.inr (.inr ?_))
    grind[qP,of_decide_eq_false]
  grind
 ·have h:j=s.size:=by grind
  subst h;have u:=UP.2 W;unfold lj;rw[u]
  refine ae (λh=>?_) λh=>?_
  ·have h:1<=s.size:=by grind
   refine⟨?_,rfl⟩;have e:decide ((s.size:Int)<=16)=decide (s.size<=16):=by grind
   simp_all
  simp_all
theorem QW(hx:aX (hp w) xs a l)(hb:l<=4611686018427387904)(x:Int):ρ 257 [vS a l c,iI x] w λv w'=>v=vB (decide (x∈xs))/\w'=w:=by
 refine nI ?_
 have key:ρ 323 [vS a l c,iI x] w λv w'=>(∃n:Int,v=iI n/\decide (0<=n)=decide (x∈xs))/\w'=w:=by
  refine qk ?_;have hl:=hx.1;refine⟨λn w'=>∃j:Nat,n=j/\j<=l/\x∉xs.take j/\w'=w,λn _=>l-n.toNat,⟨0,rfl,ω,σ,rfl⟩,?_⟩;rintro _ n X⟨j,rfl,V,O,rfl⟩
  refine ae (λh=>?_) λh=>?_
  ·have h:j<l:=by simp_all
   obtain⟨y,W,U,rfl,u⟩:=hx.dQ h
   refine ax rfl h ⟨y,u _ sZZ,ae (λJ=>?_) λJ=>?_⟩
   ·grind
   ·have J:x≠y:=by simp_all
    refine⟨ξ,⟨j+1,σ,ω,?_,rfl⟩,bR h⟩
    simp_all[b_]
  grind
 refine key.mono ?_
 simp_all
theorem aaD(x:Int):ρ 283 [iI x] w λv w'=>v=vB false/\w'=w:=py ⟨σ,rfl⟩
theorem adv(x y:Int):ρ 277 [iI x,iI y] w λv w'=>v=vB (decide (x<y))/\w'=w:=by
 refine BP ((aaD x).mono ?_);rintro _ _⟨rfl,rfl⟩;exact⟨_,rfl,bB rfl ⟨rfl,rfl⟩⟩
theorem QX(hx:aX (hp w) xs a l)(hb:l<=4611686018427387904):ρ 258 [vS a l c] w λv w'=>(∃r:Bool,v=vB r/\(r=true↔SZ xs))/\hp w'=hp w:=by
 refine nK ?_;have hl:=hx.1
 refine⟨ξ,λn w'=>∃j:Nat,n=(l:Int)-1-j/\j<=l/\(∀i x y,l-1-j<=i->xs[i]? =some x->xs[i+1]? =some y->x<=y)/\hp w'=hp w,λn _=>n.toNat,⟨0,ω,ω,?_,rfl⟩,?_⟩
 ·simp_all
 rintro _ n w1⟨j,rfl,hj,u,hw⟩
 refine ae (λh=>?_) λh=>?_
 ·have h:=agQ h;have a4:j+1<l:=ω
  intro w2 hd;have J:=(m_ hd).trans hw;have e1:((l:Int)-1-j)=((l-1-j:Nat):Int):=ω
  have e2:(((l-1-j:Nat):Int)-1)=((l-2-j:Nat):Int):=ω
  rw[e1,e2];obtain⟨x,ad,a0,rfl,V⟩:=hx.dQ (by omega:l-1-j<l);obtain⟨y,a5,Z,e3,W⟩:=hx.dQ (by omega:l-2-j<l);cases e3;refine⟨λw'=>hp w'=hp w,J,ax rfl ω ⟨x,λw3 U=>V _ (W1 U),ξ,ax rfl ω ⟨y,λw3 U=>W _ (W1 U),(adv x y).mono ?_⟩⟩⟩;rintro _ _⟨rfl,rfl⟩
  refine⟨_,rfl,ae (λO=>?_) λO=>?_⟩
  ·have O:=agQ O;refine⟨⟨false,rfl,by simp;intro hs;have:=hs (l-2-j) y x Z (by grind);omega⟩,J⟩
  ·have O:=agO O;refine⟨ξ,⟨j+1,ω,ω,λi x' y' hi Y X=>?_,J⟩,by grind⟩
   by_cases e:i=l-2-j
   ·grind
   ·exact u i x' y' ω Y X
 ·have h:=agO h;exact⟨⟨true,rfl,by simp;exactλi x y Y X=>u i x y ω Y X⟩,hw⟩
theorem QY(hs:s.size<=4611686018427387904):ρ kW [.string s] w λv w'=>v=vB (!lj s)/\w'=w:=by
 refine yX ((W9 hs).mono ?_);simp
theorem FM(hx:aX (hp w) ss a l)(hb:l<=4611686018427387904)(hs:∀s∈ss,s.size<=4611686018427387904):ρ 255 [vS a l c,.func (.func kW) #[] #[]] w λv w'=>v=vB (!ss.all lj)/\w'=w:=by
 refine gZ ?_
 have key:ρ 322 [vS a l c,.func (.func kW) #[] #[]] w λv w'=>(∃n:Int,v=iI n/\decide (0<=n)= !ss.all lj)/\w'=w:=by
  refine jr ?_;have hl:=hx.1;refine⟨λn w'=>∃j:Nat,n=j/\j<=l/\(ss.take j).all lj=true/\w'=w,λn _=>l-n.toNat,⟨0,rfl,ω,rfl,rfl⟩,?_⟩;rintro _ n X⟨j,rfl,V,O,rfl⟩
  refine ae (λh=>?_) λh=>?_
  ·have h:j<l:=by simp_all
   obtain⟨y,W,u,rfl,J⟩:=hx.dQ h;refine ax rfl h ⟨y,J _ sZZ,a_.2 ⟨rfl,(QY (hs y (agL u))).mono ?_⟩⟩;rintro _ _⟨rfl,rfl⟩
   refine⟨_,rfl,ae (λU=>?_) λU=>?_⟩
   ·grind
   ·refine⟨ξ,⟨j+1,σ,ω,?_,rfl⟩,bR h⟩
    simp_all[agR,List.all_append]
  grind
 refine key.mono ?_
 simp_all
theorem QZ{l:List ByteArray}{x:ByteArray}:(l++[x]).Nodup↔l.Nodup/\x∉l:=by grind
theorem Ow(hx:aX (hp w) ss a l)(hb:l<=4611686018427387904):ρ 254 [vS a l c] w λv w'=>v=vB (decide ss.Nodup)/\Gr w w':=by
 refine FK ?_;have hl:=hx.1;refine nS (St.all w) λb w1 h=>?_;have h:=dW (κ:=ByteArray) h
 refine⟨λn w'=>∃(j:Nat)(m:List (ByteArray×Value)),n=j/\j<=l/\(∀s,(assoc s m).isSome=true↔s∈ss.take j)/\(∀s v,assoc s m=some v->∃k:Nat,v=iI (k:Int)/\k<=j)/\m.length<=j/\(m.length=j↔(ss.take j).Nodup)/\St w' (mapA b m::all w),λn _=>l-n.toNat,
  ⟨0,[],rfl,ω,by simp[assoc],λs v h=>by grind[assoc],σ,σ,h⟩,?_⟩
 clear h;rintro _ n w2⟨j,m,rfl,hj,W,a0,Y,O,h⟩
 refine ae (λu=>?_) λu=>?_
 ·have u:j<l:=by simp_all
  obtain⟨s,ad,V,rfl,J⟩:=hx.dQ u;refine ax rfl u ⟨s,J _ h.aP,(cr (κ:=ByteArray) aT (rfl:ai Ty _=.map _ _) Tryz.underlying9 rfl rfl h s).mono ?_⟩;rintro _ _⟨rfl,rfl⟩
  obtain⟨k,X,Z⟩:∃k:Nat,(assoc s m).getD (iI 0)=iI (k:Int)/\k<=j:=by
   cases ha:assoc s m with
   |none=>grind
   |some v=>grind
  refine⟨_,X,ξ,(dr (κ:=ByteArray) aT (rfl:ai Ty _=.map _ _) Tryz.underlying9 h s _).mono ?_⟩;rintro _ w4 h;have et:ss.take (j+1)=ss.take j++[s]:=by simp_all[agR]
  refine⟨ξ,⟨j+1,_,σ,ω,λs'=>?_,λs' v U=>?_,?_,?_,h⟩,bR u⟩
  ·grind[ft]
  ·rw[ft] at U
   split at U
   ·cases U;exact⟨k+1,σ,ω⟩
   grind
  ·grind[Hw]
  grind[Hw,QZ,assoc]
 ·have u:j=l:=by grind
  subst u;refine⟨_,aaC aT (rfl:ai Ty _=.map _ _) h,_,rfl,?_,h.aP⟩;rw[<-hl,ag9] at O;congr 1
  grind
end
abbrev dX:TypeId:=3
abbrev bL:=@Tryz.underlying3
abbrev W_:TypeId:=5
abbrev US:=@Tryz.underlying5
abbrev s8:TypeId:=9
abbrev pC:=@Tryz.underlying9
abbrev Xa:TypeId:=24
abbrev JK:TypeId:=39
abbrev bw:TypeId:=86
abbrev rq:TypeId:=170
abbrev rr:TypeId:=178
abbrev FN:TypeId:=188
abbrev cH:TypeId:=193
abbrev BY:=@Tryz.eqGuardType193
abbrev L6:=@Tryz.stoodInHeld193
abbrev L7:=@Tryz.isAgg193
abbrev L8:=@Tryz.sizeOf193
abbrev JL:TypeId:=194
abbrev Aa:TypeId:=197
abbrev Ox:TypeId:=203
abbrev Oy:TypeId:=235
abbrev dM:TypeId:=276
abbrev kF:TypeId:=288
abbrev L9:=@Tryz.eqGuardType288
abbrev L_:=@Tryz.stoodInHeld288
abbrev oz:TypeId:=297
abbrev JM:=@Tryz.eqGuardType297
abbrev JN:=@Tryz.stoodInHeld297
abbrev wV:TypeId:=373
abbrev FO:=@Tryz.stoodInHeld373
abbrev wW:TypeId:=376
abbrev gh:TypeId:=379
abbrev Q0:TypeId:=426
abbrev Oz:=@Tryz.underlying426
abbrev s_:FuncId:=96
abbrev iE:FuncId:=187
abbrev fu:FuncId:=188
abbrev FP:=@Tryz.func188
abbrev Hz:FuncId:=189
abbrev y6:FuncId:=190
abbrev BZ:FuncId:=283
abbrev l8:=@Tryz.func350
structure nf where
 name:ByteArray
 level:Int
structure aJ where
 left:Int
 right:List Int
 level:Int
structure ah where
 terms:List nf
 cR:List ByteArray
 levels:List Int
 start:Int
 prods:List aJ
instance:uj nf:={ n:=2,rd:=λ_ t vs=>vs=[.string t.name,iI t.level],mono:=λ_ h=>h,len:=λh=>by simp_all }
instance:uj aJ:={ n:=3,rd:=λh p vs=>∃a l c,vs=[iI p.left,vS a l c,iI p.level]/\l<=c/\aX h p.right a l,mono:=λs ⟨a,l,c,h1,h2,h3⟩=>⟨a,l,c,h1,h2,h3.mono s⟩,len:=λ⟨_,_,_,h,_⟩=>by simp_all }
structure GA where
 ta:aiz
 tl:Nat
 tc:Nat
 na:aiz
 nl:Nat
 nc:Nat
 la:aiz
 ll:Nat
 lc:Nat
 s:Int
 pa:aiz
 pl:Nat
 pc:Nat
def GA.cells(x:GA):List Value:=[vS x.ta x.tl x.tc,vS x.na x.nl x.nc,vS x.la x.ll x.lc,iI x.s,vS x.pa x.pl x.pc]
structure gR(h:Hp)(g:ah)(x:GA):Prop where
 t:aX h g.terms x.ta x.tl
 n:aX h g.cR x.na x.nl
 l:aX h g.levels x.la x.ll
 s:x.s=g.start
 p:aX h g.prods x.pa x.pl
 tc:x.tl<=x.tc
 nc:x.nl<=x.nc
 lc:x.ll<=x.lc
 pc:x.pl<=x.pc
theorem gR.mono{h h':Hp}{g:ah}{x:GA}(s:sub h h')(r:gR h g x):gR h' g x:=⟨r.t.mono s,r.n.mono s,r.l.mono s,r.s,r.p.mono s,r.tc,r.nc,r.lc,r.pc⟩
instance:uj ah:={ n:=5,rd:=λh g vs=>∃x:GA,vs=x.cells/\gR h g x,mono:=λs ⟨x,h1,h2⟩=>⟨x,h1,h2.mono s⟩,len:=λ⟨_,h,_⟩=>by rw[h];rfl }
def lq(g:ah):Prop:=g.terms.length<=17592186044416/\g.cR.length<=17592186044416/\g.levels.length<=17592186044416/\g.prods.length*40<=140737488351232/\(∀t∈g.terms,t.name.size<=140737488351232/\anyI t.level)/\(∀s∈g.cR,s.size<=140737488351232)/\(∀p∈g.prods,p.right.length<=17592186043904)
theorem qQ{L:List aE}{b:Nat}:∀(vs us:List Value)(i:Nat){w:aiA},i+vs.length<=us.length->St w (az b us::L)->St (dI w ⟨b,0,none⟩ i vs) (az b (us.take i++vs++us.drop (i+vs.length))::L)
 |[],us,i,w,_,h=>by simp_all[dI]
 |v::vs,us,i,w,hl,h=>by
  have h1:=h.adj i v
  have h2:=qQ vs (us.set i v) (i+1) (by grind) h1
  simp only[ahr] at hl
  have e:(us.set i v).take (i+1)++vs++(us.set i v).drop (i+1+vs.length)=us.take i++v::vs++us.drop (i+(vs.length+1)):=by
   rw[List.drop_set_of_lt ω,List.take_set,agR,ahW _ _ (by grind)]
   have:us[i]? =some (us[i]'ω):=agM _
   rw[this]
   have e2:i-(us.take i).length=0:=by grind
   grind
  simp_all[dI,ak]
theorem uu{w:aiA}{L:List aE}{b:Nat}{us:List Value}(h:St w (az b us::L)):∀(vs:List Value)(i:Nat),i+vs.length<=us.length->(∀v∈vs,aK v=true)->mQ w ⟨b,0,none⟩ i vs
 |[],i,_,_=>trivial
 |v::vs,i,hl,h1=>by
  simp only[ahr] at hl
  refine⟨h1 v σ,⟨us[i]'ω,?_⟩,?_,uu h vs (i+1) ω λu hu=>h1 u (by grind)⟩
  ·rw[ak,h.cell];simp
  ·rw[ak];exact h.frozen i none
theorem aL{w:aiA}{L:List aE}{b:Nat}{us vs:List Value}{k:aiA->Prop}(h:St w (az b us::L))(hl:us.length=vs.length)(h1:∀v∈vs,aK v=true)(hk:∀w',St w' (az b vs::L)->k w'):bA w ⟨b,0,none⟩ vs k:=by
 refine⟨uu h vs 0 ω h1,λw' u=>?_⟩;subst u;have J:=qQ vs us 0 ω h;refine hk _ ?_
 grind
theorem dy{a:aiz}{len cap lo sz:Nat}{k:aiz->Nat->Nat->Prop}(h1:lo<=len)(h2:len<=cap)(hk:k (fK a lo cap sz) (len-lo) (cap-lo)):lU a len cap (some (lo:Int)) none none sz k:=
 ⟨.inl rfl,.inl rfl,⟨σ,by simp_all⟩,by simpa using hk⟩
def Ax(g:ah)(added:Nat):Prop:=g.terms[0]? =some ⟨.empty,0⟩/\added<g.cR.length/\g.terms.length<=65/\g.cR.length<=64+added/\g.terms.length-1+(g.cR.length-added)<=64/\
 (∀t∈g.terms.drop 1,ur t.name=true/\0<=t.level/\t.level<=g.levels.length)/\(∀(i:Nat) v,g.levels[i]? =some v->1<=v/\v<=3/\∃t∈g.terms.drop 1,t.level=(i:Int)+1)/\
 ((g.terms.drop 1).map nf.name).Nodup/\(g.cR.drop added).Nodup/\∀s∈g.cR.drop added,lj s=true
section
variable{w:aiA}{L:List aE}{g:ah}{x:GA}
theorem aaE(w:aiA)(xo yo:Operand)(s e:ByteArray)(n m:Int):Sem.run Tryz.prog (q9 .neq kF xo yo (.agg #[.string s,iI n]) (.agg #[.string e,iI m])) w=.ok (vB (!(decide (s=e)&&(n==m)))) w:=by
 unfold q9;rw[Sem.run_bind,run_eqGuard_agg w _ _ _ _ _ _ L9];simp only[Result.andThen_ok];have ht:Tryz.prog.underlying kF=some (.struct (Tryz.prog.fieldsOf kF)):=by rfl
 have hi:Tryz.prog.underlying dX=some (.int .i64):=bL;have U:Tryz.prog.underlying s8=some .string:=pC;have hf:(Tryz.prog.fieldsOf kF).toList=[{ name:="Name",type:=s8,offset:=0,embedded:=false,tag:="",pkgPath:="",byteOffset:=0 },{ name:="Level",type:=dX,offset:=1,embedded:=false,tag:="",pkgPath:="",byteOffset:=16 }]:=by rfl
 have W:∀(v u:Value)(w:aiA),(part s8 #[v,u] 0).run Tryz.prog w=.ok v w:=λv u w=>by rfl
 have V:∀(v u:Value)(w:aiA),(part dX #[v,u] 1).run Tryz.prog w=.ok u w:=λv u w=>by rfl
 have J:∀d w,(Op.equalIn (d+1) s8 (.string s) (.string e)).run Tryz.prog w=.ok (s.toList==e.toList) w:=λd w=>run_equalIn_string w d _ _ _ U;have O:∀d w,(Op.equalIn (d+1) dX (iI n) (iI m)).run Tryz.prog w=.ok (n==m) w:=λd w=>run_equalIn_int w d _ _ _ _ _ hi
 have key:(Op.equalIn (9998+1+1) kF (.agg #[.string s,iI n]) (.agg #[.string e,iI m])).run Tryz.prog w=.ok (decide (s=e)&&(n==m)) w:=by
  rw[run_equalIn_agg w (9998+1) kF _ _ ht L_,hf];unfold Op.eqFields;simp only[ne_eq,String.reduceEq,not_false_eq_true,if_true,Sem.run_bind,W,Result.andThen_ok,J,W6]
  cases hq:decide (s=e)
  ·simp
  ·unfold Op.eqFields;simp only[ne_eq,String.reduceEq,not_false_eq_true,if_true,Sem.run_bind,V,Result.andThen_ok,O,Bool.not_true,Bool.false_eq_true,if_false]
   cases hn:(n==m)
   ·simp
   rfl
 rw[run_neq_struct]
 simp_all
end
theorem aaF{w:aiA}{L:List aE}{a:aiz}{l c:Nat}{ss:List ByteArray}(h:St w (own 1 a l c (ss.map λs=>Value.string s)::L)):aX (hp w) ss a l:=by
 have hl:=fk h;obtain⟨u,s,ha⟩:=h.first;exact(h_ (by simp_all) (bH ha)).mono s
section
variable{w:aiA}{L:List aE}{g:ah}{x:GA}
theorem KR(hg:gR (hp w) g x)(hb:lq g)(added:Nat)(ha:added<=1):
  ρ 164 [.agg ⟨x.cells⟩,iI (added:Int)] w λv w'=>(∃r:Bool,v=vB r/\(r=true↔Ax g added))/\Gr w w':=by
 refine DI ?_;refine ag (St.all w) λk1 Y h=>?_;have gw:Gr w Y:=h.aP;have hg:=hg.mono gw;have rb:aq (hp Y) ⟨k1,0,none⟩ x.cells:=h.row;obtain⟨b1,b2,b3,b4,b5,b6,b7⟩:=hb;have tl:=hg.t.1;have nl:=hg.n.1;have ll:=hg.l.1;have J:∀w',sub (hp Y) (hp w')->Gr w w':=λw' h=>gw.trans h;have h:=St.all Y;unfold Proofs.YtaoaemnefghnbaaGreatDoor.all at h;have c0:=λ(w':aiA)(s:sub (hp Y) (hp w'))=>rb.cell0 (v:=vS x.ta x.tl x.tc) s;have c1:=λ(w':aiA)(s:sub (hp Y) (hp w'))=>rb.cell s (j:=1) (v:=vS x.na x.nl x.nc) rfl;have c2:=λ(w':aiA)(s:sub (hp Y) (hp w'))=>rb.cell s (j:=2) (v:=vS x.la x.ll x.lc) rfl;generalize hp Y=H at*;have s1:sub H (hp Y):=h.has;have cu:Prop:=True
 refine⟨λb w'=>(b=false↔(g.terms[0]? =some ⟨.empty,0⟩/\added<g.cR.length/\g.terms.length<=65/\g.cR.length<=64+added/\g.terms.length-1+(g.cR.length-added)<=64))/\w'=Y,?_,?_⟩
 ·refine⟨_,_,_,c0 _ s1,ae (λU=>⟨?_,rfl⟩) λU=>?_⟩
  ·simp_all
  have U:0<x.tl:=by grind
  obtain⟨W,ad,vs,ht1,a6,a0,V⟩:=hg.t.get U;have V:vs=[.string W.name,iI W.level]:=V;subst V;have a0:aq H ad [.string W.name,iI W.level]:=by simp_all[bh,Addr.add]
  have e0:(g.terms[0]? =some ⟨.empty,0⟩)↔(W.name=.empty/\W.level=0):=by
   rw[ht1]
   constructor
   ·simp_all
   ·rintro⟨e1,e2⟩;cases W;grind
  rw[e0];refine⟨_,_,_,c0 _ s1,⟨ad,a6,ω,ω,?_⟩⟩;have ez:ad.add (ff (Int.toNat 0) 2)=ad:=by rfl
  rw[ez]
  refine⟨_,_,a0.at s1 rfl,_,aaE _ _ _ _ _ _ _,_,rfl,ae (λO=>⟨?_,rfl⟩) λO=>?_⟩
  ·simp only[aid,Bool.and_eq_false_iff,aix,beq_eq_false_iff_ne] at O;have:¬(W.name=.empty/\W.level=0):=λe=>O.elim (λh=>h e.1) (λh=>h e.2)
   simp_all
  have O:W.name=ByteArray.mk (Array.mk [])/\W.level=0:=by simp_all
  have O:W.name=.empty/\W.level=0:=O
  refine⟨_,_,_,c1 _ s1,ae (λX=>⟨?_,rfl⟩) λX=>?_⟩
  ·grind
  have X:=agO X
  refine⟨_,_,_,c0 _ s1,ae (λh4=>⟨?_,rfl⟩) λh4=>?_⟩
  ·grind
  have h4:=agO h4
  refine⟨_,_,_,c1 _ s1,ξ,ae (λh5=>⟨?_,rfl⟩) λh5=>?_⟩
  ·grind
  have h5:=agO h5;refine⟨_,_,_,c0 _ s1,ξ,_,_,_,c1 _ s1,ξ,ξ,?_,rfl⟩
  grind
 rintro _ b _⟨bz,rfl⟩
 refine ae (λam=>?_) λav=>?_
 ·subst am;refine⟨⟨false,rfl,?_⟩,J _ s1⟩
  constructor
  ·simp
  ·rintro⟨p1,p2,p3,p4,p5,_⟩
   grind
 obtain⟨p1,p2,p3,p4,p5⟩:=bz.1 av;have hT:1<=x.tl:=by grind
 refine nS h λa5 w3 h=>?_;have h:=dW (κ:=Int) h;refine⟨_,_,_,c0 _ h.aP,dy (lo:=1) hT hg.tc ?_⟩;have bl:=hg.t.drop hT hg.tc;have cx:(g.terms.drop 1).length=x.tl-1:=bl.1
 --the terminals
 refine⟨λo l' c' n w'=>∃(j:Nat)(m:List (Int×Value)),n=j/\j<=x.tl-1/\j=l'/\(∀t∈(g.terms.drop 1).take j,ur t.name=true/\0<=t.level/\t.level<=g.levels.length)/\(∀n:Int,assoc n m=if∃t∈(g.terms.drop 1).take j,t.level=n then some (iI 1) else none)/\
   St w' [own 1 o j c' (((g.terms.drop 1).take j).map λt=>Value.string t.name),mapA a5 m,has H],λ_ _ _ n _=>x.tl-1-n.toNat,⟨0,[],rfl,ω,rfl,σ,by simp[assoc],aI 1 h⟩,?_⟩
 clear h;rintro _ a7 _ bi n2 w4⟨j,m,rfl,hj,rfl,bP,hm,h⟩;have s4:sub H (hp w4):=aC 2 h.l
 refine ae (λu=>?_) λu=>?_
 ·have u:j<x.tl-1:=by simp_all
  obtain⟨t,ad,vs,ht1,a6,a0,V⟩:=bl.get u;have V:vs=[.string t.name,iI t.level]:=V;subst V;have cg:t∈g.terms.drop 1:=agL ht1;have bT:t∈g.terms:=List.mem_of_mem_drop cg;obtain⟨q1,q2⟩:=b5 t bT;have et:(g.terms.drop 1).take (j+1)=(g.terms.drop 1).take j++[t]:=by simp_all[agR]
  refine⟨ad,a6,ω,ω,?_⟩;rw[agZ];refine⟨_,_,a0.at s4 rfl,ag h λba w5 h=>aL h rfl (by simp[aK]) λw6 h=>?_⟩
  refine⟨λb w'=>(b=false↔(ur t.name=true/\0<=t.level/\t.level<=g.levels.length))/\St w' [az ba [.string t.name,iI t.level],own 1 a7 j bi (((g.terms.drop 1).take j).map λt=>Value.string t.name),mapA a5 m,has H],?_,?_⟩
  ·refine⟨_,h.cell 0,(W8 ω).mono ?_⟩;rintro _ w7⟨rfl,c8⟩;have h:=h.gr c8
   refine⟨_,rfl,ae (λU=>⟨?_,h⟩) λU=>?_⟩
   ·simp_all
   have U:ur t.name=true:=by simp_all
   have cl:w7.cell? ((⟨ba,0,none⟩:Addr).add 1)=some (iI t.level):=h.row.cell sZZ rfl
   refine⟨_,cl,ae (λO=>⟨?_,h⟩) λO=>?_⟩
   ·grind
   have O:=agO O;refine⟨_,cl,_,_,_,c2 _ (aC 3 h.l),?_,h⟩
   simp_all
  ·clear h;rintro _ b4 w8⟨ch,h⟩
   refine ae (λam=>?_) λav=>?_
   ·subst am;refine⟨⟨false,rfl,?_⟩,J _ (aC 3 h.l)⟩
    constructor
    ·simp
    ·rintro⟨_,_,_,_,_,p6,_⟩
     grind
   have ci:=ch.1 av;refine⟨_,h.cell 0,ag h λk26 w9 h=>?_⟩;refine(aS aT (rfl:ai Ty _=.slice _) (rfl:ai Ty _=.slice _) rfl rfl rfl (h.pick 5 [0,2,1,3,4]) rfl (by simp[aK]) (by grind) ω).mono ?_;rintro _ ck⟨a',c',rfl,h⟩;have h:=h.pick 5 [3,0,2,4];refine⟨_,_,_,rfl,_,(af (b:=ba) (vs:=[.string t.name,iI t.level]) 2 h.l).cell sZZ (j:=1) rfl,?_⟩;refine(dr (κ:=Int) aT (rfl:ai Ty _=.map _ _) bL h t.level (iI 1)).mono ?_;rintro _ cz h
   refine⟨ξ,⟨j+1,cV t.level (iI 1) m,σ,ω,rfl,λt' cp=>?_,λn=>?_,?_⟩,by grind⟩
   ·grind
   ·rw[ft,hm,et]
    by_cases e:n=t.level
    ·simp_all
    ·rw[agW e];have:(∃t'∈(g.terms.drop 1).take j++[t],t'.level=n)↔∃t'∈(g.terms.drop 1).take j,t'.level=n:=by grind
     simp only[this]
   ·have e:(((g.terms.drop 1).take j).map λt=>Value.string t.name)++[.string t.name]=((g.terms.drop 1).take (j+1)).map λt=>Value.string t.name:=by simp_all
    rw[<-e];exact h.pick 4 [1,0,3]
 have u:j=x.tl-1:=by grind
 subst u;rw[ag4 ω] at bP hm h;refine⟨_,_,_,c2 _ s4,λn w'=>∃i:Nat,n=i/\i<=x.ll/\(∀(k:Nat) v,k<i->g.levels[k]? =some v->1<=v/\v<=3/\∃t∈g.terms.drop 1,t.level=(k:Int)+1)/\St w' [own 1 a7 (x.tl-1) bi ((g.terms.drop 1).map λt=>Value.string t.name),mapA a5 m,has H],λn _=>x.ll-n.toNat,⟨0,rfl,ω,λk v hk=>ω,h⟩,?_⟩;clear h s4;rintro _ n7 a8⟨i,rfl,hi,bb,h⟩;have Z:sub H (hp a8):=aC 2 h.l
 have aa:∀{v:Int},g.levels[i]? =some v->¬(1<=v/\v<=3/\∃t∈g.terms.drop 1,t.level=(i:Int)+1)->(∃r:Bool,vB false=vB r/\(r=true↔Ax g added))/\Gr w a8:=λ{v} hv hn=>by
  refine⟨⟨false,rfl,?_⟩,J _ Z⟩
  constructor
  ·simp
  ·rintro⟨_,_,_,_,_,_,p7,_⟩
   grind
 refine ae (λu=>?_) λu=>?_
 ·have u:i<x.ll:=by simp_all
  obtain⟨v,ad,a4,c9,cc⟩:=hg.l.dQ u;refine⟨ad,c9,ω,ω,?_⟩;rw[agZ];refine⟨_,cc _ Z,ae (λU=>aa a4 (by grind)) λU=>ae (λO=>aa a4 (by grind)) λO=>⟨ξ,?_⟩⟩;refine(cr (κ:=Int) aT (rfl:ai Ty _=.map _ _) bL rfl rfl (h.pick 3 [1]) ((i:Int)+1)).mono ?_;rintro _ _⟨rfl,rfl⟩;rw[hm]
  by_cases he:∃t∈g.terms.drop 1,t.level=(i:Int)+1
  ·rw[ag0 he];refine⟨_,rfl,bB rfl ⟨ξ,⟨i+1,σ,ω,λk v' hk c6=>?_,h⟩,bR u⟩⟩
   by_cases e:k=i
   ·grind
   ·exact bb k v' ω c6
  ·rw[agW he];exact⟨_,rfl,fM rfl (aa a4 (λh=>he h.2.2))⟩
 have u:i=x.ll:=by grind
 subst u;have bc:∀(k:Nat) v,g.levels[k]? =some v->1<=v/\v<=3/\∃t∈g.terms.drop 1,t.level=(k:Int)+1:=λk v hv=>bb k v (by grind) hv;refine⟨_,_,_,c1 _ Z,dy (lo:=added) ω hg.nc ?_⟩;have be:=hg.n.drop (k:=added) ω hg.nc;have e1:((g.terms.drop 1).map λt=>Value.string t.name)=((g.terms.drop 1).map nf.name).map λs=>Value.string s:=by rw[air];rfl
 rw[e1] at h;have rt:aX (hp a8) ((g.terms.drop 1).map nf.name) a7 (x.tl-1):=aaF h;refine(Ow rt ω).mono ?_;rintro _ cd⟨rfl,c7⟩;have al:sub H (hp cd):=Z.trans c7
 refine⟨_,rfl,ae (λU=>?_) λU=>?_⟩
 ·have U:=agQ U;refine(Ow (be.mono al) ω).mono ?_;rintro _ ca⟨rfl,c5⟩;have a9:sub H (hp ca):=al.trans c5
  refine⟨_,rfl,ae (λO=>?_) λO=>?_⟩
  ·have O:=agQ O;refine(FM (be.mono a9) ω (λs hs=>by grind)).mono ?_;rintro _ _⟨rfl,rfl⟩;refine⟨_,rfl,⟨_,rfl,?_⟩,J _ a9⟩;rw[Bool.not_not,ah4];exact⟨λX=>⟨p1,p2,p3,p4,p5,bP,bc,U,O,X⟩,λ⟨_,_,_,_,_,_,_,_,_,X⟩=>X⟩
  ·have O:=agO O;refine⟨⟨false,rfl,?_⟩,J _ a9⟩;exact⟨λh=>(by grind),λ⟨_,_,_,_,_,_,_,_,X,_⟩=>absurd X O⟩
 ·have U:=agO U;refine⟨⟨false,rfl,?_⟩,J _ al⟩;exact⟨λh=>(by grind),λ⟨_,_,_,_,_,_,_,X,_⟩=>absurd X U⟩
end
def wX(acc:List Int)(x:Int):List Int:=if x∈acc then acc else acc++[x]
def fv(l:List Int):List Int:=l.foldl wX []
theorem OA{l:List Int}{j:Nat}{x:Int}(h:l[j]? =some x):fv (l.take (j+1))=wX (fv (l.take j)) x:=by simp_all[fv,agR]
theorem Xb{acc:List Int}{x y:Int}:y∈wX acc x↔y∈acc\/y=x:=by grind[wX,id]
theorem Xc(acc:List Int)(x:Int):acc.length<=(wX acc x).length/\(wX acc x).length<=acc.length+1:=by grind[wX]
theorem Q1{acc:List Int}(x:Int)(h:acc.Nodup):(wX acc x).Nodup:=by grind[wX,List.nodup_append]
theorem Ay(l:List Int):∀acc,acc.Nodup->(l.foldl wX acc).Nodup/\(∀y,y∈l.foldl wX acc↔y∈acc\/y∈l)/\(l.foldl wX acc).length<=acc.length+l.length:=by
 induction l with
 |nil=>simp
 |cons x l ih=>
  intro acc h;obtain⟨u,J,O⟩:=ih _ (Q1 x h)
  refine⟨u,λy=>?_,?_⟩
  ·show y∈l.foldl wX (wX acc x)↔_
   rw[J,Xb,ag6,or_assoc]
  grind[wX,Xc,List.length_cons]
theorem Ma(l:List Int):(fv l).Nodup:=(Ay l [] σ).1
theorem Q2{l:List Int}{y:Int}:y∈fv l↔y∈l:=by simp[Ay,fv]
theorem HA(l:List Int):(fv l).length<=l.length:=by grind[Ay,fv]
def ah.T(g:ah):Nat:=g.terms.length
def ah.N(g:ah):Nat:=g.cR.length
def nV(g:ah)(added:Nat)(s:Int):Prop:=1<=s/\s<g.T+g.N/\¬((g.T:Int)<=s/\s<g.T+added)
def HB(g:ah)(added:Nat)(p:aJ):Prop:=((g.T:Int)+added<=p.left/\p.left<g.T+g.N/\0<=p.level/\p.level<=g.levels.length)/\∀s∈p.right,nV g added s
def rD(g:ah)(added:Nat):List Int:=fv ((g.prods.drop added).map aJ.left)
def HC(g:ah)(added:Nat):Prop:=added<g.prods.length/\g.prods.length<=96+added/\(∀p∈g.prods.drop added,HB g added p)/\
 ((rD g added).length:Int)=(g.N:Int)-added/\(g.T:Int)+added<=g.start/\g.start<g.T+g.N
def mB(g:ah):Prop:=Ax g 0/\HC g 0/\SZ (rD g 0)
def aw(g:ah):Prop:=g.cR[0]? =some .empty/\Ax g 1/\HC g 1/\∃p,g.prods[0]? =some p/\p.left=(g.T:Int)/\p.right=[g.start]/\p.level=0
section
variable{w:aiA}{L:List aE}{g:ah}{x:GA}
theorem Ab(hg:gR (hp w) g x)(hb:lq g)(added:Nat)(ha:added<=1):
  ρ 165 [.agg ⟨x.cells⟩,iI (added:Int)] w λv w'=>∃(a:aiz)(l c:Nat)(xs:List Int)(r:Bool),v=.tuple #[vS a l c,vB r]/\(r=true↔HC g added)/\(r=true->xs=rD g added)/\St w' (own 1 a l c (iv xs)::all w):=by
 refine wQ ?_;refine ag (St.all w) λk1 V h=>?_;have gw:Gr w V:=h.aP;have hg:=hg.mono gw;have rb:aq (hp V) ⟨k1,0,none⟩ x.cells:=h.row;obtain⟨b1,b2,b3,b4,b5,b6,b7⟩:=hb;have tl:=hg.t.1;have nl:=hg.n.1;have ll:=hg.l.1;have pl:=hg.p.1;have O:∀w'(A:aE),St w' [A,has (hp V)]->St w' [A,has (hp w)]:=λw' A h=>h.eM (bF gw);have h:=St.all V;unfold Proofs.YtaoaemnefghnbaaGreatDoor.all at h;have c0:=λ(w':aiA)(s:sub (hp V) (hp w'))=>rb.cell0 (v:=vS x.ta x.tl x.tc) s;have c1:=λ(w':aiA)(s:sub (hp V) (hp w'))=>rb.cell s (j:=1) (v:=vS x.na x.nl x.nc) rfl;have c2:=λ(w':aiA)(s:sub (hp V) (hp w'))=>rb.cell s (j:=2) (v:=vS x.la x.ll x.lc) rfl;have c3:=λ(w':aiA)(s:sub (hp V) (hp w'))=>rb.cell s (j:=3) (v:=iI x.s) rfl;have c4:=λ(w':aiA)(s:sub (hp V) (hp w'))=>rb.cell s (j:=4) (v:=vS x.pa x.pl x.pc) rfl;unfold Proofs.YtaoaemnefghnbaaGreatDoor.all;generalize hp V=H at*;have s1:sub H (hp V):=h.has;have hT:g.T=x.tl:=tl;have hN:g.N=x.nl:=nl
 have no:∀w',sub H (hp w')->¬HC g added->∃(a:aiz)(l c:Nat)(xs:List Int)(r:Bool),Value.tuple (Array.mk [zS,vB false])=.tuple #[vS a l c,vB r]/\(r=true↔HC g added)/\(r=true->xs=rD g added)/\St w' [own 1 a l c (iv xs),has (hp w)]:=λw' s hn=>
  ⟨none,0,0,[],false,rfl,⟨λh=>(by grind),λh=>absurd h hn⟩,λh=>(by grind),O _ _ (aI 1 (bF s))⟩
 refine⟨λb w'=>(b=false↔(added<g.prods.length/\g.prods.length<=96+added))/\w'=V,?_,?_⟩
 ·refine⟨_,_,_,c4 _ s1,ae (λJ=>⟨?_,rfl⟩) λJ=>?_⟩
  ·grind
  have J:=agO J;refine⟨_,_,_,c4 _ s1,ξ,?_,rfl⟩
  grind
 rintro _ b _⟨aa,rfl⟩
 refine ae (λa6=>?_) λa7=>?_
 ·subst a6;refine no _ s1 ?_;rintro⟨p1,p2,_⟩
  grind
 obtain⟨p1,p2⟩:=aa.1 a7;refine⟨_,_,_,c0 _ s1,_,_,_,c1 _ s1,ξ,_,_,_,c0 _ s1,ξ,_,_,_,c4 _ s1,dy (lo:=added) ω hg.pc ?_⟩;have a8:=hg.p.drop (k:=added) ω hg.pc;have c7:=a8.1
 refine⟨λo l' c' n w'=>∃j:Nat,n=j/\j<=x.pl-added/\(fv (((g.prods.drop added).map aJ.left).take j)).length=l'/\(∀p∈(g.prods.drop added).take j,HB g added p)/\
   St w' [own 1 o l' c' (iv (fv (((g.prods.drop added).map aJ.left).take j))),has H],λ_ _ _ n _=>x.pl-added-n.toNat,⟨0,rfl,ω,rfl,σ,aI 1 h⟩,?_⟩
 clear h;rintro _ o8 _ cp n1 w3⟨j,rfl,hj,rfl,al,h⟩;have s3:sub H (hp w3):=aC 1 h.l;have bb:(fv (((g.prods.drop added).map aJ.left).take j)).length<=j:=ahq (HA _) (by simp_all)
 refine ae (λW=>?_) λW=>?_
 ·have W:j<x.pl-added:=by simp_all
  obtain⟨p,ad,vs,bl,bz,be,ra,Z,rc,rfl,cg,am⟩:=a8.get W;have a4:p∈g.prods.drop added:=agL bl;have ba:((g.prods.drop added).map aJ.left)[j]? =some p.left:=by simp_all
  have cd:=am.1;have ch:=b7 p (List.mem_of_mem_drop a4);refine⟨ad,bz,ω,ω,?_⟩;rw[agZ];refine⟨_,_,_,_,_,be.at s3 rfl,ag h λc5 w4 h=>aL h rfl (by simp[aK]) λw5 h=>?_⟩;have X:∀w',sub (hp w5) (hp w')->aq (hp w') ⟨c5,0,none⟩ [iI p.left,vS ra Z rc,iI p.level]:=λw' s=>h.row.mono s;have s5:sub H (hp w5):=aC 2 h.l;have d0:=λ(w':aiA)(s:sub (hp w5) (hp w'))=>(X w' s).cell0 (v:=iI p.left) sZZ;have d1:=λ(w':aiA)(s:sub (hp w5) (hp w'))=>(X w' s).cell sZZ (j:=1) (v:=vS ra Z rc) rfl;have d2:=λ(w':aiA)(s:sub (hp w5) (hp w'))=>(X w' s).cell sZZ (j:=2) (v:=iI p.level) rfl
  refine⟨λb w'=>(b=false↔((g.T:Int)+added<=p.left/\p.left<g.T+g.N/\0<=p.level/\p.level<=g.levels.length))/\w'=w5,?_,?_⟩
  ·refine⟨_,d0 _ sZZ,ae (λJ=>⟨?_,rfl⟩) λJ=>?_⟩
   ·grind
   have J:=agO J
   refine⟨_,d0 _ sZZ,ae (λU=>⟨?_,rfl⟩) λU=>?_⟩
   ·grind
   have U:=agO U
   refine⟨_,d2 _ sZZ,ae (λY=>⟨?_,rfl⟩) λY=>?_⟩
   ·grind
   have Y:=agO Y;refine⟨_,d2 _ sZZ,_,_,_,c2 _ s5,?_,rfl⟩
   simp_all
  rintro _ b2 w6⟨av,rfl⟩
  refine ae (λa6=>?_) λa7=>?_
  ·subst a6;refine no _ s5 ?_;rintro⟨_,_,p3,_⟩;have:=av.2 (p3 p a4).1;simp_all
  have a9:=av.1 a7;refine⟨_,_,_,d1 _ sZZ,λn w'=>∃i:Nat,n=i/\i<=Z/\(∀(k:Nat) s,k<i->p.right[k]? =some s->nV g added s)/\w'=w6,λn _=>Z-n.toNat,⟨0,rfl,ω,λk s hk=>ω,rfl⟩,?_⟩;rintro _ n8 w7⟨i,rfl,hi,ca,rfl⟩
  refine ae (λu=>?_) λu=>?_
  ·have u:i<Z:=by simp_all
   obtain⟨s,cc,bc,rfl,bi⟩:=am.dQ u;have a5:¬nV g added s->_:=λhn=>no w7 s5 (λhq=>hn ((hq.2.2.1 p a4).2 s (agL bc)))
   have good:nV g added s->aA ((i:Int)+1)/\(∃i':Nat,(i:Int)+1=i'/\i'<=Z/\(∀(k:Nat) s,k<i'->p.right[k]? =some s->nV g added s)/\w7=w7)/\Z-((i:Int)+1).toNat<Z-(i:Int).toNat:=λck=>by
    refine⟨ξ,⟨i+1,σ,ω,λk s' hk ci=>?_,rfl⟩,bR u⟩
    grind
   refine ax rfl u ⟨s,bi _ s5,ae (λJ=>a5 ?_) λJ=>ae (λU=>a5 ?_) λU=>⟨_,_,_,c0 _ s5,ae (λY=>ae (λh4=>a5 ?_) λh4=>good ?_) λY=>good ?_⟩⟩
   ·have:=agQ J;grind[nV]
   ·have:=agQ U;grind[nV]
   ·have Y:=agQ Y;have h4:=agQ h4;grind[nV]
   ·have J:=agO J;have U:=agO U;have Y:=agQ Y;grind[of_decide_eq_false,nV]
   grind[of_decide_eq_false,nV]
  have u:i=Z:=by grind
  subst u;have bT:HB g added p:=⟨a9,λs hs=>by grind[List.mem_iff_getElem,List.getElem?_eq_getElem]⟩;have a0:∀q∈(g.prods.drop added).take (j+1),HB g added q:=λq hq=>by grind[List.take_add_one]
  have et:=OA ba;refine⟨_,d0 _ sZZ,(QW (iDZ (h.pick 3 [1])) ω p.left).mono ?_⟩;rintro _ _⟨rfl,rfl⟩
  refine⟨_,rfl,ae (λJ=>?_) λJ=>?_⟩
  ·have J:p.left∉fv (((g.prods.drop added).map aJ.left).take j):=by simp_all
   refine⟨_,d0 _ sZZ,ag h λc8 w9 h=>?_⟩;refine(aS aT (rfl:ai Ty _=.slice _) (rfl:ai Ty _=.slice _) rfl rfl rfl (h.pick 4 [0,2,3]) rfl (by simp[aK]) (by grind) ω).mono ?_;rintro _ c9⟨a',c',rfl,h⟩;have e2:fv (((g.prods.drop added).map aJ.left).take (j+1))=fv (((g.prods.drop added).map aJ.left).take j)++[p.left]:=by simp_all[wX]
   refine⟨_,_,_,rfl,ξ,⟨j+1,σ,ω,by simp_all,a0,?_⟩,by dsimp only;omega⟩;rw[e2];have e3:∀l:List Int,iv (l++[p.left])=iv l++[iI p.left]:=λl=>by simp[iv]
   rw[e3];exact h.pick 3 [0,2]
  ·have J:p.left∈fv (((g.prods.drop added).map aJ.left).take j):=by simp_all
   have e2:fv (((g.prods.drop added).map aJ.left).take (j+1))=fv (((g.prods.drop added).map aJ.left).take j):=by simp_all[wX]
   refine⟨ξ,⟨j+1,σ,ω,by grind,a0,?_⟩,by grind⟩;rw[e2];exact h.pick 3 [1,2]
 have W:j=x.pl-added:=by grind
 subst W;have el:((g.prods.drop added).map aJ.left).take (x.pl-added)=(g.prods.drop added).map aJ.left:=ag4 (by simp_all);rw[el] at h bb ⊢;rw[ag4 ω] at al;intro bP hd;have h:=h.drawn hd;have c6:sub H (hp bP):=aC 1 h.l
 refine⟨λw'=>sub H (hp w'),c6,_,_,_,λw' s=>c1 _ s,ξ,ae (λJ=>?_) λJ=>?_⟩
 ·have J:((rD g added).length:Int)=(x.nl:Int)-added:=by simp_all[rD]
  refine⟨_,λw' s=>c3 _ s,ae (λU=>?_) λU=>?_⟩
  ·have U:=agQ U;refine⟨_,λw' s=>c3 _ s,_,_,_,_,_,rfl,?_,λ_=>rfl,O _ _ h⟩;rw[ahc];have hs:=hg.s
   constructor
   ·intro Y;exact⟨p1,p2,al,ω,ω,ω⟩
   ·rintro⟨_,_,_,_,_,q⟩;omega
  ·have U:=agO U;have hs:=hg.s;exact⟨_,_,_,_,false,rfl,⟨λh=>(by grind),λ⟨_,_,_,_,q,_⟩=>absurd (by omega:(g.T:Int)+added<=g.start->False) ω⟩,λh=>(by rfl),O _ _ h⟩
 ·have J:¬((rD g added).length:Int)=(x.nl:Int)-added:=by simp_all[rD]
  exact⟨_,_,_,_,false,rfl,⟨λh=>(by grind),λ⟨_,_,_,q,_⟩=>absurd ω J⟩,λh=>(by rfl),O _ _ h⟩
theorem Mb(hg:gR (hp w) g x)(hb:lq g):ρ 166 [.agg ⟨x.cells⟩] w λv w'=>(∃r:Bool,v=vB r/\(r=true↔mB g))/\Gr w w':=by
 refine Hr ?_;refine ag (St.all w) λk1 w1 h=>?_;have gw:Gr w w1:=h.aP;have hg:=hg.mono gw;have rb:aq (hp w1) ⟨k1,0,none⟩ x.cells:=h.row;refine⟨_,_,_,_,_,_,_,_,_,_,_,_,_,rb.at sZZ rfl,(KR (x:=x) hg hb 0 ω).mono ?_⟩;rintro _ w2⟨⟨r,rfl,hr⟩,g2⟩
 refine⟨_,rfl,ae (λO=>?_) λO=>?_⟩
 ·have O:r=false:=by simp_all
  subst O;exact⟨⟨false,rfl,⟨λh=>(by grind),λh=>absurd (hr.2 h.1) σ⟩⟩,gw.trans g2⟩
 have O:r=true:=by simp_all
 have Z:=hr.1 O;refine⟨_,_,_,_,_,_,_,_,_,_,_,_,_,(rb.mono g2).at sZZ rfl,(Ab (x:=x) (hg.mono g2) hb 0 ω).mono ?_⟩;rintro _ w3⟨a,l,c,xs,r2,rfl,V,u,X⟩;have g3:Gr w w3:=(gw.trans g2).trans X.aP
 refine⟨_,_,_,_,rfl,ae (λW=>?_) λW=>?_⟩
 ·have u:=u W;have U:=fk X;have J:=V.1 W;have a4:=HA ((g.prods.drop 0).map aJ.left);rw[cf,u] at U
  have a5:(rD g 0).length<=96:=by
   have:=J.2.1
   grind[List.length_map,List.length_drop,rD]
  refine(QX (iDZ X) ω).mono ?_;rintro _ w4⟨⟨r3,rfl,Y⟩,a0⟩;refine⟨_,rfl,⟨r3,rfl,?_⟩,g3.trans (Gr.of_eq a0)⟩;rw[Y,u];exact⟨λh=>⟨Z,J,h⟩,λh=>h.2.2⟩
 ·subst W;exact⟨⟨false,rfl,⟨λh=>(by grind),λh=>absurd (V.2 h.2.1) σ⟩⟩,g3⟩
end
structure GB(H:Hp)(k:Nat)(x:GA):Prop where
 c0:∀{w:aiA},sub H (hp w)->w.cell? ⟨k,0,none⟩=some (vS x.ta x.tl x.tc)
 c1:∀{w:aiA},sub H (hp w)->w.cell? ((⟨k,0,none⟩:Addr).add 1)=some (vS x.na x.nl x.nc)
 c2:∀{w:aiA},sub H (hp w)->w.cell? ((⟨k,0,none⟩:Addr).add 2)=some (vS x.la x.ll x.lc)
 c3:∀{w:aiA},sub H (hp w)->w.cell? ((⟨k,0,none⟩:Addr).add 3)=some (iI x.s)
 c4:∀{w:aiA},sub H (hp w)->w.cell? ((⟨k,0,none⟩:Addr).add 4)=some (vS x.pa x.pl x.pc)
 row:∀{w:aiA},sub H (hp w)->rowAt w ⟨k,0,none⟩ 0 5=some x.cells
theorem Xd{H:Hp}{k:Nat}{x:GA}(r:aq H ⟨k,0,none⟩ x.cells):GB H k x:=
 ⟨λs=>r.cell0 s,λs=>r.cell s (j:=1) rfl,λs=>r.cell s (j:=2) rfl,λs=>r.cell s (j:=3) rfl,λs=>r.cell s (j:=4) rfl,λs=>r.at s rfl⟩
theorem gi{w:aiA}{g:ah}{x:GA}{e:TypeId}{k:Nat->aiA->Prop}(hg:gR (hp w) g x)(hk:∀k1 w1,Gr w w1->gR (hp w1) g x->GB (hp w1) k1 x->k k1 w1):new w (.cells (Array.mk x.cells) e) k:=
 ag (St.all w) λk1 w1 h=>hk k1 w1 h.aP (hg.mono h.aP) (Xd h.row)
theorem vo{a:aiz}{len sz:Nat}{k:Addr->Prop}{ad:Addr}(ha:a=some ad)(hi:0<len)(hk:k ad):idx a len 0 sz k:=
 ⟨ad,ha,ω,ω,by simpa[bh,Addr.add] using hk⟩
theorem wY:∀{l m:List Int},l.Nodup->(∀x∈l,x∈m)->l.length<=m.length
 |[],m,_,_=>agP _
 |a::l,m,h,hs=>by
  rw[ahE] at h
  have ham:=hs a σ
  have:=wY (l:=l) (m:=m.erase a) h.2 λx hx=>(List.mem_erase_of_ne (λe=>h.1 (by simp_all))).2 (hs x (by grind))
  grind
def adw(g:ah):Prop:=g.terms[0]? =some ⟨.empty,0⟩/\(∀t∈g.terms.drop 1,ur t.name=true/\0<=t.level/\t.level<=g.levels.length)/\((g.terms.drop 1).map nf.name).Nodup
def aaG(g:ah):Prop:=∀(i:Nat) v,g.levels[i]? =some v->1<=v/\v<=3/\∃t∈g.terms,t.level=(i:Int)+1
def afx(g:ah)(added:Nat):Prop:=(g.cR.drop added).Nodup/\∀s∈g.cR.drop added,lj s=true
theorem HD{g:ah}{added:Nat}(h:Ax g added):g.levels.length<=64:=by
 obtain⟨_,_,U,_,_,_,J,_⟩:=h
 have:=wY (l:=(List.range g.levels.length).map λ(k:Nat)=>(k:Int)+1) (m:=(g.terms.drop 1).map nf.level) (by grind[List.Pairwise.imp,List.nodup_range]) (λx O=>by
  obtain⟨k,u,rfl⟩:=agY.1 O;rw[ahd] at u;obtain⟨_,_,t,ht,e⟩:=J k _ (agM u)
  grind)
 grind
theorem OB{g:ah}{added:Nat}:Ax g added↔added<g.cR.length/\g.terms.length<=65/\g.cR.length<=64+added/\g.levels.length<=64/\g.terms.length-1+(g.cR.length-added)<=64/\adw g/\aaG g/\afx g added:=by
 constructor
 ·intro h;have hl:=HD h;obtain⟨Y,X,J,O,W,U,h7,V,Z,u⟩:=h;exact⟨X,J,O,hl,W,⟨Y,U,V⟩,λi v hv=>by grind,Z,u⟩
 ·rintro⟨X,J,O,hl,W,⟨Y,U,V⟩,h7,Z,u⟩;refine⟨Y,X,J,O,W,U,λi v hv=>?_,V,Z,u⟩;obtain⟨a,b,t,ht,e⟩:=h7 i v hv;refine⟨a,b,t,?_,e⟩;cases hg:g.terms with
  |nil=>simp_all
  |cons t0 ts=>
   grind
theorem Gr.drawn{w w':aiA}(h:Proofs.YtaoaemnefghnbaaGreatDoor.drawn w w'):Gr w w':=Gr.of_eq (m_ h)
theorem iD{w:aiA}{L:List aE}{a:aiz}{l c:Nat}{xs:List Int}(h:St w (own 1 a l c (iv xs)::L)):aX (hp w) xs a l:=by
 have hl:=fk h;obtain⟨u,s,ha⟩:=h.first;exact(h_ (by simpa[iv] using hl) (bH ha)).mono s
def bM(g:ah):Prop:=mB g\/aw g
theorem afy(ad:Addr)(n:Nat):ad.add (ff 0 n)=ad:=by simp[bh,Addr.add]
section
variable{w:aiA}{L:List aE}{g:ah}{x:GA}{s:ByteArray}
theorem td(hg:gR (hp w) g x)(hb:lq g):ρ 81 [.agg ⟨x.cells⟩] w λv w'=>(∃r:Bool,v=vB r/\(r=true↔aw g))/\Gr w w':=by
 refine FE ?_;refine gi hg λk1 w1 gw hg B=>?_;have tl:=hg.t.1;have nl:=hg.n.1;have pl:=hg.p.1;have hT:g.T=x.tl:=tl;have a9:=hg.s;have no:∀{w'},Gr w1 w'->¬aw g->(∃r:Bool,vB false=vB r/\(r=true↔aw g))/\Gr w w':=λ{w'} gg hn=>⟨⟨false,rfl,⟨λh=>(by grind),λh=>absurd h hn⟩⟩,gw.trans gg⟩
 refine⟨λb w'=>(b=false↔(g.cR[0]? =some .empty/\Ax g 1))/\Gr w1 w',?_,?_⟩
 ·refine⟨_,_,_,B.c1 sZZ,ae (λW=>⟨?_,Gr.refl _⟩) λW=>?_⟩
  ·simp_all
  have W:x.nl≠0:=λh=>by simp_all
  obtain⟨s,ad,aa,a7,a4⟩:=hg.n.dQ (i:=0) ω;refine⟨_,_,_,B.c1 sZZ,vo a7 ω ⟨s,a4 _ sZZ,?_⟩⟩;rw[W6]
  change br (!decide (s=.empty)) _ _
  refine ae (λh2=>⟨?_,Gr.refl _⟩) λh2=>⟨_,_,_,_,_,_,_,_,_,_,_,_,_,B.row sZZ,(KR (x:=x) hg hb 1 ω).mono ?_⟩
  ·simp_all
  simp_all
 rintro _ b w2⟨U,g2⟩
 refine ae (λW=>no g2 λhp=>?_) λW=>?_
 ·have:=U.2 ⟨hp.1,hp.2.1⟩
  simp_all
 obtain⟨z1,z2⟩:=U.1 W;refine⟨_,_,_,_,_,_,_,_,_,_,_,_,_,B.row g2,(Ab (x:=x) (hg.mono g2) hb 1 ω).mono ?_⟩;rintro _ w3⟨a3,l3,c3,xs,r2,rfl,Z,am,h3⟩;have g3:Gr w1 w3:=g2.trans h3.aP;refine⟨_,_,_,_,rfl,_,_,_,B.c4 g3,λw5 hd=>?_⟩;have J:Gr w1 w5:=g3.trans (Gr.drawn hd);refine⟨λw'=>sub (hp w5) (hp w'),sZZ,ae (λh4=>?_) λh4=>no J λhp=>?_⟩
 rotate_left
 ·rw[Z.2 hp.2.2.1] at h4;grind
 have a8:=Z.1 h4;have u:0<x.pl:=by have:=a8.1;omega
 obtain⟨p,ad,vs,a5,O,V,a,l,c,rfl,b1,X⟩:=hg.p.get (i:=0) u;rw[afy] at V;have pr:=X.mono J;have rb:=V.mono J
 have al:aw g↔(p.left=(x.tl:Int)/\l=1/\p.right=[g.start]/\p.level=0):=by
  unfold aw
  constructor
  ·rintro⟨_,_,_,q,hq,q1,q2,q3⟩;rw[a5] at hq;cases hq;exact⟨ω,by rw[<-X.1,q2];rfl,q2,q3⟩
  simp_all
 refine vo O u ⟨_,λw' s=>rb.cell0 s,_,_,_,λw' s=>B.c0 (sub.trans J s),ae (λh6=>?_) λh6=>no J λhp=>?_⟩
 rotate_left
 ·simp_all
 have h6:=eq_of_beq h6;refine vo O u ⟨_,_,_,λw' s=>rb.cell s (j:=1) rfl,ae (λh7=>?_) λh7=>no J λhp=>?_⟩
 rotate_left
 ·simp_all
 have h7:l=1:=by grind
 obtain⟨y,av,Y,a0,a6⟩:=pr.dQ (i:=0) ω
 have hr:p.right=[y]:=by
  have hl:=pr.1
  match hq:p.right,hl,Y with
  |[z],_,Y=>simp_all
  |[],hl,_=>simp_all
  |_::_::_,hl,_=>simp_all
 refine vo O u ⟨_,_,_,λw' s=>rb.cell s (j:=1) rfl,vo a0 ω ⟨y,λw' s=>a6 _ s,_,λw' s=>B.c3 (sub.trans J s),ae (λh8=>?_) λh8=>no J λhp=>?_⟩⟩
 rotate_left
 ·simp_all
 have h8:=eq_of_beq h8;refine vo O u ⟨_,λw' s=>rb.cell s (j:=2) rfl,⟨_,rfl,?_⟩,gw.trans J⟩
 simp_all
end
theorem Xe{α:Sort _}(a:α):∃q,q=a:=⟨a,rfl⟩
theorem Xf{h:Hp}{a:Addr}{us vs:List Value}(h1:aq h a us)(h2:aq h (a.add us.length) vs):aq h a (us++vs):=λj v u=>by
 by_cases hl:j<us.length
 ·rw[ag8 hl] at u;exact h1 j v u
 ·rw[ahg ω] at u
  have:=h2 _ v u
  simp_all[add_add]
theorem yA{α:Type}{h:Hp}{n:Nat}{f:α->List Value}(hf:∀x,(f x).length=n):∀(ts:List α)(ad:Addr),(∀(i:Nat) x,ts[i]? =some x->aq h (ad.add (ff i n)) (f x))->aq h ad (ts.flatMap f)
 |[],ad,_=>λj v hj=>by simp_all
 |t::ts,ad,hh=>by
  rw[ahv]
  refine Xf ?_ ?_
  ·have:=hh 0 t rfl
   simp_all[bh,Nat.zero_mul,Addr.add]
  ·rw[hf]
   refine yA hf ts _ λi x hx=>?_
   have:=hh (i+1) x hx
   simp_all[add_add,bh,aiq,Nat.add_comm]
theorem cJ{α:Type}{h:Hp}{n:Nat}{f:α->List Value}(hf:∀x,(f x).length=n):∀(ts:List α)(ad:Addr),aq h ad (ts.flatMap f)->∀(i:Nat) x,ts[i]? =some x->aq h (ad.add (ff i n)) (f x)
 |[],ad,_,i,x,hx=>by simp_all
 |t::ts,ad,hh,i,x,hx=>by
  rw[ahv] at hh
  match i,hx with
  |0,hx=>
   cases hx
   rw[bh,Nat.zero_mul,show ad.add 0=ad from by rfl]
   exact hh.take
  |i+1,hx=>
   have:=cJ hf ts _ hh.drop i x hx
   simp_all[add_add,bh,aiq,Nat.add_comm]
def HE(t:nf):List Value:=[.string t.name,iI t.level]
def cQ(ts:List nf):List Value:=ts.flatMap HE
def qR(p:(aiz×Nat)×aJ):List Value:=[iI p.2.left,vS p.1.1 p.2.right.length p.1.2,iI p.2.level]
def dY(os:List (aiz×Nat))(ps:List aJ):List Value:=(os.zip ps).flatMap qR
def cj(os:List (aiz×Nat))(ps:List aJ):List aE:=List.zipWith (λo p=>own 1 o.1 p.right.length o.2 (iv p.right)) os ps
theorem HG(ts:List nf):(cQ ts).length=ts.length*2:=by
 induction ts with
 |nil=>rfl
 |cons t ts ih=>grind[cQ,List.length_append,List.length_cons,HE,List.length_nil]
theorem aaH{h:Hp}{ts:List nf}{ad:Addr}{l:Nat}(r:aX h ts (some ad) l):aq h ad (cQ ts):=
 yA (f:=HE) (n:=2) (λ_=>rfl) ts ad λi x O=>by
  obtain⟨J,vs,e,U,u⟩:=r.2 i x O
  cases e
  have u:vs=HE x:=u
  rw[<-u];omega
theorem aaI{h:Hp}{ts:List nf}{a:aiz}{l c:Nat}(hl:ts.length=l)(r:own 2 a l c (cQ ts) h):aX h ts a l:=by
 refine⟨hl,λi x J=>?_⟩
 rcases bH r with e|⟨u,rfl,hc⟩
 ·grind[HG,List.getElem?_eq_some_iff]
 ·exact⟨u,HE x,rfl,cJ (f:=HE) (n:=2) (λ_=>rfl) ts u hc i x J,rfl⟩
theorem Q3{os:List (aiz×Nat)}{ps:List aJ}{h:Hp}{ad:Addr}(hr:aq h ad (dY os ps)){i:Nat}{o:aiz×Nat}{p:aJ}(ho:os[i]? =some o)(hp:ps[i]? =some p):aq h (ad.add (ff i 3)) [iI p.left,vS o.1 p.right.length o.2,iI p.level]:=
 cJ (f:=qR) (n:=3) (λ_=>rfl) (os.zip ps) ad hr i (o,p) (by grind)
theorem Q4{os:List (aiz×Nat)}{ps:List aJ}(h:os.length=ps.length):(dY os ps).length=ps.length*3:=by
 have:∀u:List ((aiz×Nat)×aJ),(u.flatMap qR).length=u.length*3:=λu=>by
  induction u with
  |nil=>rfl
  |cons t ts ih=>grind[List.length_append,List.length_cons,qR,List.length_nil]
 simp_all[dY,List.length_zip]
theorem Fe{os:List (aiz×Nat)}{ps:List aJ}(h:os.length=ps.length)(o:aiz×Nat)(p:aJ):dY (os++[o]) (ps++[p])=dY os ps++qR (o,p):=by simp_all[dY,List.zip_append]
theorem B3{os:List (aiz×Nat)}{ps:List aJ}(h:os.length=ps.length)(o:aiz×Nat)(p:aJ):cj (os++[o]) (ps++[p])=cj os ps++[own 1 o.1 p.right.length o.2 (iv p.right)]:=by simp_all[cj,List.zipWith_append]
def y7(g:ah)(x:GA)(os:List (aiz×Nat)):List aE:=[own 3 x.pa g.prods.length x.pc (dY os g.prods),aV (cj os g.prods),own 2 x.ta g.terms.length x.tc (cQ g.terms),own 1 x.na g.cR.length x.nc (g.cR.map λs=>Value.string s),own 1 x.la g.levels.length x.lc (iv g.levels)]
structure DU(g:ah)(x:GA):Prop where
 t:x.tl=g.terms.length
 n:x.nl=g.cR.length
 l:x.ll=g.levels.length
 s:x.s=g.start
 p:x.pl=g.prods.length
theorem aaJ{L:List aE}{h:Hp}{os:List (aiz×Nat)}{ps:List aJ}{k:Nat}{o:aiz×Nat}{p:aJ}(i:Nat)(hl:aF L h)(ho:os[k]? =some o)(hp:ps[k]? =some p)(e:vv L i=aV (cj os ps):=by rfl)(hi:Nat.blt i (DT L)=true:=by rfl):aX h p.right o.1 p.right.length/\p.right.length<=o.2:=by
 obtain⟨J,s,ha⟩:=eO i (by simp_all[lh]) hl;rw[e] at ha;obtain⟨u,s2,hb⟩:=ju (A:=own 1 o.1 p.right.length o.2 (iv p.right)) (agL (i:=k) (by simp_all[cj,List.getElem?_zipWith])) ha;refine⟨(bt rfl (bH hb)).mono (s2.trans s),?_⟩;rcases hb with⟨_,h,h',_⟩|⟨_,_,_,_,_,_,_,_,h⟩<;>omega
theorem Az{L:List aE}{h:Hp}{A:aE}(i:Nat)(hl:aF L h)(e:vv L i=A:=by rfl)(hi:Nat.blt i (DT L)=true:=by rfl):∃h1,sub h1 h/\A h1:=by
 obtain⟨h1,s,ha⟩:=eO i (by simp_all[lh]) hl;exact⟨h1,s,e▸ha⟩
theorem te{sz l c:Nat}{a:aiz}{vs:List Value}{h:Hp}(ha:own sz a l c vs h):l<=c:=by
 rcases ha with⟨_,rfl,rfl,_⟩|⟨_,_,_,_,_,_,_,_,h⟩
 ·omega
 omega
theorem Mc{g:ah}{x:GA}{os:List (aiz×Nat)}{L:List aE}{h:Hp}(hx:DU g x)(ho:os.length=g.prods.length)(hs:aF (y7 g x os++L) h):gR h g x:=by
 obtain⟨h1,s1,a1⟩:=Az (A:=own 3 x.pa g.prods.length x.pc (dY os g.prods)) 0 hs;obtain⟨h2,s2,a2⟩:=Az (A:=own 2 x.ta g.terms.length x.tc (cQ g.terms)) 2 hs;obtain⟨h3,s3,a3⟩:=Az (A:=own 1 x.na g.cR.length x.nc (g.cR.map λs=>Value.string s)) 3 hs;obtain⟨h4,X,W⟩:=Az (A:=own 1 x.la g.levels.length x.lc (iv g.levels)) 4 hs;obtain⟨J,V,U,q4,O⟩:=hx
 refine⟨?_,?_,?_,q4,?_,?_,?_,?_,?_⟩
 ·rw[J];exact(aaI rfl a2).mono s2
 ·rw[V];exact(h_ rfl (bH a3)).mono s3
 ·rw[U];exact(bt rfl (bH W)).mono X
 ·rw[O];refine⟨rfl,λi p hp=>?_⟩;have hi:=(agN.1 hp).1;obtain⟨o,u⟩:∃o,os[i]? =some o:=⟨os[i]'ω,agM _⟩
  rcases bH a1 with e|⟨Y,e,hc⟩
  ·grind[Q4]
  ·obtain⟨r1,Z⟩:=aaJ (k:=i) (o:=o) (p:=p) 1 hs u hp;exact⟨Y,_,e,(Q3 hc u hp).mono s1,o.1,_,o.2,rfl,Z,r1⟩
 ·rw[J];exact te a2
 ·rw[V];exact te a3
 ·rw[U];exact te W
 ·rw[O];exact te a1
section
open Go.Shelf Go.Proofs
def UT:Go.Shelf.Ren:=⟨fun|6=>187|15=>186|14=>282|28=>280|29=>281|20=>330|21=>331|22=>332|23=>333|24=>334|25=>335|26=>336|27=>337|46=>373|47=>326|48=>327|49=>374|50=>375|57=>393|n=>n,fun|22=>194|24=>193|25=>338|3=>3|39=>335|0=>0|53=>435|55=>419|4=>4|46=>429|45=>428|50=>360|5=>5|9=>9|66=>467|70=>471|76=>505|77=>391|n=>n,fun|n=>n⟩
theorem acM:Go.Proofs.SlLaysF0.n6 Tryz.prog UT:={
  mixed:=by rfl,
  f6:=⟨Tryz.f187.name,by rfl,Tryz.func187.trans (congrArg some (by rfl))⟩,
  f14:=⟨Tryz.f282.name,by rfl,Tryz.func282.trans (congrArg some (by rfl))⟩,
  f15:=Tryz.func186.trans (congrArg some (by rfl)),
  f20:=⟨Tryz.f330.name,by rfl,Tryz.func330.trans (congrArg some (by rfl))⟩,
  f21:=⟨Tryz.f331.name,by rfl,Tryz.func331.trans (congrArg some (by rfl))⟩,
  f22:=⟨Tryz.f332.name,by rfl,Tryz.func332.trans (congrArg some (by rfl))⟩,
  f23:=⟨Tryz.f333.name,by rfl,Tryz.func333.trans (congrArg some (by rfl))⟩,
  f24:=⟨Tryz.f334.name,by rfl,Tryz.func334.trans (congrArg some (by rfl))⟩,
  f25:=⟨Tryz.f335.name,by rfl,Tryz.func335.trans (congrArg some (by rfl))⟩,
  f26:=⟨Tryz.f336.name,by rfl,Tryz.func336.trans (congrArg some (by rfl))⟩,
  f27:=⟨Tryz.f337.name,by rfl,Tryz.func337.trans (congrArg some (by rfl))⟩,
  f28:=Tryz.func280.trans (congrArg some (by rfl)),
  f29:=Tryz.func281.trans (congrArg some (by rfl)),
  f46:=⟨Tryz.f373.name,by rfl,Tryz.func373.trans (congrArg some (by rfl))⟩,
  f47:=Tryz.func326.trans (congrArg some (by rfl)),
  f48:=Tryz.func327.trans (congrArg some (by rfl)),
  f49:=⟨Tryz.f374.name,by rfl,Tryz.func374.trans (congrArg some (by rfl))⟩,
  f50:=⟨Tryz.f375.name,by rfl,Tryz.func375.trans (congrArg some (by rfl))⟩,
  f57:=⟨Tryz.f393.name,by rfl,Tryz.func393.trans (congrArg some (by rfl))⟩,
  t0:=Tryz.underlying0,
  a0:=Tryz.isAgg0,
  z0:=Tryz.sizeOf0,
  v0:=Tryz.zeroValue0,
  t3:=Tryz.underlying3,
  a3:=Tryz.isAgg3,
  z3:=Tryz.sizeOf3,
  v3:=Tryz.zeroValue3,
  t4:=Tryz.underlying4,
  a4:=Tryz.isAgg4,
  z4:=Tryz.sizeOf4,
  v4:=Tryz.zeroValue4,
  t5:=Tryz.underlying5,
  a5:=Tryz.isAgg5,
  z5:=Tryz.sizeOf5,
  v5:=Tryz.zeroValue5,
  t9:=Tryz.underlying9,
  a9:=Tryz.isAgg9,
  z9:=Tryz.sizeOf9,
  v9:=Tryz.zeroValue9,
  t22:=Tryz.underlying194,
  a22:=Tryz.isAgg194,
  z22:=Tryz.sizeOf194,
  v22:=Tryz.zeroValue194,
  t25:=Tryz.underlying338,
  a25:=Tryz.isAgg338,
  z25:=Tryz.sizeOf338,
  v25:=Tryz.zeroValue338,
  t39:=Tryz.underlying335,
  a39:=Tryz.isAgg335,
  z39:=Tryz.sizeOf335,
  v39:=Tryz.zeroValue335,
  t45:=Tryz.underlying428,
  a45:=Tryz.isAgg428,
  z45:=Tryz.sizeOf428,
  v45:=Tryz.zeroValue428,
  t46:=Tryz.underlying429,
  a46:=Tryz.isAgg429,
  z46:=Tryz.sizeOf429,
  v46:=Tryz.zeroValue429,
  t50:=Tryz.underlying360,
  a50:=Tryz.isAgg360,
  z50:=Tryz.sizeOf360,
  v50:=Tryz.zeroValue360,
  t53:=Tryz.underlying435,
  a53:=Tryz.isAgg435,
  z53:=Tryz.sizeOf435,
  v53:=Tryz.zeroValue435,
  t55:=Tryz.underlying419,
  a55:=Tryz.isAgg419,
  z55:=Tryz.sizeOf419,
  v55:=Tryz.zeroValue419,
  t66:=Tryz.underlying467,
  a66:=Tryz.isAgg467,
  z66:=Tryz.sizeOf467,
  v66:=Tryz.zeroValue467,
  t70:=Tryz.underlying471,
  a70:=Tryz.isAgg471,
  z70:=Tryz.sizeOf471,
  v70:=Tryz.zeroValue471,
  t76:=Tryz.underlying505,
  a76:=Tryz.isAgg505,
  z76:=Tryz.sizeOf505,
  v76:=Tryz.zeroValue505,
  t77:=Tryz.underlying391,
  a77:=Tryz.isAgg391,
  z77:=Tryz.sizeOf391,
  v77:=Tryz.zeroValue391 }
def UU:Go.Shelf.Ren:=⟨fun|189=>96|125=>186|257=>185|128=>280|129=>281|294=>271|295=>272|296=>273|297=>274|298=>275|299=>276|216=>277|300=>278|301=>279|328=>325|329=>326|330=>327|331=>328|332=>329|215=>283|343=>372|n=>n,fun|28=>24|3=>3|46=>335|0=>0|51=>435|53=>419|4=>4|183=>429|182=>428|131=>360|5=>5|9=>9|218=>467|222=>471|228=>505|229=>391|n=>n,fun|n=>n⟩
theorem acN:Go.Proofs.Lays.n189 Tryz.prog UU:={
  mixed:=by rfl,
  f125:=Tryz.func186.trans (congrArg some (by rfl)),
  f128:=Tryz.func280.trans (congrArg some (by rfl)),
  f129:=Tryz.func281.trans (congrArg some (by rfl)),
  f189:=Tryz.func96.trans (congrArg some (by rfl)),
  f215:=Tryz.func283.trans (congrArg some (by rfl)),
  f216:=Tryz.func277.trans (congrArg some (by rfl)),
  f257:=Tryz.func185.trans (congrArg some (by rfl)),
  f294:=Tryz.func271.trans (congrArg some (by rfl)),
  f295:=Tryz.func272.trans (congrArg some (by rfl)),
  f296:=Tryz.func273.trans (congrArg some (by rfl)),
  f297:=Tryz.func274.trans (congrArg some (by rfl)),
  f298:=Tryz.func275.trans (congrArg some (by rfl)),
  f299:=Tryz.func276.trans (congrArg some (by rfl)),
  f300:=Tryz.func278.trans (congrArg some (by rfl)),
  f301:=Tryz.func279.trans (congrArg some (by rfl)),
  f328:=Tryz.func325.trans (congrArg some (by rfl)),
  f329:=Tryz.func326.trans (congrArg some (by rfl)),
  f330:=Tryz.func327.trans (congrArg some (by rfl)),
  f331:=Tryz.func328.trans (congrArg some (by rfl)),
  f332:=Tryz.func329.trans (congrArg some (by rfl)),
  f343:=Tryz.func372.trans (congrArg some (by rfl)),
  t0:=Tryz.underlying0,
  a0:=Tryz.isAgg0,
  z0:=Tryz.sizeOf0,
  v0:=Tryz.zeroValue0,
  t3:=Tryz.underlying3,
  a3:=Tryz.isAgg3,
  z3:=Tryz.sizeOf3,
  v3:=Tryz.zeroValue3,
  t4:=Tryz.underlying4,
  a4:=Tryz.isAgg4,
  z4:=Tryz.sizeOf4,
  v4:=Tryz.zeroValue4,
  t5:=Tryz.underlying5,
  a5:=Tryz.isAgg5,
  z5:=Tryz.sizeOf5,
  v5:=Tryz.zeroValue5,
  t9:=Tryz.underlying9,
  a9:=Tryz.isAgg9,
  z9:=Tryz.sizeOf9,
  v9:=Tryz.zeroValue9,
  t28:=Tryz.underlying24,
  a28:=Tryz.isAgg24,
  z28:=Tryz.sizeOf24,
  v28:=Tryz.zeroValue24,
  t46:=Tryz.underlying335,
  a46:=Tryz.isAgg335,
  z46:=Tryz.sizeOf335,
  v46:=Tryz.zeroValue335,
  t51:=Tryz.underlying435,
  a51:=Tryz.isAgg435,
  z51:=Tryz.sizeOf435,
  v51:=Tryz.zeroValue435,
  t53:=Tryz.underlying419,
  a53:=Tryz.isAgg419,
  z53:=Tryz.sizeOf419,
  v53:=Tryz.zeroValue419,
  t131:=Tryz.underlying360,
  a131:=Tryz.isAgg360,
  z131:=Tryz.sizeOf360,
  v131:=Tryz.zeroValue360,
  t182:=Tryz.underlying428,
  a182:=Tryz.isAgg428,
  z182:=Tryz.sizeOf428,
  v182:=Tryz.zeroValue428,
  t183:=Tryz.underlying429,
  a183:=Tryz.isAgg429,
  z183:=Tryz.sizeOf429,
  v183:=Tryz.zeroValue429,
  t218:=Tryz.underlying467,
  a218:=Tryz.isAgg467,
  z218:=Tryz.sizeOf467,
  v218:=Tryz.zeroValue467,
  t222:=Tryz.underlying471,
  a222:=Tryz.isAgg471,
  z222:=Tryz.sizeOf471,
  v222:=Tryz.zeroValue471,
  t228:=Tryz.underlying505,
  a228:=Tryz.isAgg505,
  z228:=Tryz.sizeOf505,
  v228:=Tryz.zeroValue505,
  t229:=Tryz.underlying391,
  a229:=Tryz.isAgg391,
  z229:=Tryz.sizeOf391,
  v229:=Tryz.zeroValue391 }
end
section
open Go.Proofs Go.Sort
theorem Q5{X:Type}(P:X->Prop)(f:X->Nat)(h:∃x,P x):∃x,P x/\∀y,P y->f x<=f y:=by
 obtain⟨x,u⟩:=h;generalize hn:f x=n
 induction n using Nat.strongRecOn generalizing x with
 |ind n ih=>
  grind
open Classical in
noncomputable def V4{X:Type}(P:X->aiA->Prop)(f:X->Nat)(w:aiA):Nat:=if h:∃x,P x w then f (Q5 (λx=>P x w) f h).choose else 0
theorem B5{X:Type}{P:X->aiA->Prop}{f:X->Nat}{w:aiA}(h:∃x,P x w):∃x,P x w/\f x=V4 P f w:=by
 have:=(Q5 (λx=>P x w) f h).choose_spec;refine⟨_,this.1,?_⟩
 simp_all[V4]
theorem AA{X:Type}{P:X->aiA->Prop}{f:X->Nat}{w:aiA}{x:X}(hx:P x w):V4 P f w<=f x:=by
 have h:∃x,P x w:=⟨x,hx⟩;have:=(Q5 (λx=>P x w) f h).choose_spec
 simp_all[V4]
section
variable{w:aiA}{L:List aE}
theorem qS{sz l c k:Nat}{a:aiz}{vs:List Value}(h:St w (own sz a l c vs::L))(hk:k<=l):St w (own sz (fK a 0 c sz) k c (vs.take (k*sz))::L):=by
 rcases dE h with⟨rfl,rfl,rfl,rfl⟩|⟨b,u,cs,post,rfl,hc,U,V,O⟩
 ·simp_all[fK]
 ·have e:fK (some (⟨b,u.length,none⟩:Addr)) 0 c sz=some ⟨b,u.length,none⟩:=by simp[fK,bh,add_lit]
  have J:k*sz<=l*sz:=ahO _ hk;rw[e]
  refine fp (cs:=vs.drop (k*sz)++cs) (post:=post) ?_ ?_ ?_ ω
  ·grind[List.append_assoc,List.take_append_drop]
  ·simp_all
  grind
theorem iH{a:aiz}{len cap hi sz:Nat}{k:aiz->Nat->Nat->Prop}(h1:hi<=cap)(hk:k (fK a 0 cap sz) hi cap):lU a len cap none (some (hi:Int)) none sz k:=
 ⟨.inl rfl,.inr ⟨σ,by simp_all⟩,⟨σ,σ⟩,by simpa using hk⟩
theorem aQ{w w':aiA}(h:drawn w w'):hp w'=hp w:=by rw[show w'=_ from h];rfl
theorem dN{L:List aE}{h:Hp}{a:aiz}{sz l c:Nat}{vs:List Value}(i:Nat)(hl:aF L h)(e:vv L i=own sz a l c vs:=by rfl)(hi:Nat.blt i (DT L)=true:=by rfl):eE a vs h:=by
 obtain⟨u,s,ha⟩:=eO i (by simp_all[lh]) hl;rw[e] at ha
 grind[eE.mono,bH]
theorem Gx(xs:List Int)(i:Nat)(v:Int):(iv xs).set i (iI v)=iv (xs.set i v):=by simp[iv]
theorem S0{M:List aE}{n:Nat}(hn:n<M.length):M.Perm (M[n]::(M.take n++M.drop (n+1))):=by grind[List.drop_eq_getElem_cons,List.take_append_drop,List.Perm.of_eq,trans,List.perm_middle]
theorem set_perm{M:List aE}{n:Nat}{A:aE}(hn:n<M.length):(M.set n A).Perm (A::(M.take n++M.drop (n+1))):=by simp_all[aij]
theorem St.Xg{A:aE}{M:List aE}(h:St w (A::aV M::L)){n:Nat}(hn:n<M.length):St w (aV (M.set n A)::L):=by
 have J:=St.flat.1 h.swap;have U:St w ((M[n]::(M.take n++M.drop (n+1)))++(A::L)):=J.perm ((S0 hn).append_right _);have O:St w ((M.take n++M.drop (n+1))++(A::L)):=U.tail;have u:St w ((A::(M.take n++M.drop (n+1)))++L):=O.perm ahG;exact St.flat.2 (u.perm ((set_perm hn).symm.append_right _))
theorem St.Q6{M:List aE}{A:aE}(h:St w (aV M::L)){n:Nat}(hn:M[n]? =some A):St w (A::aV (M.take n++M.drop (n+1))::L):=by
 obtain⟨hl,rfl⟩:=agN.1 hn;have u:=St.flat.1 h;have J:St w ((M[n]::(M.take n++M.drop (n+1)))++L):=u.perm ((S0 hl).append_right _);have O:St w ((M.take n++M.drop (n+1))++(M[n]::L)):=J.perm ahG.symm
 grind[St.flat,swap]
theorem B6{A:aE}(hA:∀w L,St w L->St w (A::L)):∀(n:Nat),St w L->St w (aV (List.replicate n A)::L)
 |0,h=>(St.flat (M:=[])).2 h
 |n+1,h=>by
  have h1:=St.flat.1 (B6 hA n h)
  simp_all[St.flat,List.replicate]
theorem St.Xh{w:aiA}{L M:List aE}{A:aE}{n:Nat}(hn:n<M.length)(h:St w (A::aV (M.take n++M.drop (n+1))::L)):St w (aV (M.set n A)::L):=by
 have u:=St.flat.1 h.swap;have J:St w ((A::(M.take n++M.drop (n+1)))++L):=u.perm ahG;exact St.flat.2 (J.perm ((set_perm hn).symm.append_right _))
theorem B7(xs:List Nat)(i v:Nat):(dS xs).set i (iI (v:Int))=dS (xs.set i v):=by simp[dS]
theorem Xi(xs:List Nat)(v:Nat):dS xs++[iI (v:Int)]=dS (xs++[v]):=by simp[dS]
theorem lr{low:List Nat}{i x:Nat}(h:low[i]? =some x):(dS low)[i]? =some (iI (x:Int)):=by grind[dS]
theorem B8{α:Type}{l:List α}{i:Nat}{x:α}(h:l[i]? =some x):l.set i x=l:=by
 obtain⟨u,rfl⟩:=agN.1 h;simp
end
section
variable{α:Type}[Inhabited α]{w:aiA}{L:List aE}{enc:α->Value}{blk:Nat}{d:Array α}
theorem yB(w:aiA)(off m:Nat)(dk:Array α)(os:Array Obj)(b:Nat)(o:Obj)(h:w.heap[b]? =some o):
  (sortWorld enc w blk off m dk os).heap[b]? =some (if blk=b then onCells (putCells enc off dk) o else o):=by grind[Array.getElem?_eq_some_iff,sortWorld,grow,putRow,mapBlock,Sort.ahead,Array.getElem?_append_left]
theorem Ev.sort(w:aiA)(off m:Nat)(dk:Array α)(os:Array Obj):Ev w (sortWorld enc w blk off m dk os):=by
 refine⟨rfl,rfl,rfl,?_,?_,?_⟩
 ·simp[sortWorld,grow,putRow,mapBlock,Sort.ahead]
 ·intro b x h;rw[yB w off m dk os b _ h];split<;>rfl
 ·intro b x h;rw[yB w off m dk os b _ h];split<;>rfl
theorem St.sort{cs:List Value}(h:St w (az blk cs::L))(off m:Nat)(dk:Array α)(os:Array Obj):St (sortWorld enc w blk off m dk os) (az blk (putCells enc off dk ⟨cs⟩).toList::L):=by
 obtain⟨e,h⟩:=jM.1 h;have O:=h.get
 have W:∀b o,hp w b=some o->b≠blk->hp (sortWorld enc w blk off m dk os) b=some o:=λb o hb u=>by
  have:=yB (enc:=enc) (blk:=blk) w off m dk os b o (sD hb);rw[agW (Ne.symm u)] at this
  grind[hp,sD]
 have J:hp (sortWorld enc w blk off m dk os) blk=some (.cells (putCells enc off dk ⟨cs⟩) e (0,0)):=by
  have:=yB (enc:=enc) (blk:=blk) w off m dk os blk _ O;rw[ag0 rfl] at this;unfold hp;rw[this];rfl
 refine jM.2 ⟨e,?_⟩;have U:=q8 (h:=hp w) (h':=λk=>if k=blk then some (.cells (putCells enc off dk ⟨cs⟩) e (0,0)) else hp w k) (o':=.cells (putCells enc off dk ⟨cs⟩) e (0,0)) h (λk V=>by grind) σ;refine mi U λk o V=>?_
 grind
theorem B9(pre post:List Value)(d d':Array α)(hs:d'.size=d.size):(putCells enc pre.length d' ⟨pre++(d.toList.map enc++post)⟩).toList=pre++(d'.toList.map enc++post):=by
 have u:(d.toList.map enc).length=d.size:=σ
 have l2:(d'.toList.map enc).length=d.size:=by grind
 apply ahp;intro k;simp only[putCells,Array.toList_mapIdx,List.getElem?_mapIdx]
 grind
theorem aaK{a:aiz}{l c:Nat}(h:St w (own 1 a l c (d.toList.map enc)::L))(hl:0<l):
  ∃b off,a=some ⟨b,off,none⟩/\l=d.size/\Holds enc w b off d/\b<w.heap.size/\
   (∀(m:Nat)(os:Array Obj)(d':Array α),d'.size=d.size->St (sortWorld enc w b off m d' os) (own 1 a l c (d'.toList.map enc)::L)):=by
 rcases dE h with⟨_,V,_⟩|⟨b,u,cs,O,rfl,hc,Z,V,W⟩
 ·omega
 ·have J:l=d.size:=by simp_all
  refine⟨b,u.length,rfl,J,?_,?_,?_⟩
  ·intro j U;refine⟨?_,hc.frozen _ _⟩;rw[hc.cell,ahg ω,ahC,ag8 ω,agS,agM ω,getElem!_pos d j U];simp
  ·obtain⟨e,h⟩:=jM.1 hc;exact(ah5.1 h.get).1
  ·intro m os d' X;have Y:=hc.sort (enc:=enc) u.length m d' os
   grind[B9,fp]
end
theorem uv{w:aiA}{b o:Nat}:∀(vs:List Value)(i:Nat),mQ w ⟨b,0,none⟩ (o+i) vs->mQ w ⟨b,o,none⟩ i vs
 |[],i,_=>trivial
 |v::vs,i,⟨h1,h2,h3,h4⟩=>by
  rw[ak] at h2 h3
  refine⟨h1,?_,?_,uv vs (i+1) h4⟩
  ·simp_all[add_lit]
  simp_all[add_lit]
theorem uw{b o:Nat}:∀(vs:List Value)(i:Nat)(w:aiA),dI w ⟨b,o,none⟩ i vs=dI w ⟨b,0,none⟩ (o+i) vs
 |[],i,w=>rfl
 |v::vs,i,w=>by
  simp only[dI]
  rw[add_lit,ak,uw vs (i+1)]
  rfl
theorem Gy{w:aiA}{L:List aE}{sz l c i:Nat}{a:aiz}{ad:Addr}{us vs:List Value}{k:aiA->Prop}(h:St w (own sz a l c us::L))(ha:a=some ad)(hi:i+vs.length<=us.length)(h1:∀v∈vs,aK v=true)(h0:0<vs.length)
  (hk:∀w',St w' (own sz a l c (us.take i++vs++us.drop (i+vs.length))::L)->k w'):bA w (ad.add i) vs k:=by
 rcases dE h with⟨rfl,_,_,_⟩|⟨b,u,cs,J,rfl,hc,W,Y,V⟩
 ·cases ha
 ·cases ha;rw[add_lit];have hl:(u.length+i)+vs.length<=(u++(us++(cs++J))).length:=by grind
  refine⟨uv vs 0 (uu hc vs _ hl h1),λw' O=>?_⟩;subst O;rw[uw];have U:=qQ vs _ (u.length+i) hl hc;refine hk _ ?_
  have e:(u++(us++(cs++J))).take (u.length+i)++vs++(u++(us++(cs++J))).drop (u.length+i+vs.length)=u++((us.take i++vs++us.drop (i+vs.length))++(cs++J)):=by
   rw[List.take_append,ag4 ω,ahC,List.take_append_of_le_length ω];rw[show u.length+i+vs.length=u.length+(i+vs.length) from ω,List.drop_append,List.drop_of_length_le ω,ahC,List.drop_append_of_le_length ω];simp
  rw[e] at U;have X:(us.take i++vs++us.drop (i+vs.length)).length=us.length:=by grind
  grind[fp,List.length_append]
structure au where
 prod:Int
 dot:Int
deriving DecidableEq
instance:uj au:={ n:=2,rd:=λ_ x vs=>vs=[iI x.prod,iI x.dot],mono:=λ_ h=>h,len:=λh=>by simp_all }
def au.lt(x y:au):Prop:=x.prod<y.prod\/x.prod=y.prod/\x.dot<y.dot
instance (x y:au):Decidable (x.lt y):=inferInstanceAs (Decidable (_\/_))
theorem au.ext'{x y:au}(h1:x.prod=y.prod)(h2:x.dot=y.dot):x=y:=by cases x;simp_all
theorem au.lt_irrefl(x:au):¬x.lt x:=by simp[au.lt]
theorem au.lt_trans{x y z:au}(h1:x.lt y)(h2:y.lt z):x.lt z:=by grind[au.lt]
theorem au.Xj{x y:au}(h:x≠y):x.lt y\/y.lt x:=by grind[au.lt,au.ext']
abbrev oD(l:List au):Prop:=l.Pairwise au.lt
def HH(x:au):List au->List au
 |[]=>[x]
 |y::l=>if x=y then y::l else if x.lt y then x::y::l else y::HH x l
def lay(l:List au):List au:=l.foldl (λout x=>HH x out) []
theorem HI{x y:au}:∀{l:List au},y∈HH x l↔y=x\/y∈l
 |[]=>by simp[HH]
 |z::l=>by
  unfold HH
  split
  ·simp_all
  ·split
   ·simp
   ·rw[ag6,HI,ag6]
    grind
theorem OC{x:au}:∀{l:List au},oD l->oD (HH x l)
 |[],_=>by simp[HH]
 |z::l,h=>by
  unfold HH
  have h':=ahM.1 h
  split
  ·omega
  ·rename_i hne
   split
   ·rename_i hlt
    exact ahM.2 ⟨λy hy=>by
     rcases ag6.1 hy with rfl|hy
     ·omega
     grind[au.lt_trans],h⟩
   ·rename_i hnl
    refine ahM.2 ⟨λy hy=>?_,OC h'.2⟩
    rcases HI.1 hy with rfl|hy
    ·grind[au.Xj]
    simp_all
theorem foldI(l:List au):∀out,oD out->oD (l.foldl (λout x=>HH x out) out)/\∀y,y∈l.foldl (λout x=>HH x out) out↔y∈out\/y∈l:=by
 induction l with
 |nil=>simp
 |cons x l ih=>
  grind[OC,HH,HI]
theorem oE(l:List au):oD (lay l):=(foldI l [] .nil).1
theorem mM{l:List au}{y:au}:y∈lay l↔y∈l:=by simp[foldI,lay]
theorem oD.nodup{l:List au}(h:oD l):l.Nodup:=ahF.2 (h.imp λh e=>by simp_all[au.lt_irrefl])
theorem oD.one{l m:List au}(h:oD l)(h':oD m)(he:∀x,x∈l↔x∈m):l=m:=by
 have p:l.Perm m:=(List.perm_ext_iff_of_nodup h.nodup h'.nodup).2 he
 grind[List.Perm.eq_of_pairwise,au.lt,absurd,au.lt_trans,au.lt_irrefl]
theorem wZ{l:List au}(h:oD l):lay l=l:=(oE l).one h λ_=>mM
theorem Q7{l m:List au}(h:oD m)(he:∀x,x∈m↔x∈l):lay l=m:=(oE l).one h λx=>by rw[mM,he]
def vE(g:ah)(x:au):Prop:=0<=x.prod/\0<=x.dot/\∃p,g.prods[x.prod.toNat]? =some p/\x.dot<=p.right.length
def ng(g:ah)(x:au):Int:=
 match g.prods[x.prod.toNat]? with
 |none=>-1
 |some p=>p.right.getD x.dot.toNat (-1)
theorem w_{g:ah}{x:au}{p:aJ}(h:g.prods[x.prod.toNat]? =some p):ng g x=p.right.getD x.dot.toNat (-1):=by simp_all[ng]
inductive vF (g:ah) (I:List au):au->Prop
 |base {x:au}:x∈I->vF g I x
 |step {y:au} {i:Nat} {p:aJ}:vF g I y->0<=ng g y->g.prods[i]? =some p->p.left=ng g y->vF g I ⟨i,0⟩
def Md(g:ah)(l:List au):List au:=((List.range g.prods.length).filter λi=>l.any λy=>decide (0<=ng g y)&&decide ((g.prods[i]?.map aJ.left)=some (ng g y))).map λi:Nat=>⟨(i:Int),0⟩
def Me(g:ah)(I:List au):Nat->List au
 |0=>lay I
 |k+1=>lay (Me g I k++Md g (Me g I k))
def cls(g:ah)(I:List au):List au:=Me g I g.prods.length
section
variable{g:ah}{I l:List au}{x y:au}{k:Nat}
theorem HJ:x∈Md g l↔∃(i:Nat)(p:aJ)(y:au),x=⟨i,0⟩/\g.prods[i]? =some p/\y∈l/\0<=ng g y/\p.left=ng g y:=by
 unfold Md
 grind
theorem Mf:∀k,oD (Me g I k)
 |0=>oE _
 |_+1=>oE _
theorem xa:x∈Me g I (k+1)↔x∈Me g I k\/x∈Md g (Me g I k):=by
 show x∈lay _↔_
 rw[mM,agX]
theorem DV:∀k x,x∈Me g I k->vF g I x
 |0,x,h=>.base (mM.1 h)
 |k+1,x,h=>by
  rcases xa.1 h with h|h
  ·exact DV k x h
  ·obtain⟨i,p,y,rfl,hp,hy,h1,h2⟩:=HJ.1 h
   exact .step (DV k y hy) h1 hp h2
theorem OD:∀k,∀x∈I,x∈Me g I k
 |0,x,h=>mM.2 h
 |k+1,x,h=>xa.2 (.inl (OD k x h))
def Q8(g:ah)(I:List au)(k:Nat):List Nat:=(List.range g.prods.length).filter λi=>decide ((⟨i,0⟩:au)∈Me g I k)
theorem afz:∀{l m:List Nat},l.Nodup->(∀x∈l,x∈m)->l.length<=m.length
 |[],m,_,_=>agP _
 |a::l,m,h,hs=>by
  obtain⟨m1,m2,rfl⟩:=List.append_of_mem (hs a σ)
  rw[ahE] at h
  have:=afz (l:=l) (m:=m1++m2) h.2 λx hx=>by grind
  grind
theorem aaL(h:∀x∈Md g (Me g I k),x∈Me g I k):Me g I (k+1)=Me g I k:=(Mf _).one (Mf _) λx=>by simp_all[xa]
theorem Xk:∀k,(∀x∈Md g (Me g I k),x∈Me g I k)\/k+1<=(Q8 g I (k+1)).length:=by
 have J:∀k,¬(∀x∈Md g (Me g I k),x∈Me g I k)->(Q8 g I k).length+1<=(Q8 g I (k+1)).length:=by
  intro k X;have⟨x,O⟩:=Classical.not_forall.1 X;have⟨W,Y⟩:=Classical.not_imp.1 O;obtain⟨i,p,y,rfl,hp,_⟩:=HJ.1 W;have hn:i∉Q8 g I k:=λh=>Y (by have:=(ahi.1 h).2;simp_all)
  have:=afz (l:=i::Q8 g I k) (m:=Q8 g I (k+1)) (ahE.2 ⟨hn,List.nodup_range.filter _⟩) λz u=>by
   refine ahi.2 ?_
   rcases ag6.1 u with rfl|u
   ·grind[List.getElem?_eq_some_iff,decide_eq_true,xa]
   ·obtain⟨U,V⟩:=ahi.1 u;exact⟨U,aht (xa.2 (.inl (agQ V)))⟩
  omega
 intro k
 induction k with
 |zero=>
  grind
 |succ k ih=>
  grind[Md,Me,aaL,absurd]
theorem Q9:∀x∈Md g (cls g I),x∈cls g I:=by
 rcases Xk (g:=g) (I:=I) g.prods.length with h|h
 ·exact h
 grind[Q8,List.range,List.length_filter_le,List.length_range]
theorem B_:x∈cls g I↔vF g I x:=by
 refine⟨DV _ x,λh=>?_⟩
 induction h with
 |base h=>exact OD _ _ h
 |step _ h1 h2 h3 ih=>exact Q9 _ (HJ.2 ⟨_,_,_,rfl,h2,ih,h1,h3⟩)
theorem Mg:oD (cls g I):=Mf _
theorem aaM{l:List au}(hs:oD l)(hm:∀x,x∈l↔vF g I x):l=cls g I:=hs.one Mg λx=>by rw[hm,B_]
def bx(g:ah)(I:List au)(s:Int):List au:=((cls g I).filter λx=>decide (ng g x=s)).map λx=>⟨x.prod,x.dot+1⟩
theorem OE{s:Int}:oD (bx g I s):=by
 unfold bx oD;rw[ahD];refine(Mg.filter _).imp λh=>?_
 simp_all[au.lt]
theorem dj{s:Int}:x∈bx g I s↔∃y,vF g I y/\ng g y=s/\x=⟨y.prod,y.dot+1⟩:=by
 unfold bx;rw[agY]
 constructor
 ·rintro⟨y,O,rfl⟩;obtain⟨u,J⟩:=ahi.1 O;exact⟨y,B_.1 u,agQ J,rfl⟩
 ·rintro⟨y,u,J,rfl⟩;exact⟨y,ahi.2 ⟨B_.2 u,aht J⟩,rfl⟩
end
end
end Go.Proofs.YtaoaemnefghnbaaGreatDoor
