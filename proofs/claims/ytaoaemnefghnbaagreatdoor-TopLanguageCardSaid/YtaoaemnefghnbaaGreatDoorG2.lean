/- A part of the claim. -/
import Derived.Test.YtaoaemnefghnbaaGreatDoorG1
import Derived.Test.YtaoaemnefghnbaaGreatDoorProg
import Derived.Lib.TrailingZeros
import Derived.Laws.IdiomCopy
import Derived.MapKept
import Derived.Laws.RangeAny
import Derived.Laws.Strings
import Derived.Lib.OthersKept
import Derived.Laws.StructEq
set_option linter.unusedVariables false
set_option linter.unusedSectionVars false
set_option maxRecDepth 100000
set_option maxHeartbeats 16000000
namespace Go.Proofs.YtaoaemnefghnbaaGreatDoor
open Tryz
def YG:List (aC×dL):=[(3,⟨(.int .i64),1,8,(some (O 0)),[],[],true⟩),(4,⟨.bool,1,1,(some (J false)),[],[],true⟩),(5,⟨(.int .u8),1,1,(some (.int .u8 0)),[],[],true⟩),(9,⟨.string,1,16,(some (.string ⟨#[]⟩)),[],[],true⟩),(24,⟨(.slice 3),1,24,(some (D)),[],[],false⟩),(39,⟨(.slice 235),1,24,(some (D)),[],[],false⟩),(47,⟨(.slice 4),1,24,(some (D)),[],[],false⟩),(86,⟨(.slice 170),1,24,(some (D)),[],[],false⟩),(90,⟨.struct,3,40,(some (.agg #[(O 0),(O 0),(D)])),[(0,1,false),(1,1,false),(2,1,false)],[],false⟩),(132,⟨.struct,3,24,(some (.agg #[(O 0),(O 0),(O 0)])),[(0,1,false),(1,1,false),(2,1,false)],[],true⟩),(134,⟨.struct,3,40,(some (.agg #[(O 0),(D),(O 0)])),[(0,1,false),(1,1,false),(2,1,false)],[],false⟩),(138,⟨.struct,4,48,(some (.agg #[(O 0),(O 0),(O 0),(D)])),[(0,1,false),(1,1,false),(2,1,false),(3,1,false)],[],false⟩),(170,⟨.struct,2,16,(some (.agg #[(O 0),(O 0)])),[(0,1,false),(1,1,false)],[],true⟩),(178,⟨(.ptr 356),1,8,(some (u none)),[],[],true⟩),(188,⟨(.map 9 3),1,8,(some (.map none)),[],[],false⟩),(193,⟨.struct,2,16,(some (.agg #[(O 0),(O 0)])),[(0,1,false),(1,1,false)],[],true⟩),(194,⟨(.slice 193),1,24,(some (D)),[],[],false⟩),(195,⟨(.map 3 194),1,8,(some (.map none)),[],[],false⟩),(197,⟨(.slice 203),1,24,(some (D)),[],[],false⟩),(199,⟨.struct,2,48,(some (.agg #[(D),(D)])),[(0,1,false),(1,1,false)],[],false⟩),(203,⟨.struct,2,16,(some (.agg #[(O 0),(O 0)])),[(0,1,false),(1,1,false)],[],true⟩),(212,⟨.struct,3,40,(some (.agg #[(O 0),(O 0),(D)])),[(0,1,false),(1,1,false),(2,1,false)],[],false⟩),(216,⟨.struct,3,40,(some (.agg #[(O 0),(O 0),(D)])),[(0,1,false),(1,1,false),(2,1,false)],[],false⟩),(235,⟨.struct,3,24,(some (.agg #[(O 0),(O 0),(O 0)])),[(0,2,true),(2,1,false)],[],true⟩),(276,⟨(.map 3 3),1,8,(some (.map none)),[],[],false⟩),(288,⟨.struct,2,24,(some (.agg #[(.string ⟨#[]⟩),(O 0)])),[(0,1,false),(1,1,false)],[],true⟩),(297,⟨.struct,2,16,(some (.agg #[(O 0),(O 0)])),[(0,1,false),(1,1,false)],[],true⟩),(328,⟨(.map 3 24),1,8,(some (.map none)),[],[],false⟩),(346,⟨(.map 297 24),1,8,(some (.map none)),[],[],false⟩),(347,⟨(.map 297 3),1,8,(some (.map none)),[],[],false⟩),(356,⟨.struct,2,32,(some (.agg #[(D),(O 0)])),[(0,1,false),(1,1,false)],[],false⟩),(368,⟨(.map 373 86),1,8,(some (.map none)),[],[],false⟩),(369,⟨(.map 373 86),1,8,(some (.map none)),[],[],false⟩),(373,⟨.struct,2,16,(some (.agg #[(O 0),(O 0)])),[(0,1,false),(1,1,false)],[],true⟩),(376,⟨.struct,2,48,(some (.agg #[(D),(D)])),[(0,2,true)],[],false⟩),(379,⟨.struct,8,192,(some (.agg #[(D),(D),(D),(D),(D),(D),(D),(D)])),[(0,8,true)],[],false⟩),(419,⟨(.int .u64),1,8,(some (.int .u64 0)),[],[],true⟩),(426,⟨(.slice 5),1,24,(some (D)),[],[],false⟩),(513,⟨.struct,2,16,(some (.agg #[(O 0),(O 0)])),[(0,1,false),(1,1,false)],[],true⟩)]
noncomputable def Ty(t:aC):Option dL:=match Wj YG t with
 |some i=>some i
 |none=>sM prog t
theorem aY:fb prog Ty:=λt i h=>by
 rcases e:Wj YG t with _|j
 ·exact⟨i.cmp,(by simpa[Ty,e] using h:sM prog t=some i)⟩
 exact Uo (l:=YG) (by kernel_rfl) t i (by simpa[Ty,e] using h)
theorem Ih{P:iI}{F b:aM->Bool}(h:t_ P F)(h':t_ P b):t_ P λc=>F c||b c:=λd e=>by
 rcases kj _ _▸e with a|a
 ·exact h d a
 ·exact h' d a
def Fn(g:aM):Bool:=(Nat.ble 3 g&&Nat.ble g 349)||(Nat.ble 351 g&&Nat.ble g 397)||(Nat.ble 399 g&&Nat.ble g 400)||(Nat.ble 419 g&&Nat.ble g 425)||(Nat.ble 432 g&&Nat.ble g 432)
theorem YH:t_ prog Fn:=(Ih (Ih (Ih (Ih (Dc (by kernel_rfl))<|Dc (by kernel_rfl))<|Dc (by kernel_rfl))<|Dc (by kernel_rfl))<|Dc (by kernel_rfl))
theorem qa:prog.follows .mixedOrders=true:=by kernel_rfl
abbrev vU(l:Ay):ah:=.tuple (Array.mk l)
abbrev cL(w:ga)(a:vP)(v:ah):Prop:=w.cell? a=some v
abbrev rA(w:ga)(a:vP)(n:Nat)(l:Ay):Prop:=iA w a 0 n=some l
abbrev χ(w:ga)(s:vP)(K:ah->Prop):Prop:=∃a b c d e f g h i j k l m,rA w s 5 [T a b c,T d e f,T g h i,O j,T k l m]/\K (vG [T a b c,T d e f,T g h i,O j,T k l m])
abbrev φ(a:E)(b c:Nat)(d:E)(e f:Nat)(g:E)(h i:Nat)(j:Int)(k:E)(l m:Nat):ah:=.agg #[(T a b c),(T d e f),(T g h i),(O j),(T k l m)]
abbrev ψ(a:E)(b c:Nat)(d:E)(e f:Nat)(g:E)(h i:Nat)(j:Int)(k:E)(l m:Nat):Obj:=oC [T a b c,T d e f,T g h i,O j,T k l m] 27
abbrev τ(l:List (Nat×S1))(K:lP l->lN l->Prop):Prop:=∃x,∃y,K x y
abbrev ρ:=aA prog
abbrev rE:=jm prog Ev
abbrev gz(I:ga->Prop)(a:vP)(K:Option vP->Nat->Nat->Prop):Prop:=∃c d e,(∀u,I u->cL u a (T c d e))/\K c d e
abbrev gy(I:ga->Prop)(a:vP)(K:Int->Prop):Prop:=∃c,(∀u,I u->cL u a (O c))/\K c
abbrev qd(I:ga->Prop)(a:vP)(K:Bool->Prop):Prop:=∃c,(∀u,I u->cL u a (J c))/\K c
abbrev jc(I:ga->Prop)(a:vP)(K:Option vP->Prop):Prop:=∃c,(∀b,I b->cL b a (u c))/\K c
abbrev gj(w:ga)(K:ga->WP->Prop):Prop:=∀u,drawn w u->∃I:WP,I u/\K u I
abbrev nA{A:Type}(c:A->WP)(d:A->ga->Nat)(x0:A)(w:ga)(y0:A)(u:ga):Prop:=c x0 w/\d x0 w<d y0 u
abbrev nB{A:Type}{B:Type}(c:A->B->WP)(d:A->B->ga->Nat)(x0:A)(x1:B)(w:ga)(y0:A)(y1:B)(u:ga):Prop:=c x0 x1 w/\d x0 x1 w<d y0 y1 u
abbrev nC{A:Type}{B:Type}{C:Type}(c:A->B->C->WP)(d:A->B->C->ga->Nat)(x0:A)(x1:B)(x2:C)(w:ga)(y0:A)(y1:B)(y2:C)(u:ga):Prop:=c x0 x1 x2 w/\d x0 x1 x2 w<d y0 y1 y2 u
abbrev nD{A:Type}{B:Type}{C:Type}{D:Type}(c:A->B->C->D->WP)(d:A->B->C->D->ga->Nat)(x0:A)(x1:B)(x2:C)(x3:D)(w:ga)(y0:A)(y1:B)(y2:C)(y3:D)(u:ga):Prop:=c x0 x1 x2 x3 w/\d x0 x1 x2 x3 w<d y0 y1 y2 y3 u
abbrev nE{A:Type}{B:Type}{C:Type}{D:Type}{E:Type}(c:A->B->C->D->E->WP)(d:A->B->C->D->E->ga->Nat)(x0:A)(x1:B)(x2:C)(x3:D)(x4:E)(w:ga)(y0:A)(y1:B)(y2:C)(y3:D)(y4:E)(u:ga):Prop:=c x0 x1 x2 x3 x4 w/\d x0 x1 x2 x3 x4 w<d y0 y1 y2 y3 y4 u
abbrev kR(t:aC)(l:Ay):=ft t (Array.mk l)
abbrev vF(d:aM)(e:Ay):ah:=Value.func (.func d) #[] ⟨e⟩
abbrev bQ(p:Prop)[Decidable p](a b:Prop):Prop:=br (decide p) a b
abbrev gF(f:aM)(l:Ay)(w:ga)(K:Option vP->Nat->Nat->ga->Prop):Prop:=rE f l w λa b=>∃c d e,a=T c d e/\K c d e b
abbrev gp(w:ga)(a:vP)(K:Option vP->Nat->Nat->Prop):Prop:=∃c d e,cL w a (T c d e)/\K c d e
abbrev iC(f:aM)(l:Ay)(w:ga)(K:Int->ga->Prop):Prop:=rE f l w λa b=>∃c,a=O c/\K c b
abbrev gX(w:ga)(a:vP)(K:Int->Prop):Prop:=∃c,cL w a (O c)/\K c
abbrev iu(f:aM)(l:Ay)(w:ga)(K:Bool->ga->Prop):Prop:=rE f l w λa b=>∃c,a=J c/\K c b
abbrev mH(w:ga)(a:vP)(K:Bool->Prop):Prop:=∃c,cL w a (J c)/\K c
abbrev kV(f:aM)(l:Ay)(w:ga)(K:Option vP->ga->Prop):Prop:=rE f l w λa b=>∃c,a=u c/\K c b
abbrev jQ(w:ga)(a:vP)(K:Option vP->Prop):Prop:=∃c,cL w a (u c)/\K c
abbrev rS:=@bg ah prog
abbrev iT(t:aC)(o:Option vP)(n c b:Nat)(w:ga)(K:Option vP->Nat->Nat->ga->Prop):Prop:=rS (kR t [T o n c,T (some (Z b)) 1 1]) w λv u=>∃x y z,v=T x y z/\K x y z u
abbrev gT(x:Int)(w:ga)(K:(Int->ga->Prop)->(Int->ga->Nat)->Int->ga->Prop):Prop:=∃(c:Int->ga->Prop)(d:Int->ga->Nat),c x w/\∀(_:ν) e f,c e f->K c d e f
abbrev hU(w:ga)(k j:Nat)(K:Option vP->Nat->Nat->Prop):Prop:=gp w (Addr.add (Z k) j) K
abbrev jo(I:ga->Prop)(k j:Nat)(K:Option vP->Nat->Nat->Prop):Prop:=gz I (Addr.add (Z k) j) K
abbrev i_(w:ga)(k j:Nat)(K:Int->Prop):Prop:=gX w (Addr.add (Z k) j) K
abbrev jr(I:ga->Prop)(k j:Nat)(K:Int->Prop):Prop:=gy I (Addr.add (Z k) j) K
abbrev aLb(w:ga)(k j:Nat)(K:Bool->Prop):Prop:=mH w (Addr.add (Z k) j) K
abbrev aDb(I:ga->Prop)(k j:Nat)(K:Bool->Prop):Prop:=qd I (Addr.add (Z k) j) K
abbrev aLp(w:ga)(k j:Nat)(K:Option vP->Prop):Prop:=jQ w (Addr.add (Z k) j) K
abbrev aDp(I:ga->Prop)(k j:Nat)(K:Option vP->Prop):Prop:=jc I (Addr.add (Z k) j) K
abbrev H(w:ga)(l:Ay)(t:aC)(K:Nat->ga->Prop):Prop:=new w (oC l t) K
abbrev gx(c:Int->ga->Prop)(d:Int->ga->Nat)(e:Int)(w u:ga):Prop:=K (e+1)/\nA c d (e+1) w e u
abbrev oL(I:ga->Prop)(w:ga)(K:WP->Prop):Prop:=∃J:WP,J w/\(∀u,J u->I u)/\K J
abbrev rG(I:ga->Prop)(a:vP)(K:Int->Int->Prop):Prop:=∃x y,(∀u,I u->rA u a 2 [O x,O y])/\K x y
abbrev kX(f:aM)(l:Ay)(w:ga)(K:Option vP->Nat->Nat->Int->ga->Prop):Prop:=rE f l w λa b=>∃x0 x1 x2 x3,a=vU [T x0 x1 x2,O x3]/\K x0 x1 x2 x3 b
abbrev qf(f:aM)(l:Ay)(w:ga)(K:Option vP->Int->ga->Prop):Prop:=rE f l w λa b=>∃x0 x1,a=vU [u x0,O x1]/\K x0 x1 b
abbrev sN(f:aM)(l:Ay)(w:ga)(K:Option vP->Nat->Nat->Bool->ga->Prop):Prop:=rE f l w λa b=>∃x0 x1 x2 x3,a=vU [T x0 x1 x2,J x3]/\K x0 x1 x2 x3 b
abbrev sP(f:aM)(l:Ay)(w:ga)(K:Int->Int->ga->Prop):Prop:=rE f l w λa b=>∃x0 x1,a=vU [O x0,O x1]/\K x0 x1 b
abbrev sR(f:aM)(l:Ay)(w:ga)(K:Int->Bool->ga->Prop):Prop:=rE f l w λa b=>∃x0 x1,a=vU [O x0,J x1]/\K x0 x1 b
theorem rv{i:aM}{fn:Func}(b:prog.funcs[i]? =some fn){args:Ay}{w:ga}{R:ah->ga->Prop}{a:Prop}(h:a)(A:a_:=⟨[],[],[],[]⟩)(e:fnV prog Ty Fn Ev A fn args w R=a:=by kernel_rfl):ρ i args w R:=YE aY YH qa b A (e▸h)
theorem DN{i:aM}{fn:Func}(b:prog.funcs[i]? =some fn)(A:a_){args:Ay}{w:ga}{R:ah->ga->Prop}{a:Prop}(e:fnD prog Ty Fn Ev A fn args w R=a)(h:a):ρ i args w R:=DL aY YH qa b A vN (e▸h)
section
variable{a b c d:E}{i j k l m n o p:Nat}{A B C:Int}{w:ga}{R:ah->WP}
theorem uc(h:new w (ψ a i j b k l c m n A d o p) λa b=>∃(c:lP [(20,mR)]),(hU b a 1 λd e f=>bQ ((e:Int)<2) (c true b) (hU b a 1 λd e f=>M d e 0 1 λd=>∃e,cL b d (Value.string e)/\br (!ByteArray.toList e==ByteArray.toList (ByteArray.mk (Array.mk []))) (c true b) (hU b a 4 λd e f=>c (decide ((e:Int)<2)) b)))/\∀(_:ν) b d,c b d->br b (R (J false) d) (hU d a 4 λb c e=>M b c 0 3 λb=>∃c e f g h,rA d b 3 [O c,T e f g,O h]/\H d [O 0,D,O 0] 134 λb d=>bC d (Z b) [O c,T e f g,O h] λc=>gj c λd c=>gy c (Z b) λe=>gz c (Z a) λf g h=>br (e !=(g:Int)) (R (J false) d) (jo c b 1 λe f g=>br ((f:Int) !=1) (R (J false) d) (jo c b 1 λe f g=>M e f 0 1 λe=>gy c e λf=>jr c a 3 λe=>br (f !=e) (R (J false) d) (jr c b 2 λe=>br (e !=0) (R (J false) d) (χ d (Z a) λa=>iu 121 [a,O 1] d λc b=>R (J c) b)))))):ρ 52 [φ a i j b k l c m n A d o p] w R:=rv func52 h ⟨[],[(2,[(20,mR)])],[],[]⟩
theorem Hn(h:new w (ψ a i j b k l c m n A d o p) λa b=>∃(c:lP [(21,mR)]),(hU b a 1 λd e f=>br ((e:Int)==0) (c true b) (hU b a 1 λd e f=>M d e 0 1 λd=>∃e,cL b d (Value.string e)/\br (!ByteArray.toList e==ByteArray.toList (ByteArray.mk (Array.mk []))) (c true b) (χ b (Z a) λa=>iu 164 [a,O 1] b λd b=>c (!d) b)))/\∀(_:ν) b d,c b d->br b (R (J false) d) (χ d (Z a) λb=>sN 165 [b,O 1] d λd e f g c=>hU c a 4 λb d e=>gj c λe c=>br g (M b d 0 3 λf=>gy c f λg=>gz c (Z a) λf h i=>br (g==(h:Int)) (M b d 0 3 λf=>gz c (f.add 1) λg h i=>br ((h:Int)==1) (M b d 0 3 λf=>gz c (f.add 1) λg h i=>M g h 0 1 λf=>gy c f λg=>jr c a 3 λf=>br (g==f) (M b d 0 3 λa=>gy c (a.add 2) λb=>R (J (b==0)) e) (R (J false) e)) (R (J false) e)) (R (J false) e)) (R (J false) e))):ρ 81 [φ a i j b k l c m n A d o p] w R:=rv func81 h ⟨[],[(2,[(21,mR)])],[],[]⟩
theorem mT{d:Bool}(h:iC 175 [T a i j,J d] w λc b=>R (J (decide (0<=c))) b):ρ 84 [T a i j,J d] w R:=rv func84 h
theorem ym(h:rE 172 [u a] w λa b=>∃c d,a=vF c d/\gF 181 [vF c d] b λc d e b=>R (T c d e) b):ρ 89 [.pointer a] w R:=rv func89 h
theorem bW{d:aM}{e:Ay}(h:gT 0 w λb c f g=>bQ (f<(i:Int)) (M a i f 1 λa=>∃h,World.cell? g a=some (O h)/\p9 (Fn d) (iu d (O h::e) g λe d=>br e (R (O f) d) (gx b c f d g))) (R (O (-1)) g)):ρ 90 [T a i j,(.func (.func d) #[] ⟨e⟩)] w R:=rv func90 h ⟨[(2,[(8,aP)])],[],[],[]⟩
def Jh(a:Int)(b:E)(c d:Nat)(w:ga)(R:ah->WP):Prop:=  K ((if 1024<if a<0 then 0 else a then 1024 else if a<0 then 0 else a)+63)/\nz 64/\K (Int.tdiv ((if 1024<if a<0 then 0 else a then 1024 else if a<0 then 0 else a)+63) 64)/\qT (Int.tdiv ((if 1024<if a<0 then 0 else a then 1024 else if a<0 then 0 else a)+63) 64) (Int.tdiv ((if 1024<if a<0 then 0 else a then 1024 else if a<0 then 0 else a)+63) 64) 8/\new w (Obj.cells (Array.mk (ir (Int.toNat (Int.tdiv ((if 1024<if a<0 then 0 else a then 1024 else if a<0 then 0 else a)+63) 64)) [Value.int IntKind.u64 0])) 419) λe f=>H f [T (some (Z e)) (Int.toNat (Int.tdiv ((if 1024<if a<0 then 0 else a then 1024 else if a<0 then 0 else a)+63) 64)) (Int.toNat (Int.tdiv ((if 1024<if a<0 then 0 else a then 1024 else if a<0 then 0 else a)+63) 64)),O (if 1024<if a<0 then 0 else a then 1024 else if a<0 then 0 else a)] 356 λa e=>jm prog Ev 103 [u (some (Z a)),T b c d] e λb c=>∃d,b=O d/\R (u (some (Z a))) c
theorem P_(a:Int)(b:E)(c d:Nat)(w:ga)(R:ah->WP)(h:Jh a b c d w R):ρ 102 [O a,T b c d] w R:=rv func102 h
theorem E9(h:τ [(5,aP),(10,aP)] λc d=>c 0 0 w/\∀(_:ν) e f g,c e f g->bQ (f<(i:Int)) (M b i f 1 λb=>∃h,World.cell? g b=some (O h)/\bQ (0<=h) (iC 171 [u a] g λj i=>bQ (h<j) (nn a λb=>∃j k l,World.cell? i b=some (T j k l)/\iu 199 [T j k l,O h] i λj i=>br (!j) (nn a λa=>∃b j k,World.cell? i a=some (T b j k)/\rE 200 [T b j k,O h] i λa b=>a=vU []/\K (e+1)/\K (f+1)/\nB c d (e+1) (f+1) b e f g) (K (f+1)/\nB c d e (f+1) i e f g)) (K (f+1)/\nB c d e (f+1) i e f g)) (K (f+1)/\nB c d e (f+1) g e f g)) (R (O e) g)):ρ 103 [.pointer a,T b i j] w R:=rv func103 h ⟨[(3,[(5,aP),(10,aP)])],[],[],[]⟩
theorem jf(h:br (Option.isNone a) (R (D) w) (H w [] 3 λb c=>rS (kR 24 [T (some (Z b)) 0 0,T a i j]) c λa b=>∃c d e,a=T c d e/\R (T c d e) b)):ρ 115 [T a i j] w R:=rv func115 h
theorem xa(h:new w (ψ a i j b k l c m n A d o p) λa b=>∃(c:lP [(43,mR)]),(hU b a 1 λd e f=>K (64+B)/\bQ (64+B<(e:Int)) (c true b) (gp b (Z a) λd e f=>bQ (65<(e:Int)) (c true b) (hU b a 4 λd e f=>K (96+B)/\bQ (96+B<(e:Int)) (c true b) (hU b a 4 λd e f=>K (1+B)/\bQ ((e:Int)<1+B) (c true b) (hU b a 2 λd e f=>c (decide (64<(e:Int))) b)))))/\∀(_:ν) b d,c b d->br b (R (J false) d) (gp d (Z a) λb c e=>K ((c:Int)-1)/\hU d a 1 λb e f=>K ((c:Int)-1+(e:Int))/\K ((c:Int)-1+(e:Int)-B)/\bQ (64<(c:Int)-1+(e:Int)-B) (R (J false) d) (χ d (Z a) λb=>iu 214 [b] d λd c=>br (!d) (R (J false) c) (χ c (Z a) λb=>iu 215 [b] c λd c=>χ c (Z a) λb=>iu 216 [b,O B] c λe c=>χ c (Z a) λb=>gp c (Z a) λf g h=>K ((g:Int)+B)/\iu 217 [b,O B,O ((g:Int)+B)] c λf c=>χ c (Z a) λb=>gF 146 [b,O B] c λg h i c=>gj c λb c=>br d (br e (br f (jo c a 1 λd e f=>K ((e:Int)-B)/\br ((h:Int)==(e:Int)-B) (jr c a 3 λd=>gz c (Z a) λe f g=>K ((f:Int)+B)/\bQ ((f:Int)+B<=d) (jr c a 3 λd=>∃e f g h i j k l m n o p q,(∀b,c b->rA b (Z a) 5 [T e f g,T h i j,T k l m,O n,T o p q])/\iC 148 [vG [T e f g,T h i j,T k l m,O n,T o p q]] b λe b=>c b/\R (J (decide (d<e))) b) (R (J false) b)) (R (J false) b)) (R (J false) b)) (R (J false) b)) (R (J false) b))))):ρ 121 [φ a i j b k l c m n A d o p,O B] w R:=rv func121 h ⟨[],[(2,[(43,mR)])],[],[]⟩
theorem cr{d:aM}{e:Ay}(h:iC 90 [T a i j,vF d e] w λc b=>R (J (decide (0<=c))) b):ρ 126 [T a i j,(.func (.func d) #[] ⟨e⟩)] w R:=rv func126 h
theorem vt(h:new w (ψ a i j b k l c m n A d o p) λa b=>τ [(5,jG),(6,aP)] λc d=>c none 0 0 B b/\∀(_:ν) b e f g h,c b e f g h->hU h a 4 λi j k=>bQ (g<(j:Int)) (τ [(7,mR),(8,aP)] λi j=>i false 0 h/\∀(_:ν) k l m,i k l m->bQ (l<(e:Int)) (gj m λc d=>br k (K (l+1)/\nB i j true (l+1) c k l m) (M b e l 1 λb=>gy d b λe=>jo d a 4 λb f h=>M b f g 3 λa=>gy d a λb=>K (l+1)/\nB i j (e==b) (l+1) c k l m)) (br (!k) (hU m a 4 λi j k=>M i j g 3 λa=>gX m a λi=>H m [O i] 3 λa i=>iT 24 b e f a i λj k l i=>K (g+1)/\nD c d j k l (g+1) i b e f g h) (K (g+1)/\nD c d b e f (g+1) m b e f g h))) (R (T b e f) h)):ρ 146 [φ a i j b k l c m n A d o p,O B] w R:=rv func146 h ⟨[(3,[(5,jG),(6,aP)]),(7,[(7,mR),(8,aP)])],[],[],[]⟩
theorem sU(h:new w (ψ a i j b k l c m n A d o p) λa b=>gp b (Z a) λc d e=>hU b a 1 λc e f=>K ((d:Int)+(e:Int))/\R (O ((d:Int)+(e:Int))) b):ρ 148 [φ a i j b k l c m n A d o p] w R:=rv func148 h
theorem Fa(h:new w (ψ a i j b k l c m n A d o p) λa b=>∃(c:lP [(57,mR)]),(gp b (Z a) λd e f=>br ((e:Int)==0) (c true b) (gp b (Z a) λd e f=>M d e 0 2 λd=>∃e f,rA b d 2 [Value.string e,O f]/\∃d,Sem.run prog (sK BinOp.neq 288 (Operand.tmp 20) (Operand.tmp 21) (vG [Value.string e,O f]) (vG [Value.string (ByteArray.mk (Array.mk [])),O 0])) b=Result.ok d b/\∃e,d=J e/\br e (c true b) (hU b a 1 λd e f=>bQ ((e:Int)<=B) (c true b) (gp b (Z a) λd e f=>bQ (65<(e:Int)) (c true b) (hU b a 1 λd e f=>K (64+B)/\bQ (64+B<(e:Int)) (c true b) (gp b (Z a) λd e f=>K ((e:Int)-1)/\hU b a 1 λd f g=>K ((e:Int)-1+(f:Int))/\K ((e:Int)-1+(f:Int)-B)/\c (decide (64<(e:Int)-1+(f:Int)-B)) b))))))/\∀(_:ν) b d,c b d->br b (R (J false) d) (new d (Obj.map (Array.mk []) 0) λb c=>gp c (Z a) λd e f=>mA d e f (some 1) none none 2 λ(d:E)(e _:Nat)=>τ [(5,jG),(63,aP)] λf g=>f none 0 0 0 c/\∀(_:ν) c h i j k,f c h i j k->bQ (j<(e:Int)) (M d e j 2 λd=>∃e l,rA k d 2 [Value.string e,O l]/\H k [Value.string (ByteArray.mk (Array.mk [])),O 0] 288 λd m=>bC m (Z d) [Value.string e,O l] λe=>∃(l:lP [(83,mR)]),(∃b,cL e (Z d) (Value.string b)/\iu 236 [Value.string b] e λe c=>br (!e) (l true c) (i_ c d 1 λb=>bQ (b<0) (l true c) (i_ c d 1 λb=>hU c a 2 λd e f=>l (decide ((e:Int)<b)) c)))/\∀(_:ν) a e,l a e->br a (R (J false) e) (∃a,cL e (Z d) (Value.string a)/\H e [Value.string a] 9 λa e=>iT 23 c h i a e λl m n e=>i_ e d 1 λa=>bg prog (Instr.mapUpdate 276 (Value.map (some b)) (O a) (O 1)) e λ(_:Unit)(a:ga)=>K (j+1)/\nD f g l m n (j+1) a c h i j k)) (hU k a 2 λd e f=>gT 0 k λf g j k=>bQ (j<(e:Int)) (M d e j 1 λa=>gX k a λc=>bQ (c<1) (R (J false) k) (bQ (3<c) (R (J false) k) (K (j+1)/\bg prog (Instr.lookup 276 (Value.map (some b)) (O (j+1)) false) k λa b=>∃c,a=O c/\br (c==0) (R (J false) b) (gx f g j b k)))) (hU k a 1 λb d e=>mA b d e (some B) none none 1 λ(a:E)(b d:Nat)=>iu 254 [T c h i] k λf e=>br f (iu 254 [T a b d] e λf e=>br f (iu 255 [T a b d,vF 256 []] e λc b=>R (J !c) b) (R (J false) e)) (R (J false) e))))):ρ 164 [φ a i j b k l c m n A d o p,O B] w R:=rv func164 h ⟨[(6,[(5,jG),(63,aP)]),(14,[(96,aP)])],[(2,[(57,mR)]),(9,[(83,mR)])],[],[]⟩
theorem yr(h:new w (ψ a i j b k l c m n A d o p) λa b=>∃(c:lP [(25,mR)]),(hU b a 4 λd e f=>bQ ((e:Int)<=B) (c true b) (hU b a 4 λd e f=>K (96+B)/\c (decide (96+B<(e:Int))) b))/\∀(_:ν) b d,c b d->br b (R (vU [D,J false]) d) (gp d (Z a) λb c e=>hU d a 1 λb e f=>K ((c:Int)+(e:Int))/\gp d (Z a) λb f g=>K ((f:Int)+B)/\hU d a 4 λb g h=>mA b g h (some B) none none 3 λ(b:E)(g _:Nat)=>τ [(8,jG),(43,aP)] λh i=>h none 0 0 0 d/\∀(_:ν) d j k l m,h d j k l m->bQ (l<(g:Int)) (M b g l 3 λb=>∃g n o p q,rA m b 3 [O g,T n o p,O q]/\H m [O 0,D,O 0] 134 λb r=>bC r (Z b) [O g,T n o p,O q] λg=>∃(n:lP [(69,mR)]),(gX g (Z b) λd=>bQ (d<(f:Int)+B) (n true g) (gX g (Z b) λd=>bQ ((c:Int)+(e:Int)<=d) (n true g) (i_ g b 2 λc=>bQ (c<0) (n true g) (i_ g b 2 λc=>hU g a 2 λb d e=>n (decide ((d:Int)<c)) g))))/\∀(_:ν) g o,n g o->br g (R (vU [D,J false]) o) (hU o b 1 λg n p=>gT 0 o λp q o r=>bQ (o<(n:Int)) (M g n o 1 λb=>gX r b λd=>bQ (d<1) (R (vU [D,J false]) r) (bQ ((c:Int)+(e:Int)<=d) (R (vU [D,J false]) r) (gp r (Z a) λb c e=>bQ ((c:Int)<=d) (bQ (d<(f:Int)+B) (R (vU [D,J false]) r) (gx p q o r r)) (gx p q o r r)))) (gX r (Z b) λa=>iu 257 [T d j k,O a] r λe c=>br (!e) (gX c (Z b) λa=>H c [O a] 3 λa b=>iT 24 d j k a b λc e f b=>K (l+1)/\nD h i c e f (l+1) b d j k l m) (K (l+1)/\nD h i d j k (l+1) c d j k l m)))) (gj m λb g=>jo g a 1 λh i l=>K ((i:Int)-B)/\br ((j:Int)==(i:Int)-B) (jr g a 3 λh=>bQ ((f:Int)+B<=h) (jr g a 3 λf=>R (vU [T d j k,J (decide (f<(c:Int)+(e:Int)))]) b) (R (vU [T d j k,J false]) b)) (R (vU [T d j k,J false]) b)))):ρ 165 [φ a i j b k l c m n A d o p,O B] w R:=rv func165 h ⟨[(7,[(8,jG),(43,aP)]),(12,[(73,aP)])],[(2,[(25,mR)]),(10,[(69,mR)])],[],[]⟩
theorem Jk(h:new w (ψ a i j b k l c m n A d o p) λa b=>χ b (Z a) λc=>iu 164 [c,O 0] b λd c=>br (!d) (R (J false) c) (χ c (Z a) λa=>sN 165 [a,O 0] c λc d e f b=>br f (iu 258 [T c d e] b λc b=>R (J c) b) (R (J false) b))):ρ 166 [φ a i j b k l c m n A d o p] w R:=rv func166 h
theorem Fc(h:bQ (0<=A) (iC 171 [u a] w λd c=>bQ (A<d) (nn a λa=>∃b d e,World.cell? c a=some (T b d e)/\iu 199 [T b d e,O A] c λc b=>R (J c) b) (R (J false) c)) (R (J false) w)):ρ 168 [.pointer a,O A] w R:=rv func168 h
theorem jJ(h:br (Option.isNone a) (R (D) w) (H w [] 288 λb c=>rS (kR 22 [T (some (Z b)) 0 0,T a i j]) c λa b=>∃c d e,a=T c d e/\R (T c d e) b)):ρ 170 [T a i j] w R:=rv func170 h
theorem rZ(h:br (Option.isNone a) (R (O 0) w) (nn a λa=>∃b,World.cell? w (a.add 1)=some (O b)/\R (O b) w)):ρ 171 [.pointer a] w R:=rv func171 h
theorem Ff(h:H w [D] 354 λb c=>br (!Option.isNone a) (nn a λa=>∃d e f,World.cell? c a=some (T d e f)/\gF 263 [T d e f] c λd e f c=>gh c (Z b) (T d e f) λa=>R (vF 264 [u (some (Z b))]) a) (R (vF 264 [u (some (Z b))]) c)):ρ 172 [.pointer a] w R:=rv func172 h
theorem ph{a:E}{b c:Nat}{d:Bool}{w:ga}{R:ah->WP}(h:gT 0 w λc e f g=>bQ (f<(b:Int)) (M a b f 1 λa=>∃b,World.cell? g a=some (J b)/\br (d==b) (R (O f) g) (gx c e f g g)) (R (O (-1)) g)):ρ 175 [T a b c,J d] w R:=rv func175 h ⟨[(2,[(8,aP)])],[],[],[]⟩
theorem kq(h:mA a i j none (some (i:Int)) (some (i:Int)) 2 λ(a:E)(b c:Nat)=>R (T a b c) w):ρ 176 [T a i j] w R:=rv func176 h
theorem mW(h:mA a i j none (some (i:Int)) (some (i:Int)) 1 λ(a:E)(b c:Nat)=>R (T a b c) w):ρ 177 [T a i j] w R:=rv func177 h
theorem mC(h:br (Option.isNone a) (R (D) w) (H w [] 9 λb c=>rS (kR 23 [T (some (Z b)) 0 0,T a i j]) c λa b=>∃c d e,a=T c d e/\R (T c d e) b)):ρ 178 [T a i j] w R:=rv func178 h
theorem ue{a:aM}{b:Ay}(h:gF 269 [D,vF a b] w λc d e b=>R (T c d e) b):ρ 181 [(.func (.func a) #[] ⟨b⟩)] w R:=rv func181 h
theorem qb(h:nz 64/\K (Int.tdiv A 64)/\M a i (Int.tdiv A 64) 1 λa=>∃b,World.cell? w a=some (Value.int IntKind.u64 b)/\nz 64/\ns (Int.tmod A 64)/\R (J (p8 BinOp.and IntKind.u64 (bj IntKind.u64 b (Int.tmod A 64)) 1==1)) w):ρ 199 [T a i j,O A] w R:=rv func199 h
theorem BS(h:gj w λb c=>nz 64/\K (Int.tdiv A 64)/\M a i (Int.tdiv A 64) 1 λd=>∃e,(∀a,c a->World.cell? a d=some (Value.int IntKind.u64 e))/\nz 64/\ns (Int.tmod A 64)/\M a i (Int.tdiv A 64) 1 λa=>gh b a (Value.int IntKind.u64 (p8 BinOp.or IntKind.u64 e (Yd IntKind.u64 1 (Int.tmod A 64)))) λa=>R (vU []) a):ρ 200 [T a i j,O A] w R:=rv func200 h
theorem qX(h:new w (ψ a i j b k l c m n A d o p) λa b=>∃(c:lP [(25,mR)]),(gp b (Z a) λd e f=>br ((e:Int)==0) (c true b) (gp b (Z a) λd e f=>M d e 0 2 λd=>∃e,cL b d (Value.string e)/\br (!ByteArray.toList e==ByteArray.toList (ByteArray.mk (Array.mk []))) (c true b) (gp b (Z a) λd e f=>M d e 0 2 λa=>gX b (a.add 1) λd=>c (d !=0) b)))/\∀(_:ν) b d,c b d->br b (R (J false) d) (gT 1 d λb c d e=>gp e (Z a) λf g h=>bQ (d<(g:Int)) (gp e (Z a) λf g h=>M f g d 2 λf=>∃g,cL e f (Value.string g)/\iu 300 [Value.string g] e λh g=>∃(f:lP [(62,mR)]),(gj g λb c=>br (!h) (f true b) (gz c (Z a) λe g h=>M e g d 2 λe=>gy c (e.add 1) λg=>bQ (g<0) (f true b) (gz c (Z a) λe g h=>M e g d 2 λd=>gy c (d.add 1) λe=>jo c a 2 λd g h=>f (decide ((g:Int)<e)) b)))/\∀(_:ν) g h,f g h->br g (R (J false) h) (gT 1 h λf g h i=>bQ (h<d) (gj i λb c=>gz c (Z a) λe j k=>M e j h 2 λe=>∃j,(∀a,c a->cL a e (Value.string j))/\gz c (Z a) λe k l=>M e k d 2 λa=>∃d,(∀b,c b->cL b a (Value.string d))/\br (ByteArray.toList j==ByteArray.toList d) (R (J false) b) (gx f g h b i)) (gx b c d i e))) (R (J true) e))):ρ 214 [φ a i j b k l c m n A d o p] w R:=rv func214 h ⟨[(4,[(3,aP)]),(10,[(5,aP)])],[(2,[(25,mR)]),(8,[(62,mR)])],[],[]⟩
theorem qe(h:new w (ψ a i j b k l c m n A d o p) λa b=>gT 0 b λc d b e=>hU e a 2 λf g h=>bQ (b<(g:Int)) (τ [(4,mR),(5,aP)] λf g=>f false 0 e/\∀(_:ν) h i j,f h i j->gp j (Z a) λk l m=>bQ (i<(l:Int)) (br h (K (i+1)/\nB f g true (i+1) j h i j) (gp j (Z a) λc d e=>M c d i 2 λa=>gX j (a.add 1) λc=>K (b+1)/\K (i+1)/\nB f g (c==b+1) (i+1) j h i j)) (br (!h) (R (J false) j) (hU j a 2 λf g h=>M f g b 1 λf=>gX j f λg=>bQ (g<1) (R (J false) j) (hU j a 2 λf g h=>M f g b 1 λa=>gX j a λf=>bQ (3<f) (R (J false) j) (gx c d b j e))))) (R (J true) e)):ρ 215 [φ a i j b k l c m n A d o p] w R:=rv func215 h ⟨[(2,[(3,aP)]),(6,[(4,mR),(5,aP)])],[],[],[]⟩
theorem s8(h:new w (ψ a i j b k l c m n A d o p) λa b=>gT B b λc d b e=>hU e a 1 λf g h=>bQ (b<(g:Int)) (hU e a 1 λf g h=>M f g b 1 λf=>∃g,cL e f (Value.string g)/\iu 301 [Value.string g] e λh g=>br (!h) (R (J false) g) (gT B g λf h g i=>bQ (g<b) (gj i λc d=>jo d a 1 λe j k=>M e j g 1 λe=>∃j,(∀a,d a->cL a e (Value.string j))/\jo d a 1 λe k l=>M e k b 1 λa=>∃b,(∀c,d c->cL c a (Value.string b))/\br (ByteArray.toList j==ByteArray.toList b) (R (J false) c) (gx f h g c i)) (gx c d b i e))) (R (J true) e)):ρ 216 [φ a i j b k l c m n A d o p,O B] w R:=rv func216 h ⟨[(2,[(5,aP)]),(8,[(7,aP)])],[],[],[]⟩
theorem qZ(h:new w (ψ a i j b k l c m n A d o p) λa b=>gT B b λc d b e=>hU e a 4 λf g h=>bQ (b<(g:Int)) (hU e a 4 λf g h=>M f g b 3 λf=>∃g h i j k,rA e f 3 [O g,T h i j,O k]/\H e [O 0,D,O 0] 134 λf l=>bC l (Z f) [O g,T h i j,O k] λg=>∃(h:lP [(47,mR)]),(gj g λb c=>gy c (Z f) λd=>bQ (d<C) (h true b) (gy c (Z f) λd=>∃e g i j k l m n o p q r s,(∀b,c b->rA b (Z a) 5 [T e g i,T j k l,T m n o,O p,T q r s])/\iC 148 [vG [T e g i,T j k l,T m n o,O p,T q r s]] b λg e=>oL c e λb=>bQ (g<=d) (h true e) (jr b f 2 λc=>bQ (c<0) (h true e) (jr b f 2 λc=>jo b a 2 λd f g=>h (decide ((f:Int)<c)) e))))/\∀(_:ν) g i,h g i->br g (R (J false) i) (gT 0 i λg h i j=>hU j f 1 λk l m=>bQ (i<(l:Int)) (hU j f 1 λb c d=>M b c i 1 λb=>gX j b λc=>bQ (c<1) (R (J false) j) (χ j (Z a) λb=>iC 148 [b] j λe d=>bQ (e<=c) (R (J false) d) (gp d (Z a) λb e f=>bQ ((e:Int)<=c) (bQ (c<C) (R (J false) d) (gx g h i d j)) (gx g h i d j)))) (gx c d b j e))) (R (J true) e)):ρ 217 [φ a i j b k l c m n A d o p,O B,O C] w R:=rv func217 h ⟨[(2,[(7,aP)]),(8,[(9,aP)])],[(6,[(47,mR)])],[],[]⟩
def yu(a:vS)(w:ga)(R:ah->WP):Prop:=  br (!ByteArray.toList a==ByteArray.toList (ByteArray.mk (Array.mk []))) (br (decide ((↑(ByteArray.size a):Int)<=16)) (jm prog Ev 319 [Value.string a,vF 320 []] w λa b=>∃c,a=O c/\R (J (decide (c<0))) b) (R (J false) w)) (R (J false) w)
theorem Hq(a:vS)(w:ga)(R:ah->WP)(h:yu a w R):ρ 236 [.string a] w R:=rv func236 h
def yv(a:vS)(w:ga)(R:ah->WP):Prop:=  gT 0 w λb c d e=>br (decide (d<(↑(ByteArray.size a):Int))) (Nq d (ByteArray.size a)/\br ((↑(UInt8.toNat (sb a (Int.toNat d))):Int) !=95) (br (decide (p8 BinOp.or IntKind.u8 (↑(UInt8.toNat (sb a (Int.toNat d))):Int) 32<97)) (br (d==0) (R (J false) e) (br (decide ((↑(UInt8.toNat (sb a (Int.toNat d))):Int)<48)) (R (J false) e) (br (decide (57<(↑(UInt8.toNat (sb a (Int.toNat d))):Int))) (R (J false) e) (gx b c d e e)))) (br (decide (122<p8 BinOp.or IntKind.u8 (↑(UInt8.toNat (sb a (Int.toNat d))):Int) 32)) (br (d==0) (R (J false) e) (br (decide ((↑(UInt8.toNat (sb a (Int.toNat d))):Int)<48)) (R (J false) e) (br (decide (57<(↑(UInt8.toNat (sb a (Int.toNat d))):Int))) (R (J false) e) (gx b c d e e)))) (gx b c d e e))) (gx b c d e e)) (br (!ByteArray.toList a==ByteArray.toList (ByteArray.mk (Array.mk []))) (R (J (decide ((↑(ByteArray.size a):Int)<=16))) e) (R (J false) e))
theorem Hs(a:vS)(w:ga)(R:ah->WP)(h:yv a w R):ρ 240 [.string a] w R:=rv func240 h ⟨[(2,[(7,aP)])],[],[],[]⟩
theorem kz(h:mA a i j none (some (i:Int)) (some (i:Int)) 3 λ(a:E)(b c:Nat)=>R (T a b c) w):ρ 253 [T a i j] w R:=rv func253 h
theorem Hu(h:new w (Obj.map (Array.mk []) 0) λb c=>gT 0 c λd e c f=>bQ (c<(i:Int)) (M a i c 1 λa=>∃g,cL f a (Value.string g)/\bg prog (Instr.lookup 188 (Value.map (some b)) (Value.string g) false) f λa h=>∃i,a=O i/\K (i+1)/\bg prog (Instr.mapUpdate 188 (Value.map (some b)) (Value.string g) (O (i+1))) h λ(_:Unit)(a:ga)=>gx d e c a f) (∃a,Sem.run prog (Builtin.len_ (Array.mk [188]) 3 (Array.mk [Value.map (some b)])) f=Result.ok a f/\∃b,a=O b/\R (J (b==(i:Int))) f)):ρ 254 [T a i j] w R:=rv func254 h ⟨[(3,[(9,aP)])],[],[],[]⟩
theorem iD{d:aM}{e:Ay}(h:iC 322 [T a i j,vF d e] w λc b=>R (J (decide (0<=c))) b):ρ 255 [T a i j,(.func (.func d) #[] ⟨e⟩)] w R:=rv func255 h
abbrev lT:aM:=256
theorem AA{a:vS}(h:iu 240 [Value.string a] w λc b=>R (J !c) b):ρ 256 [.string a] w R:=rv func256 h
theorem oK(h:iC 323 [T a i j,O A] w λc b=>R (J (decide (0<=c))) b):ρ 257 [T a i j,O A] w R:=rv func257 h
theorem oN(h:K ((i:Int)-1)/\gT ((i:Int)-1) w λb c d e=>bQ (0<d) (gj e λf g=>M a i d 1 λh=>gy g h λj=>K (d-1)/\M a i (d-1) 1 λa=>gy g a λh=>iu 277 [O j,O h] f λg f=>br g (R (J false) f) (K (d-1)/\nA b c (d-1) f d e)) (R (J true) e)):ρ 258 [T a i j] w R:=rv func258 h ⟨[(2,[(3,aP)])],[],[],[]⟩
theorem jL(h:br (Option.isNone a) (R (D) w) (H w [] 419 λb c=>rS (kR 354 [T (some (Z b)) 0 0,T a i j]) c λa b=>∃c d e,a=T c d e/\R (T c d e) b)):ρ 263 [T a i j] w R:=rv func263 h
abbrev r6:aM:=264
def oX:a_:={ rngs:=[],loops:=[(1,[(7,(.one (.int .i64)))]),(3,[(4,(.one (.int .u64)))])],joins:=[],blocks:=[] }
def nK(E:ga->ga->Prop)(p0yield:Nat)(c0:vP)(w:ga)(R:ah->ga->Prop):Prop:=  ∃a b c,World.cell? w c0=some (T a b c)/\τ [(7,aP)] λc d=>c 0 w/\∀(_:ν) e f,c e f->br (decide (e<(↑b:Int))) (M a b e 1 λa=>∃b,World.cell? f a=some (Value.int IntKind.u64 b)/\τ [(4,S1.one (Cs.int IntKind.u64))] λa g=>a b f/\∀(_:ν) b h,a b h->br (b !=0) (K (64*e)/\jm prog E 265 [Value.int IntKind.u64 b] h λc d=>∃f,c=O f/\K (64*e+f)/\v_ prog E p0yield [O (64*e+f)] d λc d=>∃e,c=J e/\br (!e) (R (vT (Array.mk [])) d) (a (p8 BinOp.and IntKind.u64 b (IntKind.wrap IntKind.u64 (b-1))) d/\g (p8 BinOp.and IntKind.u64 b (IntKind.wrap IntKind.u64 (b-1))) d<g b h)) (K (e+1)/\c (e+1) h/\d (e+1) h<d e f)) (R (vT (Array.mk [])) f)
theorem xc(E:ga->ga->Prop)(a:Nat)(b:vP)(c:K8 E)(w:ga)(R:ah->ga->Prop)(h:nK E a b w R):jm prog E 264 [(.func (.yield a) #[] #[]),(.pointer (some b))] w R:=
 Dg aY YH qa func264 oX c (by kernel_rfl) ((by kernel_rfl:fnV prog Ty Fn E oX Tryz.f264 [(.func (.yield a) #[] #[]),(.pointer<|some b)] w R=nK E a b w R)▸h)
theorem nM(h:br (A==0) (R (O 64) w) (ns 58/\M (some (Z 0)) 64 (bj IntKind.u64 (IntKind.wrap IntKind.u64 (p8 BinOp.and IntKind.u64 A (IntKind.wrap IntKind.u64 (0-A))*285870213051353865)) 58) 1 λa=>∃b,World.cell? w a=some (Value.int IntKind.u8 b)/\K b/\R (O b) w)):ρ 265 [.int .u64 A] w R:=rv func265 h
theorem nP{d:aM}{e:Ay}(h:H w [T a i j] 24 λa b=>p9 (Fn d) (∃(c:Bb),∃(f:aG),∃(g:aG),∃(h:Nat->aG),∃(i:aG),∃(_:Nat->aG),∃(j:List aG),W b (h 0::f::j)/\(∀(a:Hp),aL j a->g a)/\nV prog d [] e f g c/\(∀(a:Ay),a∈c->∃b,a=[O b])/\(∀(b:Nat)(d:Int),List.get?Internal c b=some [O d]->∀(c:List aG)(e:ga),PH c j->W e (h b::c)->∃(f:aG),W e (f::c)/\∀(c:List aG)(e:ga),PH c j->W e (f::c)->∃f g i,World.cell? e (Z a)=some (T f g i)/\H e [O d] 3 λd e=>iT 24 f g i d e λf g i e=>gh e (Z a) (T f g i) λa=>W a (h (b+1)::c))/\(∀(b:ga),W b (h (List.length c)::f::j)->∃c d e,World.cell? b (Z a)=some (T c d e)/\∀(a:ga),hp a=hp b->R (T c d e) a)/\(∀(a:ga),W a (i::f::j)->∀(b:ga),hp b=hp a->R (D) b)/\True)):ρ 269 [T a i j,(.func (.func d) #[] ⟨e⟩)] w R:=rv func269 h ⟨[],[],[],[(2,[(7,aP)])]⟩
theorem Di(h:iu 283 [O A] w λc b=>br c (iu 283 [O B] b λc b=>br (!c) (R (J true) b) (R (J (decide (A<B))) b)) (R (J (decide (A<B))) b)):ρ 277 [O A,O B] w R:=rv func277 h
theorem qh(h:R (J (A !=A)) w):ρ 283 [O A] w R:=rv func283 h
theorem iH(h:H w [O A,O B] 193 λb c=>∃d e,iA c (Z b) 0 2=some [O d,O e]/\iC 356 [T a i j,vG [O d,O e]] c λc b=>R (J (decide (0<=c))) b):ρ 297 [T a i j,(.agg #[O A,O B])] w R:=rv func297 h
theorem uj{a:vS}(h:gT 0 w λb c d e=>bQ (d<(↑(ByteArray.size a):Int)) (Nq d (ByteArray.size a)/\bQ ((↑(UInt8.toNat (sb a (Int.toNat d))):Int)<32) (R (J false) e) (Nq d (ByteArray.size a)/\bQ (126<(↑(UInt8.toNat (sb a (Int.toNat d))):Int)) (R (J false) e) (Nq d (ByteArray.size a)/\br ((↑(UInt8.toNat (sb a (Int.toNat d))):Int)==39) (R (J false) e) (gx b c d e e)))) (bQ (1<=(↑(ByteArray.size a):Int)) (R (J (decide ((↑(ByteArray.size a):Int)<=16))) e) (R (J false) e))):ρ 300 [.string a] w R:=rv func300 h ⟨[(2,[(3,aP)])],[],[],[]⟩
theorem um{a:vS}(h:gT 0 w λb c d e=>bQ (d<(↑(ByteArray.size a):Int)) (∃(f:lP []),(∃(b:lP [(4,mR)]),(Nq d (ByteArray.size a)/\bQ (65<=(↑(UInt8.toNat (sb a (Int.toNat d))):Int)) (Nq d (ByteArray.size a)/\bQ ((↑(UInt8.toNat (sb a (Int.toNat d))):Int)<=90) (b true e) (Nq d (ByteArray.size a)/\bQ (97<=(↑(UInt8.toNat (sb a (Int.toNat d))):Int)) (Nq d (ByteArray.size a)/\bQ ((↑(UInt8.toNat (sb a (Int.toNat d))):Int)<=122) (b true e) (Nq d (ByteArray.size a)/\b ((↑(UInt8.toNat (sb a (Int.toNat d))):Int)==95) e)) (Nq d (ByteArray.size a)/\b ((↑(UInt8.toNat (sb a (Int.toNat d))):Int)==95) e))) (Nq d (ByteArray.size a)/\bQ (97<=(↑(UInt8.toNat (sb a (Int.toNat d))):Int)) (Nq d (ByteArray.size a)/\bQ ((↑(UInt8.toNat (sb a (Int.toNat d))):Int)<=122) (b true e) (Nq d (ByteArray.size a)/\b ((↑(UInt8.toNat (sb a (Int.toNat d))):Int)==95) e)) (Nq d (ByteArray.size a)/\b ((↑(UInt8.toNat (sb a (Int.toNat d))):Int)==95) e)))/\∀(_:ν) c e,b c e->Nq d (ByteArray.size a)/\bQ (48<=(↑(UInt8.toNat (sb a (Int.toNat d))):Int)) (Nq d (ByteArray.size a)/\bQ ((↑(UInt8.toNat (sb a (Int.toNat d))):Int)<=57) (br (!c) (br (!decide (0<d)) (R (J false) e) (f e)) (f e)) (br (!c) (R (J false) e) (f e))) (br (!c) (R (J false) e) (f e)))/\∀(_:ν) a,f a->gx b c d a e) (bQ (1<=(↑(ByteArray.size a):Int)) (R (J (decide ((↑(ByteArray.size a):Int)<=16))) e) (R (J false) e))):ρ 301 [.string a] w R:=rv func301 h ⟨[(2,[(3,aP)])],[(3,[]),(5,[(4,mR)])],[],[]⟩
theorem xh{a:vS}{b:aM}{c:Ay}(h:iC 370 [Value.string a,vF b c,J true] w λc b=>R (O c) b):ρ 319 [.string a,(.func (.func b) #[] ⟨c⟩)] w R:=rv func319 h
abbrev mX:aM:=320
theorem BV(h:bQ (A<32) (R (J true) w) (bQ (126<A) (R (J true) w) (R (J (A==39)) w))):ρ 320 [.int .i32 A] w R:=rv func320 h
theorem jN{d:aM}{e:Ay}(h:gT 0 w λb c f g=>bQ (f<(i:Int)) (M a i f 1 λa=>∃h,World.cell? g a=some (Value.string h)/\p9 (Fn d) (iu d (Value.string h::e) g λe d=>br e (R (O f) d) (gx b c f d g))) (R (O (-1)) g)):ρ 322 [T a i j,(.func (.func d) #[] ⟨e⟩)] w R:=rv func322 h ⟨[(2,[(8,aP)])],[],[],[]⟩
theorem q9(h:gT 0 w λb c d e=>bQ (d<(i:Int)) (M a i d 1 λa=>∃f,World.cell? e a=some (O f)/\br (A==f) (R (O d) e) (gx b c d e e)) (R (O (-1)) e)):ρ 323 [T a i j,O A] w R:=rv func323 h ⟨[(2,[(8,aP)])],[],[],[]⟩
theorem BX(h:H w [u a] 178 λa c=>H c [O 0] 3 λc d=>gh d (Z c) (O 0) λd=>gT 0 d λe f d g=>bQ (d<(i:Int)) (M b i d 1 λb=>∃h,World.cell? g b=some (u h)/\rE 172 [u h] g λb h=>∃i j,b=vF i j/\p9 (Fn i) (∃(b:Bb),∃(k:aG),∃(l:aG),∃(m:Nat->aG),∃(n:aG),∃(_:Nat->aG),∃(o:List aG),W h (m 0::k::o)/\(∀(a:Hp),aL o a->l a)/\nV prog i [] j k l b/\(∀(a:Ay),a∈b->∃b,a=[O b])/\(∀(d:Nat)(e:Int),List.get?Internal b d=some [O e]->∀(b:List aG)(f:ga),PH b o->W f (m d::b)->∃(g:aG),W f (g::b)/\∀(b:List aG)(f:ga),PH b o->W f (g::b)->gj f λg f=>gy f (Z c) λh=>jc f (Z a) λi=>H g [O e] 3 λa e=>f e/\iC 103 [u i,T (some (Z a)) 1 1] e λg e=>f e/\K (h+g)/\gh e (Z c) (O (h+g)) λa=>W a (m (d+1)::b))/\(∀(a:ga),W a (m (List.length b)::k::o)->gx e f d a g)/\(∀(a:ga),W a (n::k::o)->∀(b:ga),hp b=hp a->R (O 0) b)/\True)) (∃a,World.cell? g (Z c)=some (O a)/\∀(b:ga),hp b=hp g->R (O a) b)):ρ 349 [.pointer a,T b i j] w R:=rv func349 h ⟨[(3,[(11,aP)])],[],[],[(6,[(17,aP)])]⟩
theorem jP(h:H w [O A,O B] 193 λb c=>gT 0 c λd e c f=>bQ (c<(i:Int)) (gj f λg h=>∃j k,(∀a,h a->iA a (Z b) 0 2=some [O j,O k])/\M a i c 2 λa=>∃b i,(∀c,h c->iA c a 0 2=some [O b,O i])/\∃a,(∀c,h c->Sem.run prog (sK BinOp.eql 193 (Operand.tmp 11) (Operand.tmp 15) (vG [O j,O k]) (vG [O b,O i])) c=Result.ok a c)/\∃b,a=J b/\br b (R (O c) g) (gx d e c g f)) (R (O (-1)) f)):ρ 356 [T a i j,(.agg #[O A,O B])] w R:=rv func356 h ⟨[(2,[(8,aP)])],[],[],[]⟩
theorem xj{a:vS}{b:aM}{c:Ay}{d:Bool}(h:bg prog (Instr.range 9 (Value.string a)) w λa e=>∃f,a=u f/\τ [] λa g=>a e/\∀(_:ν) e,a e->bg prog (Instr.next (u f) true 0) e λf h=>f=vU [J false]/\R (O (-1)) h\/∃i j,f=vU [J true,O i,Value.int IntKind.i32 j]/\p9 (Fn b) (iu b (Value.int IntKind.i32 j::c) h λf c=>br (f==d) (R (O i) c) (a c/\g c<g e))):ρ 370 [.string a,(.func (.func b) #[] ⟨c⟩),J d] w R:=rv func370 h ⟨[(2,[])],[],[],[]⟩
theorem kB{d:aM}{e:Ay}(h:iC 394 [T a i j,vF d e] w λc b=>R (J (decide (0<=c))) b):ρ 380 [T a i j,(.func (.func d) #[] ⟨e⟩)] w R:=rv func380 h
theorem mF{d:aM}{e:Ay}(h:gT 0 w λb c f g=>bQ (f<(i:Int)) (M a i f 1 λa=>∃h i j,World.cell? g a=some (T h i j)/\p9 (Fn d) (iu d (T h i j::e) g λe d=>br e (R (O f) d) (gx b c f d g))) (R (O (-1)) g)):ρ 394 [T a i j,(.func (.func d) #[] ⟨e⟩)] w R:=rv func394 h ⟨[(2,[(8,aP)])],[],[],[]⟩
end
section
variable{P:iI}{w w':ga}{L:List aG}{b:Nat}{vs:Ay}
theorem ib{sz l c j:Nat}{a:E}{b:vP}{v:ah}{k:ga->Prop}(h:W w (own sz a l c vs::L))(d:a=some b)(f:j<vs.length)
  (g:∀w',W w' (own sz a l c (vs.set j v)::L)->k w') (i:aO v=true:=by rfl):gh w (b.add j) v k:=by
 rcases dM h with⟨rfl,_⟩|⟨n,o,p,q,rfl,h,r,s,m⟩
 ·cases d
 ·cases d;rw[l8];refine aX h G (λw' e=>?_) i;rw[o7 _ _ U,mu,List.set_append_left _ _ f] at e;refine g w' (fJ e η η m)
theorem au{a:E}{b:vP}{len i:Nat}{k:vP->Prop}(c:a=some b)(hi:i<len)(d:k (b.add i)):M a len (i:Int) 1 k:=
 ⟨b,c,U,U,by simpa[ew] using d⟩
theorem fk{sz l c:Nat}{a:E}(h:W w (own sz a l c vs::L))(d:0<vs.length):∃b,a=some b:=by
 rcases dM h with⟨rfl,_,_,rfl⟩|⟨b,e,f,g,rfl,_⟩
 ·simp_all
 simp
theorem r_{sz l c:Nat}{a:E}{b:vP}(h:W w (own sz a l c vs::L))(d:a=some b){j:Nat}{v:ah}(e:vs[j]? =some v):w.cell? (b.add j)=some v:=by grind[cV]
theorem fM(h:drawn w w'):hp w'=hp w:=by unfold drawn at h;subst h;rfl
theorem W.drawn(h:W w L)(a:Proofs.YtaoaemnefghnbaaGreatDoor.drawn w w'):W w' L:=h.eq (fM a)
end
def cw(ws:A0):Ay:=ws.map λ(n:Nat)=>Value.int .u64 (n:Int)
def mem(ws:A0)(k:Nat):Bool:=(ws.getD (k/64) 0).testBit (k%64)
structure Inv(n:Nat)(ws:A0)(m:Nat->Bool):Prop where
 len:ws.length=(n+63)/64
 le:n<=1024
 lt:∀x∈ws,x<2^64
 mm:∀k,m k=mem ws k
 out:∀k,n<=k->m k=false
def Dj(p:E)(n:Nat)(m:Nat->Bool):aG:=λh=>
 (p=none/\n=0/\m=λ_=>false)\/
 ∃b a c ws,p=some ⟨b,0,none⟩/\Inv n ws m/\aL [ax b [T a ws.length c,O (n:Int)],own 1 a ws.length c<|cw ws] h
section
variable{w w':ga}{L:List aG}{p:E}{n:Nat}{m:Nat->Bool}
theorem mY(h:W w (Dj p n m::L)):(p=none/\n=0/\(m=λ_=>false)/\W w L)\/
  ∃b a c d,p=some ⟨b,0,none⟩/\Inv n d m/\W w (ax b [T a d.length c,O (n:Int)]::own 1 a d.length c (cw d)::L):=by
 have s:=h.tail;obtain⟨g,i,j,k,l,o,q⟩:=h
 rcases o with⟨d,e,f⟩|⟨b,a,c,r,d,e,f⟩
 ·simp_all
 ·exact .inr ⟨b,a,c,r,d,e,W.flat.1 (show W w (aT [_,_]::L) from⟨g,i,j,k,l,f,q⟩)⟩
theorem UK{b:Nat}{a:E}{c:Nat}{d:A0}(hi:Inv n d m)(h:W w (ax b [T a d.length c,O (n:Int)]::own 1 a d.length c (cw d)::L)):W w (Dj (some ⟨b,0,none⟩) n m::L):=
 (W.flat.2 (show W w ([_,_]++L) from h)).head λh e=>.inr ⟨b,a,c,d,rfl,hi,e⟩
theorem YI(h:W w (Dj p n m::L)){k:Nat}(a:n<=k):m k=false:=by
 rcases mY h with⟨_,_,rfl,_⟩|⟨_,_,_,_,_,b,_⟩
 ·rfl
 ·exact b.out k a
theorem DP(h:W w (Dj p n m::L)):n<=1024:=by
 rcases mY h with⟨_,rfl,_,_⟩|⟨_,_,_,_,_,a,_⟩
 ·omega
 ·exact a.le
end
section
variable{w:ga}{L:List aG}{a:E}{c:Nat}{i:A0}{p:E}{n:Nat}{m:Nat->Bool}
theorem NH{a:A0}{j:Nat}(h:j<a.length):(cw a)[j]? =some (.int .u64 ((a.getD j 0:Nat):Int)):=by grind[cw]
theorem Dk{a:A0}(b:∀x∈a,x<2^64)(j:Nat):a.getD j 0<2^64:=by grind[List.getElem?_eq_getElem,List.getElem_mem,List.getElem?_eq_none]
theorem SP:nz 64:=by simp[nz]
theorem Dl{k:Nat}(h:k<9223372036854775807):K (k:Int):=ξ
theorem Qa(h:W w (own 1 a i.length c (cw i)::L))(d:∀x∈i,x<2^64){k:Nat}(b:k/64<i.length)(g:k<4096):
  ρ 199 [T a i.length c,O (k:Int)] w λe f=>e=J (mem i k)/\f=w:=by
 refine qb ?_;obtain⟨f,rfl⟩:=fk h (by grind[cw]);have e:=r_ h rfl (NH b)
 refine⟨SP,?_,?_⟩
 ·grind[BN,Dl]
 ·rw[BN,SO]
  refine au rfl b ⟨_,e,SP,?_,?_,rfl⟩
  ·show(0:Int)<=_;omega
  ·rw[P7 (Dk d _) (Nat.mod_lt _ U)];rfl
theorem DQ{a:A0}{k r:Nat}(b:k/64<a.length)(j:Nat):mem (a.set (k/64) r) j=if j/64=k/64 then r.testBit (j%64) else mem a j:=by
 unfold mem
 grind
theorem DR{a:A0}{i r:Nat}:(cw a).set i (.int .u64 (r:Int))=cw (a.set i r):=by simp[cw]
theorem Qb(h:W w (own 1 a i.length c (cw i)::L))(e:∀x∈i,x<2^64){k:Nat}(d:k/64<i.length)(o:k<4096):
  ρ 200 [T a i.length c,O (k:Int)] w λf g=>f=.tuple #[]/\∃b,b.length=i.length/\(∀x∈b,x<2^64)/\(∀j,mem b j=(mem i j||j==k))/\W g (own 1 a i.length c (cw b)::L):=by
 refine BS ?_;intro p f;have l:=h.drawn f;obtain⟨q,rfl⟩:=fk h (by grind[cw]);have m:=λb(g:hp b=hp w)=>r_ (h.eq g) rfl (NH d)
 refine⟨λb=>hp b=hp w,fM f,SP,?_,?_⟩
 ·grind[BN,Dl]
 ·rw[BN,SO]
  refine au rfl d ⟨_,m,SP,?_,au rfl d ?_⟩
  ·show(0:Int)<=_;omega
  ·have b:k%64<64:=Nat.mod_lt _ U;rw[YF b,DH (Dk e _)<|Nat.pow_lt_pow_right U b];refine ib l rfl (by simp_all[cw]) λr g=>?_;rw[DR] at g
   refine⟨rfl,_,V,λx n=>?_,λj=>?_,g⟩
   ·rcases List.mem_or_eq_of_mem_set n with s|rfl
    ·simp_all
    ·exact Nat.or_lt_two_pow (Dk e _) (Nat.pow_lt_pow_right U b)
   grind[DQ,mem]
theorem DS(h:W w (Dj p n m::L)):ρ 171 [.pointer p] w λa b=>a=O (n:Int)/\b=w:=by
 refine rZ ?_
 rcases mY h with⟨rfl,rfl,rfl,_⟩|⟨a,b,c,d,rfl,e,h⟩
 ·exact⟨rfl,rfl⟩
 ·refine⟨(n:Int),?_,rfl,rfl⟩;rw[ak,h.cell];rfl
theorem YJ(hi:Inv n i m){k:Nat}(a:k<n):k/64<i.length:=by rw[hi.len];omega
end
def wR(h:Hp)(a:vP):Option ah:=
 match h a.block with
 |some (.cells c _ _)=>if a.spot.isSome then none else c[a.off]?
 |_=>none
theorem uq{h h':Hp}(s:sub h h'){a:vP}{v:ah}(hc:wR h a=some v):wR h' a=some v:=by
 unfold wR at*
 split at hc
 ·rename_i c _ _ he;rw[s _ _ he];omega
 simp_all
theorem j5{w:ga}{a:vP}{v:ah}(hc:wR (hp w) a=some v):w.cell? a=some v:=by
 unfold wR at hc
 split at hc
 ·rename_i c _ _ he;unfold World.cell?;rw[tW he];omega
 simp_all
def dX(a:E)(vs:Ay):aG:=λh=>vs=[]\/∃ad,a=some ad/\∀j v,vs[j]? =some v->wR h (ad.add j)=some v
section
variable{w w':ga}{L:List aG}{a:E}{vs:Ay}
theorem Ii(h:W w (dX a vs::L)){j:Nat}{v:ah}(c:vs[j]? =some v):∃b,a=some b/\w.cell? (b.add j)=some v:=by
 obtain⟨d,e,f,g,i,b,k⟩:=h
 rcases b with rfl|⟨l,m,n⟩
 ·simp_all
 grind[j5,uq]
theorem bD{sz l c:Nat}{h:Hp}(b:own sz a l c vs h):dX a vs h:=by
 rcases b with⟨_,_,_,rfl⟩|⟨d,e,f,g,rfl,⟨i,j⟩,_⟩
 ·exact .inl rfl
 ·refine .inr ⟨_,rfl,λk m n=>?_⟩;rw[l8];unfold wR;grind
end
def iv(xs:Az):Ay:=xs.map λx=>O x
theorem NI{xs:Az}{j:Nat}{x:Int}(h:xs[j]? =some x):(iv xs)[j]? =some (O x):=by grind[iv]
theorem bS{l j:Nat}(h:j<l):l-((j:Int)+1).toNat<l-(j:Int).toNat:=U
def du(n:Nat)(m:Nat->Bool):Nat:=((List.range n).filter m).length
theorem Fj(n:Nat)(m:Nat->Bool):du n m<=n:=by grind[du,Nat.le_trans,List.length_filter_le]
theorem yw(n:Nat)(m:Nat->Bool):du (n+1) m=du n m+(if m n then 1 else 0):=by grind[du,List.range_succ,List.length_append]
theorem Ms{n:Nat}{m m':Nat->Bool}(h:∀k,k<n->m k=m' k):du n m=du n m':=by grind[du,List.filter_congr]
theorem UL{n:Nat}{m:Nat->Bool}{k:Nat}(hk:k<n)(hm:m k=false):du n (λj=>m j||j==k)=du n m+1:=by
  induction n with
  |zero=>omega
  |succ n ih=>
    rw[yw,yw]
    by_cases h:k=n
    · subst h
      rw [Ms (m' := m) λj hj => by have:(j==k)=false:=G
                                   simp_all]
      grind
    grind
def gE(n:Nat)(m:Nat->Bool)(xs:Az):Nat->Bool:=λk=>m k||(decide (k<n)&&xs.contains (k:Int))
theorem cH{xs:Az}{j:Nat}{x:Int}(h:xs[j]? =some x):xs.take (j+1)=xs.take j++[x]:=by simp_all[iw]
theorem s_(l:Az)(x y:Int):(l++[x]).contains y=(l.contains y||y==x):=G
theorem Wy{n:Nat}{m:Nat->Bool}{xs:Az}{j:Nat}{x:Nat}(h:xs[j]? =some (x:Int))(b:x<n):gE n m (xs.take (j+1))=λa=>gE n m (xs.take j) a||a==x:=by
 funext a
 simp only[gE,cH h,s_]
 grind
theorem Mt{n:Nat}{m:Nat->Bool}{xs:Az}{j:Nat}{x:Int}(h:xs[j]? =some x)(a:∀k:Nat,k<n->(k:Int)=x->gE n m (xs.take j) k=true):gE n m (xs.take (j+1))=gE n m (xs.take j):=by
 funext k
 have b:=a k;simp only[gE,cH h,s_] at b ⊢
 grind
theorem Qc(n:Nat)(m:Nat->Bool):gE n m []=m:=by grind[gE]
section
variable{w:ga}{L:List aG}{a:E}{l c:Nat}{p:E}{n:Nat}{m:Nat->Bool}{xs:Az}
theorem yG{D:aG}(F:∀h,D h->dX a (iv xs) h)(h:W w (Dj p n m::D::L))(a3:xs.length=l)(a4:l<=4611686018427387904):
  ρ 103 [.pointer p,T a l c] w λb d=>b=O ((du n (gE n m xs):Int)-du n m)/\W d (Dj p n (gE n m xs)::D::L):=by
 refine E9 ?_
 refine⟨λd e w=>∃b:Nat,e=b/\b<=l/\d=(du n (gE n m<|xs.take b):Int)-du n m/\W w (Dj p n (gE n m<|xs.take b)::D::L),
  λ_ b _=>l-b.toNat,⟨0,rfl,U,by simp[Qc],by simp_all[Qc]⟩,?_⟩
 rintro _ I a5 a6⟨b,rfl,a7,a8,e⟩
 refine ae (λN=>?_) λN=>?_
 ·have i:b<l:=η
  obtain⟨q,r⟩:∃d,xs[b]? =some d:=⟨xs[b],V⟩;obtain⟨a9,rfl,P⟩:=Ii (e.swap.head F)<|NI r;have aa:=Fj n<|gE n m<|xs.take b;have ab:=Fj n m;have ac:=DP e;have s:K ((b:Int)+1):=ξ;refine au rfl i ⟨q,P,?_⟩
  have skip:(∀d:Nat,d<n->(d:Int)=q->gE n m (xs.take b) d=true)->∀f,W f (Dj p n (gE n m<|xs.take b)::D::L)->K ((b:Int)+1)/\
    (∃d:Nat,(b:Int)+1=d/\d<=l/\I=(du n (gE n m<|xs.take d):Int)-du n m/\W f (Dj p n (gE n m<|xs.take d)::D::L))/\l-((b:Int)+1).toNat<l-(b:Int).toNat:=by
   intro ad al am
   refine⟨s,⟨b+1,V,U,?_,?_⟩,bS i⟩
   ·simp_all[Mt]
   simp_all[Mt]
  refine ae (λt=>?_) λt=>?_
  ·have Q:=gZ t;obtain⟨f,rfl⟩:=Int.eq_ofNat_of_zero_le Q;refine(DS e).mono ?_;rintro _ _⟨rfl,rfl⟩
   refine⟨_,rfl,ae (λR=>?_) λR=>?_⟩
   ·have j:f<n:=η
    rcases mY e with⟨rfl,rfl,_⟩|⟨an,v,x,y,rfl,d,g⟩
    ·omega
    have z:=YJ d j;have A:f<4096:=U
    refine⟨v,y.length,x,by rw[g.cell];rfl,?_⟩;refine(Qa g.swap d.lt z A).mono ?_;rintro _ _⟨rfl,rfl⟩
    refine⟨_,rfl,ae (λS=>?_) λS=>?_⟩
    ·refine⟨v,y.length,x,by rw[g.cell];rfl,?_⟩;refine(Qb g.swap d.lt z A).mono ?_;rintro _ ao⟨rfl,ap,k,X,Y,o⟩;have a0:gE n m (xs.take b) f=false:=by rw[d.mm];simp_all
     have av:=UL j a0;have a1:=Wy (m:=m) r j
     refine⟨rfl,ξ,s,⟨b+1,V,U,?_,?_⟩,bS i⟩
     ·grind
     ·rw[a1];rw[<-k] at o
      refine UK ⟨k▸d.len,d.le,X,λC=>?_,λC a2=>?_⟩ (by rw[k] at o ⊢;exact o.swap)
      ·rw[Y,d.mm]
      ·rw[d.out C a2];grind
    ·refine skip (λk o C=>?_) _ e;have:k=f:=U
     subst this;rw[d.mm];simp_all
   ·refine skip (λd g j=>?_) _ e
    grind
  ·refine skip (λd f g=>?_) _ e
   grind
 grind
end
theorem NJ(n:Nat):IntKind.u64.wrap (n:Int)=((n%18446744073709551616:Nat):Int):=by rfl
theorem NK{x:Nat}(h0:x≠0)(a:x<2^64):IntKind.u64.wrap (0-(x:Int))=((18446744073709551616-x:Nat):Int):=by grind[IntKind.wrap,IntKind.signed,IntKind.bits]
theorem YK{a:A0}{i k:Nat}{f:Nat->ah}(h:a.getD i 0=k)(hi:i<a.length):(a.map f)[i]? =some (f k):=η
theorem DT{x a:Nat}(h0:x≠0)(d:x<2^64)(e:x&&& (18446744073709551616-x)=a):
  bj .u64 (IntKind.u64.wrap (p8 .and .u64 (x:Int) (IntKind.u64.wrap (0-(x:Int)))*285870213051353865)) 58=((a*285870213051353865%18446744073709551616/2^58:Nat):Int):=by
 have f:=Jf (a:=x) (b:=18446744073709551616-x) d U;rw[NK h0 d,f,e];have c:=NJ<|a*285870213051353865;rw[Int.natCast_mul] at c;have g:((285870213051353865:Nat):Int)=285870213051353865:=rfl;rw[g] at c;rw[c];exact Jg (s:=58) U
theorem Dm{x:Nat}(c:x<2^64)(w:ga){L:List aG}(h:W w (dX (some ⟨0,0,none⟩) (Lib.deBruijn64tab.map λ(a:Nat)=>Value.int .u8 (a:Int))::L)):ρ 265 [.int .u64 (x:Int)] w λa b=>a=O ((Lib.ctz 64 x:Nat):Int)/\b=w:=by
 refine nM ?_
 refine ae (λi=>?_) λi=>?_
 ·have:x=0:=η
  subst this;exact⟨rfl,rfl⟩
 ·have d:x≠0:=η
  obtain⟨j,e⟩:=Lib.lowest_bit 64 x d c;obtain⟨a,b⟩:=Lib.deBruijn64_at _ e;rw[DT d c j];generalize Lib.ctz 64 x=g at e a b ⊢;have k:(2:Nat)^58=288230376151711744:=by rfl
  rw[k];generalize 2^g*285870213051353865%18446744073709551616/288230376151711744=m at a b ⊢;refine⟨show(0:Int)<=58 by simp,au rfl a ⟨(g:Int),?_,ξ,rfl,rfl⟩⟩;have n:=YK (f:=λ(l:Nat)=>Value.int .u8 (l:Int)) b a
  grind[Ii]
theorem Mu(a b:Nat)(m:Nat->Bool):du (a+b) m=du a m+du b (λk=>m (a+k)):=by
 unfold du;rw[List.range_add,lX,jw,List.filter_map,jO];rfl
theorem Qd{a:Nat}{m:Nat->Bool}(h:∀k,k<a->m k=false):du a m=0:=by simp_all[du]
theorem DU{n:Nat}{b:A0}{m:Nat->Bool}(hi:Inv n b m):du (64*b.length) m=du n m:=by
 have c:64*b.length=n+(64*b.length-n):=by rw[hi.len];omega
 rw[c,Mu,Qd (a:=64*b.length-n) λd _=>hi.out _ U];omega
def Mv(s:Int):Nat:=(if 1024<if s<0 then 0 else s then 1024 else if s<0 then 0 else s).toNat
theorem DW(s:Int):(if 1024<if s<0 then 0 else s then(1024:Int) else if s<0 then 0 else s)=(Mv s:Int):=by grind[Mv]
theorem DY(s:Int):Mv s<=1024:=by grind[Mv]
theorem D0{n:Nat}(h:n<=1024):Mv (n:Int)=n:=by
 unfold Mv;omega
theorem de(v:ah):∀n,ir n [v]=List.replicate n v
 |0=>rfl
 |n+1=>by simp[ir,de v n,oH]
theorem D1(n:Nat):cw (List.replicate n 0)=List.replicate n (.int .u64 0):=by simp[cw]
theorem YL(n k:Nat):mem (List.replicate n 0) k=false:=by grind[mem]
theorem yI{n:Nat}(h:n<=1024):Inv n (List.replicate ((n+63)/64) 0) (λ_=>false):=
 ⟨V,h,λa b=>η,λa=>(YL _ a).symm,λ_ _=>rfl⟩
section
variable{w:ga}{L:List aG}{a:E}{l c:Nat}{p:E}{n:Nat}{m:Nat->Bool}{xs:Az}
theorem D2(size:Int){D:aG}(e:∀h,D h->dX a (iv xs) h)(h:W w (D::L))(f:xs.length=l)(g:l<=4611686018427387904):
  ρ 102 [O size,T a l c] w λd i=>∃b,d=.pointer (some ⟨b,0,none⟩)/\W i (Dj (some ⟨b,0,none⟩) (Mv size) (gE (Mv size) (λ_=>false) xs)::D::L):=by
 refine P_ _ _ _ _ w _ ?_;unfold Jh;rw[DW];have i:=DY size;generalize Mv size=d at*;have j:((d:Int)+63)=((d+63:Nat):Int):=by rfl
 rw[j,BN,je];refine⟨Dl U,SP,Dl U,⟨U,rfl,U⟩,?_⟩;rw[de];refine ag h λk s m=>ag m λn o p=>?_
 have q:W o (Dj (some ⟨n,0,none⟩) d (λ_=>false)::D::L):=by
  refine UK (a:=some ⟨k,0,none⟩) (c:=(d+63)/64) (yI i) ?_;have r:(List.replicate ((d+63)/64) 0:A0).length=(d+63)/64:=V
  rw[r]
  refine W.swap (bq (cs:=[]) ?_ ?_ ?_<|gP _)
  ·rw[jK,D1];exact p.swap
  ·simp[cw]
  simp[cw]
 refine(yG e q f g).mono ?_
 simp_all
end
def YM(b:Nat)(n:Nat)(m:Nat->Bool):aG:=ex λx:E×Nat×A0=>aT [pu (Inv n x.2.2 m),ax b [T x.1 x.2.2.length x.2.1],own 1 x.1 x.2.2.length x.2.1 (cw x.2.2)]
theorem Dn{w:ga}{L:List aG}{b n:Nat}{m:Nat->Bool}:W w (YM b n m::L)↔∃a c d,Inv n d m/\W w (ax b [T a d.length c]::own 1 a d.length c (cw d)::L):=by simp[YM,W.ex,W.pu,W.flat]
theorem D3{a:A0}(h:cw a=[]):a=[]:=by simp_all[cw]
section
variable{w:ga}{L:List aG}{a:E}{l c:Nat}{p:E}{n:Nat}{m:Nat->Bool}{xs:Az}{i:A0}
theorem Eb{D:aG}(d:∀h,D h->dX a (cw i) h)(h:W w (D::L))(m:i.length<=1024)(e:a=none->i=[]):
  ρ 263 [T a i.length c] w λf g=>∃b c',f=T b i.length c'/\W g (own 1 b i.length c' (cw i)::D::L):=by
 refine jL ?_;cases a with
 |none=>
  have b:=e rfl;subst b;exact⟨none,0,rfl,aH 1 h⟩
 |some f=>
  refine ag h λg j k=>?_;have b:W j (own 1 (some ⟨g,0,none⟩) 0 0 []::D::L):=bq (cs:=[]) k rfl rfl (gP _)
  refine(jH aY (rfl:ai Ty _=.slice _) rfl rfl rfl b (n:=i.length) (news:=cw i) ?_ ?_ U).mono ?_
  ·exact gU aY (rfl:ai Ty _=.slice _) (by simp[cw]) (.inr ⟨f,rfl,λo p l=>by
    obtain⟨_,q,r⟩:=Ii (b.swap.head d) l
    simp_all⟩) (λl hu=>by
    simp only[cw,iz] at hu;obtain⟨_,_,rfl⟩:=hu;rfl)
  ·grind
  grind
end
def dJ(n:Nat)(m:Nat->Bool):A0:=(List.range n).filter m
theorem mZ(n:Nat)(m:Nat->Bool):(dJ n m).length=du n m:=rfl
theorem YN{n k:Nat}{m:Nat->Bool}(b:k<n)(c:m k=true):(dJ n m)[du k m]? =some k:=by
 have a:n=k+(n-k-1+1):=U
 unfold dJ;rw[a,List.range_add,lX,kL (by simp[du])];have:du k m-(List.filter m<|List.range k).length=0:=by simp[du]
 grind[List.range_succ_eq_map]
theorem YO{x:Nat}(h0:x≠0)(d:x<2^64):Lib.ctz 64 x<64/\x.testBit (Lib.ctz 64 x)=true/\(∀k,k<Lib.ctz 64 x->x.testBit k=false)/\∀k,(x&&& (x-1)).testBit k=(x.testBit k&& !(k==Lib.ctz 64 x)):=by
 have e:Lib.ctz 64 x=Lib.ctzFrom 64 x:=by simp_all[Lib.ctz]
 obtain⟨b,j,f⟩:=Lib.ctzFrom_spec 64 x U d;rw[e];generalize Lib.ctzFrom 64 x=a at*;have hp:0<2^a:=Nat.two_pow_pos a;have g:x-1=2^a*(2*b)+(2^a-1):=G
 have h:∀k,x.testBit k=if k<a then false else(2*b+1).testBit (k-a):=λk=>G
 have i:∀k,(x-1).testBit k=if k<a then true else(2*b).testBit (k-a):=λk=>by
  rw[g,Nat.testBit_two_pow_mul_add _ U];simp
 refine⟨f,?_,λk l=>?_,λk=>?_⟩
 ·simp_all
 ·simp_all
 ·rw[Nat.testBit_and,i,h]
  by_cases c:k<a
  ·grind
  ·rw[gv c,gv c]
   by_cases m:k=a
   ·simp_all
   ·have n:k-a=(k-a-1)+1:=U
    grind
def tU(l:A0):Bb:=l.map λ(k:Nat)=>[O (k:Int)]
theorem BA{a b:Nat}{m:Nat->Bool}(h:a<=b)(c:∀k,a<=k->k<b->m k=false):du b m=du a m:=by
 have d:b=a+(b-a):=U
 grind[Mu,Qd]
def uF:Ay:=Lib.deBruijn64tab.map λ(k:Nat)=>Value.int .u8 (k:Int)
def ec:aG:=dX (some ⟨0,0,none⟩) uF
theorem Ec{A:aG}{w:ga}(h:A (hp w)):W w [A]:=⟨hp w,λ_=>none,λ_=>.inr rfl,sZ,λ_ _ h=>(nomatch h),h,trivial⟩
section
variable{w:ga}{L:List aG}{b:Nat}{n:Nat}{m:Nat->Bool}
theorem pV:nV prog r6 [] [.pointer (some ⟨b,0,none⟩)] (YM b n m) ec (tU (dJ n m)):=by
 intro I L s l aR h t N P Q
 have R:∃a d c,Inv n c m/\W t (l 0::ax b [T a c.length d]::own 1 a c.length d (cw c)::h):=by
  obtain⟨a,c,d,e,f⟩:=Dn.1 N.swap;exact⟨a,c,d,e,f.Py⟩
 obtain⟨a,g,d,i,S⟩:=R
 have X:∀(c:aG) w',W w' (c::ax b [T a d.length g]::own 1 a d.length g (cw d)::h)->W w' (c::YM b n m::h):=by
  intro e w' c;exact(Dn.2 ⟨a,g,d,i,c.perm<|(List.Perm.swap _ _ _).trans (List.Perm.cons _<|List.Perm.swap _ _ _)⟩).swap
 have Y:∀{c e f:aG}{w'},W w' (c::e::f::h)->W w' [ec]:=λ{e f j w'} c=>Ec<|P _<|ay<|ay<|ay c;refine xc L I ⟨b,0,none⟩ s t _ ?_;refine⟨a,d.length,g,by rw[S.swap.cell];rfl,?_⟩
 refine⟨λe f=>∃c:Nat,e=c/\c<=d.length/\W f (l (du (64*c) m)::ax b [T a d.length g]::own 1 a d.length g (cw d)::h),λc _=>d.length-c.toNat,
  ⟨0,rfl,U,by simp_all[du]⟩,?_⟩
 rintro _ aS aV⟨c,rfl,b0,v⟩;have b1:=i.len;have b2:=i.le
 refine ae (λa0=>?_) λa0=>?_
 ·have o:c<d.length:=G
  obtain⟨w,rfl⟩:=fk v.Py (by grind[cw]);have x:=r_ v.Py rfl (NH o);refine au rfl o ⟨_,x,?_⟩;have y:=Dk i.lt c
  have p:∀e,e<64->m (64*c+e)=(d.getD c 0).testBit e:=λe f=>by
   rw[i.mm];grind[mem]
  generalize d.getD c 0=q at x y p ⊢
  refine⟨λk r=>∃(e f:Nat),k=e/\e<2^64/\f<=64/\(∀j,e.testBit j=(decide (f<=j)&&q.testBit j))/\W r (l (du (64*c+f) m)::ax b [T (some w) d.length g]::own 1 (some w) d.length g (cw d)::h),λe _=>e.toNat,
   ⟨q,0,rfl,y,U,V,U⟩,?_⟩
  rintro _ b3 a1⟨e,j,rfl,r,b4,z,A⟩
  refine ae (λa2=>?_) λa2=>?_
  ·have a3:e≠0:=η
   obtain⟨a4,a5,C,a6⟩:=YO a3 r;have a7:K (64*(c:Int)):=ξ;refine⟨a7,?_⟩;refine((Dm r a1<|Y A).toE s).mono ?_;rintro _ _⟨rfl,rfl⟩;generalize Lib.ctz 64 e=f at a4 a5 C a6 ⊢;refine⟨_,rfl,ξ,?_⟩;have b5:j<=f/\q.testBit f=true:=η
   have F:m (64*c+f)=true:=η
   have a8:64*c+f<n:=Nat.lt_of_not_le λk=>by rw[i.out _ k] at F;grind
   have a9:du (64*c+f) m=du (64*c+j) m:=BA U λk ac ad=>by
    have aa:=C (k-64*c) U;rw[z] at aa;have:j<=k-64*c:=U
    have ab:=p (k-64*c) U;rw[show 64*c+(k-64*c)=k by omega] at ab
    simp_all
   have aa:(tU<|dJ n m)[du (64*c+j) m]? =some [O ((64*c+f:Nat):Int)]:=by
    unfold tU;rw[iE,<-a9,YN a8 F];rfl
   have ab:(64*(c:Int)+(f:Int))=((64*c+f:Nat):Int):=by rfl
   rw[ab];obtain⟨ac,ad,al,am,an,ao⟩:=Q _ _ aa _ _ (λap k=>ay<|ay k) A;refine⟨ac,ad,al,am,an,RoundIn.mono ao ?_⟩;rintro b6 b7⟨ap,rfl,av,az⟩;refine⟨ap,rfl,av,?_⟩;have b9:du (64*c+(f+1)) m=du (64*c+j) m+1:=by grind[yw]
   rcases az with⟨rfl,k⟩|⟨rfl,k⟩
   ·refine⟨true,rfl,?_⟩
    have aB:IntKind.u64.wrap ((e:Int)-1)=((e-1:Nat):Int):=by
     have:=uD (e-1) U
     grind
    have aK:=Jf (a:=e) (b:=e-1) r U
    show(∃ba bb:Nat,_/\_)/\_
    rw[aB,aK]
    refine⟨⟨e&&& (e-1),f+1,rfl,Nat.and_lt_two_pow _ U,U,λba=>?_,?_⟩,?_⟩
    ·grind
    ·grind
    grind[Nat.and_le_right,Int.toNat_natCast]
   ·refine⟨false,rfl,?_⟩;exact .inr (X _ _ k)
  ·have k:e=0:=η
   subst k;refine⟨ξ,⟨c+1,V,U,?_⟩,bS o⟩
   have:du (64*(c+1)) m=du (64*c+j) m:=BA U λf F a3=>by
    have a4:=z<|f-64*c;have C:=p (f-64*c) U;rw[show 64*c+(f-64*c)=f by omega] at C
    grind
   simp_all
 grind[of_decide_eq_false,DU,mZ,tU,dJ]
end
def eh(l:A0):Ay:=l.map λ(k:Nat)=>O (k:Int)
theorem YP{ks:A0}{i k:Nat}(h:ks[i]? =some k):eh (ks.take (i+1))=eh (ks.take i)++[O (k:Int)]:=by simp_all[eh,iw]
section
variable{w:ga}{L:List aG}{a:E}{l c:Nat}{p:E}{n:Nat}{m:Nat->Bool}{xs:Az}{ws:A0}
theorem Qe{g:aM}{f:Ay}{D Q:aG}{ks:A0}{vs:Ay}(p:Fn g=true)(q:nV prog g [] f D Q (tU ks))(r:∀h,aL L h->Q h)(S:l+ks.length<=1099511627776)
  (h:W w (own 1 a l c vs::D::L)):
  ρ 269 [T a l c,.func (.func g) #[] ⟨f⟩] w λd e=>∃b c',d=T b (l+ks.length) c'/\W e (own 1 b (l+ks.length) c' (vs++eh ks)::D::L):=by
 refine nP ?_;refine ag h λi X Y=>bn.2 ⟨p,?_⟩
 refine⟨tU ks,D,Q,λd=>ex λb:E×Nat=>aT [ax i [T b.1 (l+d) b.2],own 1 b.1 (l+d) b.2<|vs++eh (ks.take d)],pu False,λ_=>pu False,L,?_,r,q,?_,?_,?_,?_,trivial⟩
 ·refine W.ex.2 ⟨(a,c),W.flat.2 ?_⟩
  simp_all[eh]
 ·intro d b;simp only[tU,iz] at b
  grind
 ·intro b j s a0 a1 _ t;refine⟨_,t,λv a2 _ x=>?_⟩;obtain⟨⟨y,z⟩,A⟩:=W.ex.1 x;have k:=W.flat.1 A;have C:(tU ks)[b]? =some [O j]:=s
  obtain⟨d,m,rfl⟩:∃e,ks[b]? =some e/\j=(e:Int):=by
   unfold tU at C
   grind
  have a3:=(gJ.1 m).1;refine⟨y,l+b,z,by rw[k.cell];rfl,?_⟩;refine ag k λF a4 o=>?_
  refine(jH aY (rfl:ai Ty _=.slice _) rfl rfl rfl o.Py (n:=1) (news:=[O (d:Int)]) ?_ ?_ U).mono ?_
  ·refine gU aY (rfl:ai Ty _=.slice _) rfl (.inr ⟨_,rfl,λN I P=>?_⟩) (λI e=>?_)
   ·rw[ak,o.cell];omega
   ·simp only[jA] at e;subst e;rfl
  ·grind
  ·rintro _ a5⟨e,c',rfl,I⟩;refine⟨_,_,_,rfl,aX I.Py V λN P=>W.ex.2 ⟨(e,c'),W.flat.2 ?_⟩⟩;rw[YP m,<-jT];have R:W N (ax i [T e (l+b+1) c']::own 1 e (l+b+1) c' (vs++eh (ks.take b)++[O (d:Int)])::ax F [O (d:Int)]::v):=P;exact R.perm (List.Perm.refl _)|>.Py.tail
 ·intro s j;obtain⟨⟨d,e⟩,k⟩:=W.ex.1 j;have b:=W.flat.1 k;have m:(tU ks).length=ks.length:=by simp[tU]
  rw[m,jl] at b;refine⟨d,_,e,by rw[b.cell];rfl,λt o=>⟨d,e,rfl,(b.eq o).tail⟩⟩
 simp[W.pu]
theorem Wz{g:aM}{a:Ay}{D Q:aG}{ks:A0}(c:Fn g=true)(d:nV prog g [] a D Q (tU ks))(e:∀h,aL L h->Q h)(j:ks.length<=1099511627776)(h:W w (D::L)):
  ρ 181 [.func (.func g) #[] ⟨a⟩] w λf i=>∃b c',f=T b ks.length c'/\W i (own 1 b ks.length c' (eh ks)::D::L):=by
 refine ue ?_;refine(Qe c d e (l:=0) U<|aH 1 h).mono ?_
 grind
end
theorem yK{a b:Nat}(h:((a:Int)==b)=true):a=b:=G
theorem YQ{a b:Nat}(h:((a:Int)==b)=false):a≠b:=G
theorem se{ks:A0}{j k:Nat}(h:ks[j]? =some k):(eh ks)[j]? =some (O (k:Int)):=by grind[eh]
theorem YR(ks:A0):eh ks=iv (ks.map λ(k:Nat)=>(k:Int)):=by simp[eh,iv]
def Ej:List aG->List aG
 |[]=>[]
 |_::L=>L
def UM:Nat->List aG->List aG
 |0,L=>L
 |n+1,L=>UM n (Ej L)
abbrev yN(L:List aG)(n:Nat):List aG:=UM n L
theorem Mw:∀n,UM n []=[]
 |0=>rfl
 |n+1=>Mw n
def uH(i:Nat):A0->Bool
 |[]=>false
 |j::l=>Nat.beq i j||uH i l
theorem UN(i:Nat):∀l,uH i l=l.contains i
 |[]=>rfl
 |j::l=>by
  rw[uH,UN i l,List.contains_cons];congr 1;rw[lG];simp
def YS(L:List aG):A0->List aG->List aG
 |[],T=>T
 |i::is,T=>tX L i::YS L is T
def uJ(n:Nat):A0->Bool
 |[]=>true
 |i::is=>Nat.blt i n&& !uH i is&&uJ n is
theorem GV:∀(n:Nat)(L:List aG)(h:Hp),aL L h->
  ∃(f:Nat->Hp)(g:Hp),(∀i j,i≠j->i<n->j<n->Np (f i) (f j))/\(∀i,i<n->Np (f i) g)/\(∀i,i<n->sub (f i) h)/\sub g h/\(∀i,i<n->tX L i (f i))/\aL (yN L n) g
 |0,L,h,hs=>⟨λ_=>h,h,λ_ _ _ hi=>absurd hi U,λ_ hi=>absurd hi U,λ_ hi=>absurd hi U,sZ,λ_ hi=>absurd hi U,hs⟩
 |n+1,[],h,hs=>⟨λ_ _=>none,h,λ_ _ _ _ _ _=>.inl rfl,λ_ _ _=>.inl rfl,λ_ _ _ _ h=>(nomatch h),sZ,λ_ _=>trivial,by simp[aL,Mw]⟩
 |n+1,A::L,h,⟨h1,h2,d,s1,s2,ha,hl⟩=>by
  obtain⟨f,g,f1,f2,f3,f4,f5,f6⟩:=GV n L h2 hl
  refine⟨λi=>match i with|0=>h1|i+1=>f i,g,λi j hne hi hj=>?_,λi hi=>?_,λi hi=>?_,f4.trans s2,λi hi=>?_,f6⟩
  ·cases i with
   |zero=>cases j with
    |zero=>omega
    |succ j=>exact d.sub sZ (f3 j U)
   |succ i=>cases j with
    |zero=>exact(d.sub sZ (f3 i U)).symm
    |succ j=>simp_all
  ·cases i with
   |zero=>exact d.sub sZ f4
   |succ i=>simp_all
  ·cases i with
   |zero=>omega
   |succ i=>exact(f3 i U).trans s2
  ·cases i with
   |zero=>exact ha
   |succ i=>exact f5 i U
theorem Jn{L T:List aG}{n:Nat}{f:Nat->Hp}{g h:Hp}(f1:∀i j,i≠j->i<n->j<n->Np (f i) (f j))(f2:∀i,i<n->Np (f i) g)(f3:∀i,i<n->sub (f i) h)(f4:sub g h)
  (f5:∀i,i<n->tX L i (f i)) (f6:aL T g):∀is:A0,uJ n is=true->∃u,sub u h/\aL (YS L is T) u/\∀i,i<n->i∉is->Np (f i) u
 |[],_=>⟨g,f4,f6,λi hi _=>f2 i hi⟩
 |i::is,hok=>by
  simp only[uJ,UN,jn,ri,Nat.blt_eq] at hok
  obtain⟨⟨hi,hni⟩,hok⟩:=hok
  have hni:i∉is:=η
  obtain⟨u,u1,u2,u3⟩:=Jn f1 f2 f3 f4 f5 f6 is hok
  have d:=u3 i hi hni
  refine⟨XX (f i) u,Ie (f3 i hi) u1,⟨f i,u,d,zY _ _,zZ d,f5 i hi,u2⟩,λj hj hjn=>?_⟩
  simp only[jb,not_or] at hjn
  exact(If (f1 i j (λe=>hjn.1 e.symm) hi hj) (u3 j hj hjn.2).symm).symm
theorem W.pick{w:ga}{L:List aG}(h:W w L)(n:Nat)(is:A0)(a:uJ n is=true:=by rfl):W w (YS L is (yN L n)):=by
 obtain⟨k,l,b,c,d,e,f,g⟩:=GV n L _ h;obtain⟨m,i,j,_⟩:=Jn b c d e f g is a;exact mN j i
example {w:ga} {A B C:aG} {L:List aG} (h:W w (A::B::C::L)):W w (C::A::L):=h.pick 3 [2,0]
def Gr(w w':ga):Prop:=sub (hp w) (hp w')
theorem Gr.refl(w:ga):Gr w w:=sZ
theorem Gr.trans{a b c:ga}(h:Gr a b)(k:Gr b c):Gr a c:=sub.trans h k
theorem Gr.of_eq{w w':ga}(h:hp w'=hp w):Gr w w':=by simp_all[Gr,sub.refl]
theorem W.gr{w w':ga}{L:List aG}(h:W w L)(g:Gr w w'):W w' L:=mN h g
abbrev all(w:ga):List aG:=[has (hp w)]
theorem bM{h0 h:Hp}(s:sub h0 h):aL [has h0] h:=⟨h0,λ_=>none,λ_=>.inr rfl,s,λ_ _ h=>(nomatch h),sZ,trivial⟩
theorem W.here{w:ga}{h0:Hp}(s:sub h0 (hp w)):W w [Proofs.YtaoaemnefghnbaaGreatDoor.has h0]:=bM s
theorem W.all(w:ga):W w (Proofs.YtaoaemnefghnbaaGreatDoor.all w):=bM sZ
theorem GW{L M N:List aG}(b:∀h,aL M h->aL N h):∀{h:Hp},aL (L++M) h->aL (L++N) h:=by
 induction L with
 |nil=>simp_all
 |cons c L a=>exactλ⟨J,u,d,s1,s2,ha,hl⟩=>⟨J,u,d,s1,s2,ha,a hl⟩
theorem WA{L:List aG}{h0:Hp}(a:aL L h0):∀h,aL [has h0] h->aL L h:=λh b=>mN a (pQ b)
theorem W.on{w':ga}{N L:List aG}{h0:Hp}(h:W w' (N++[Proofs.YtaoaemnefghnbaaGreatDoor.has h0]))(a:aL L h0):W w' (N++L):=GW (WA a) h
theorem W.fy{w':ga}{A:aG}{L:List aG}{h0:Hp}(h:W w' [A,Proofs.YtaoaemnefghnbaaGreatDoor.has h0])(a:aL L h0):W w' (A::L):=W.on (N:=[A]) h a
theorem W.Qf{w':ga}{A B:aG}{L:List aG}{h0:Hp}(h:W w' [A,B,Proofs.YtaoaemnefghnbaaGreatDoor.has h0])(a:aL L h0):W w' (A::B::L):=W.on (N:=[A,B]) h a
theorem W.gone{w':ga}{N:List aG}{h0:Hp}(h:W w' (N++[Proofs.YtaoaemnefghnbaaGreatDoor.has h0])):sub h0 (hp w'):=by
 induction N with
 |nil=>exact pQ h
 |cons b N a=>exact a h.tail
theorem W.aS{w':ga}{A:aG}{h0:Hp}(h:W w' [A,Proofs.YtaoaemnefghnbaaGreatDoor.has h0]):sub h0 (hp w'):=W.gone (N:=[A]) h
theorem W.ahb{w':ga}{A B:aG}{h0:Hp}(h:W w' [A,B,Proofs.YtaoaemnefghnbaaGreatDoor.has h0]):sub h0 (hp w'):=W.gone (N:=[A,B]) h
theorem W.freeze{w:ga}{A:aG}{L:List aG}(h:W w (A::L)):∃h0,aL L h0/\sub h0 (hp w)/\W w [A,Proofs.YtaoaemnefghnbaaGreatDoor.has h0]:=by
 obtain⟨c,a,d,e,b,f,g⟩:=h;exact⟨a,g,b,c,a,d,e,b,f,bM sZ⟩
theorem W.UO{w:ga}{A B:aG}{L:List aG}(h:W w (A::B::L)):∃h0,aL L h0/\sub h0 (hp w)/\W w [A,B,Proofs.YtaoaemnefghnbaaGreatDoor.has h0]:=by
 obtain⟨d,e,f,g,a,i,j,b,k,l,c,m,n⟩:=h;exact⟨b,n,c.trans a,d,e,f,g,a,i,j,b,k,l,c,m,bM sZ⟩
theorem W.first{w:ga}{A:aG}{L:List aG}(h:W w (A::L)):∃a,sub a (hp w)/\A a:=by
 obtain⟨a,b,c,d,e,f,g⟩:=h
 grind
def aj(h:Hp)(a:vP)(vs:Ay):Prop:=∀j v,vs[j]? =some v->wR h (a.add j)=some v
theorem aj.mono{h h':Hp}{a:vP}{vs:Ay}(s:sub h h')(r:aj h a vs):aj h' a vs:=λb c d=>uq s (r b c d)
theorem aj.cell{w:ga}{h:Hp}{a:vP}{vs:Ay}(r:aj h a vs)(s:sub h (hp w)){j:Nat}{v:ah}(b:vs[j]? =some v):w.cell? (a.add j)=some v:=j5 (uq s<|r j v b)
theorem aj.cell0{w:ga}{h:Hp}{a:vP}{v:ah}{vs:Ay}(r:aj h a (v::vs))(s:sub h (hp w)):w.cell? a=some v:=by
 have:=r.cell s (j:=0) (v:=v) rfl
 simp_all[Addr.add]
theorem aj.drop{h:Hp}{a:vP}{us vs:Ay}(r:aj h a (us++vs)):aj h (a.add us.length) vs:=λc b d=>by
 rw[ke];exact r _ b G
theorem aj.take{h:Hp}{a:vP}{us vs:Ay}(r:aj h a (us++vs)):aj h a us:=λb c d=>
 r b c G
theorem Mx{w:ga}{h:Hp}{a:vP}(s:sub h (hp w)):∀(vs:Ay)(i:Nat),aj h (a.add i) vs->iA w a i vs.length=some vs
 |[],i,_=>rfl
 |v::vs,i,r=>by
  have h1:w.cell? (a.add i)=some v:=r.cell0 s
  have h2:aj h (a.add (i+1)) vs:=by
   rw[<-ke];exact aj.drop (us:=[v]) r
  simp only[lQ,iA,h1,Mx s vs (i+1) h2]
theorem aj.at{w:ga}{h:Hp}{a:vP}{vs:Ay}{n:Nat}(r:aj h a vs)(s:sub h (hp w))(b:vs.length=n):iA w a 0 n=some vs:=by grind[Mx,Addr.add]
theorem j6{b:Nat}{vs:Ay}{h:Hp}(a:ax b vs h):aj h ⟨b,0,none⟩ vs:=λc d e=>by
 obtain⟨f,g⟩:=a
 simp_all[ak,wR]
class tV (α:Type) where
 n:Nat
 rd:Hp->α->Ay->Prop
 mono:∀{h h':Hp}{x:α}{vs:Ay},sub h h'->rd h x vs->rd h' x vs
 len:∀{h:Hp}{x:α}{vs:Ay},rd h x vs->vs.length=n
abbrev rd{α:Type}[tV α](h:Hp)(x:α)(vs:Ay):Prop:=tV.rd h x vs
def bf{α:Type}[tV α](h:Hp)(xs:List α)(a:E)(l:Nat):Prop:=
 xs.length=l/\∀i x,xs[i]? =some x->∃ad vs,a=some ad/\aj h (ad.add (ew i (tV.n α))) vs/\rd h x vs
section
variable{α:Type}[tV α]{h h':Hp}{w:ga}{xs:List α}{a:E}{l:Nat}
theorem bf.mono(s:sub h h')(r:bf h xs a l):bf h' xs a l:=
 ⟨r.1,λb c d=>by obtain⟨e,f,g,i,j⟩:=r.2 b c d;exact⟨e,f,g,i.mono s,tV.mono s j⟩⟩
theorem bf.nil:bf h ([]:List α) a 0:=⟨rfl,λb c d=>η⟩
theorem bf.get(r:bf h xs a l){i:Nat}(hi:i<l):∃x b vs,xs[i]? =some x/\a=some b/\aj h (b.add (ew i (tV.n α))) vs/\rd h x vs:=by
 have b:i<xs.length:=by rw[r.1];omega
 obtain⟨c,vs,d,e,f⟩:=r.2 i xs[i] (gn b)
 grind
theorem bf.drop{k m:Nat}(r:bf h xs a l)(g:k<=l)(i:l<=m):bf h (xs.drop k) (f_ a k m (tV.n α)) (l-k):=by
 refine⟨by rw[qR,r.1],λj c b=>?_⟩;rw[kI] at b;have n:=(gJ.1 b).1;obtain⟨d,e,rfl,o,f⟩:=r.2 _ c b;have p:=r.1
 refine⟨d.add<|ew k<|tV.n α,e,?_,?_,f⟩
 ·unfold f_;grind
 simp_all[ke,bh,Nat.add_mul]
theorem bf.take{k:Nat}(r:bf h xs a l)(e:k<=l):bf h (xs.take k) a k:=by
 refine⟨by rw[k5,r.1];omega,λc d b=>?_⟩;rw[nN] at b
 split at b
 ·exact r.2 c d b
 simp_all
class kC (α:Type) extends tV α where
 val:α->ah
 one:∀{h:Hp}{x:α}{vs:Ay},rd h x vs↔vs=[val x]
 n1:n=1
end
section
variable{α:Type}[kC α]{h h':Hp}{w:ga}{xs:List α}{a:E}{l:Nat}
theorem bf.at(r:bf h xs a l){i:Nat}{x:α}(c:xs[i]? =some x):∃b,a=some b/\∀w,sub h (hp w)->w.cell? (b.add i)=some (kC.val x):=by
 obtain⟨b,j,d,e,f⟩:=r.2 i x c;have:=kC.one.1 f;subst this;refine⟨b,d,λw g=>?_⟩;have:=e.cell0 g
 simp_all[bh,kC.n1]
theorem bf.dy(r:bf h xs a l){i:Nat}(hi:i<l):∃x b,xs[i]? =some x/\a=some b/\∀w,sub h (hp w)->w.cell? (b.add i)=some (kC.val x):=by
 have b:i<xs.length:=by rw[r.1];omega
 obtain⟨c,d,e⟩:=r.at (gn b)
 simp_all
theorem iJ(b:xs.length=l)(c:dX a (xs.map kC.val) h):bf h xs a l:=by
 refine⟨b,λg d i=>?_⟩
 rcases c with j|⟨e,rfl,k⟩
 ·simp_all
 ·refine⟨e,[kC.val d],rfl,λf m n=>?_,kC.one.2 rfl⟩;cases f with
  |zero=>
   simp_all[Option.some.injEq,bh,kC.n1,ke]
  |succ o=>simp_all
theorem bf.row(r:bf h xs a l):dX a (xs.map kC.val) h:=by
 cases xs with
 |nil=>exact .inl rfl
 |cons c f=>
  obtain⟨g,n,rfl,_⟩:=r.2 0 c rfl;refine .inr ⟨g,rfl,λd o b=>?_⟩;rw[iE] at b;cases e:(c::f)[d]? with
  |none=>simp_all
  |some i=>
   rw[e] at b;cases b;obtain⟨p,q,j,k,m⟩:=r.2 d i e;cases j;have:=kC.one.1 m;subst this;have:=k 0 _ rfl
   simp_all[bh,kC.n1,ke]
end
instance:kC Int:={ n:=1,rd:=λ_ x vs=>vs=[O x],mono:=λ_ h=>h,len:=λh=>η,val:=λx=>O x,one:=Iff.rfl,n1:=rfl }
instance:kC Bool:={ n:=1,rd:=λ_ x vs=>vs=[J x],mono:=λ_ h=>h,len:=λh=>η,val:=λx=>J x,one:=Iff.rfl,n1:=rfl }
instance:kC vS:={ n:=1,rd:=λ_ x vs=>vs=[.string x],mono:=λ_ h=>h,len:=λh=>η,val:=λx=>.string x,one:=Iff.rfl,n1:=rfl }
instance {α:Type} [tV α]:tV (List α):=
 { n:=1,rd:=λh xs vs=>∃a l c,vs=[T a l c]/\l<=c/\bf h xs a l,mono:=λs ⟨a,l,c,h1,h3,h2⟩=>⟨a,l,c,h1,h3,h2.mono s⟩,len:=λ⟨_,_,_,h,_⟩=>by simp_all }
def lU:Int->Prop:=λz=>-9223372036854775808<=z/\z<=9223372036854775807
def bv(bs:At):Ay:=bs.map λb=>J b
theorem kC.UP:(kC.val:Int->ah)=λx=>O x:=rfl
theorem bA{h:Hp}{xs:Az}{a:E}{l:Nat}(b:xs.length=l)(c:dX a (iv xs) h):bf h xs a l:=iJ b c
theorem BY{h:Hp}{xs:At}{a:E}{l:Nat}(b:xs.length=l)(c:dX a (bv xs) h):bf h xs a l:=iJ b c
theorem bf.iv{h:Hp}{xs:Az}{a:E}{l:Nat}(r:bf h xs a l):dX a (Proofs.YtaoaemnefghnbaaGreatDoor.iv xs) h:=r.row
theorem dq(xs:Az):(iv xs).length=xs.length:=by simp[iv]
theorem m_(xs:At):(bv xs).length=xs.length:=by simp[bv]
theorem YT{w w':ga}(h:hp w'=hp w):sub (hp w) (hp w'):=Gr.of_eq h
def bt(bs:At):Nat->Bool:=λk=>bs.getD k false
def mb(bs:At):A0:=dJ bs.length (bt bs)
def jC(bs:At):Az:=(mb bs).map λ(k:Nat)=>(k:Int)
def bK(bs:At):Nat:=du bs.length (bt bs)
def Jo(n:Nat)(m:Nat->Bool):At:=(List.range n).map m
def dw(bs:At)(xs:Az):At:=Jo bs.length (gE bs.length (bt bs) xs)
def kZ(bs:At)(k:Int):Bool:=decide (0<=k)&&bt bs k.toNat
def Aa(size:Int)(xs:Az):At:=dw (List.replicate (Mv size) false) xs
def dP(bs:At)(vss:A5):At:=vss.foldl (λb v=>dw b (jC v)) bs
theorem ur(n:Nat)(m:Nat->Bool):(Jo n m).length=n:=by simp[Jo]
theorem bF(bs:At)(xs:Az):(dw bs xs).length=bs.length:=ur _ _
theorem NL(size:Int)(xs:Az):(Aa size xs).length=Mv size:=by simp[Aa,bF]
theorem vw{bs:At}{k:Nat}(h:bs.length<=k):bt bs k=false:=by simp_all[bt]
theorem Ab{bs:At}{k:Nat}{b:Bool}(h:bs[k]? =some b):bt bs k=b:=by simp_all[bt]
theorem Ij{n:Nat}{m:Nat->Bool}(a:∀k,n<=k->m k=false):bt (Jo n m)=m:=by
 funext k
 by_cases b:k<n
 ·simp_all[Ab,Jo]
 simp_all[vw,ur]
theorem UQ(bs:At):Jo bs.length (bt bs)=bs:=by
 apply kv
 grind[Jo,bt,List.getElem?_eq_none,ur]
theorem lV{cs bs:At}(a:cs.length=bs.length)(h:∀k,bt cs k=bt bs k):cs=bs:=by
 rw[<-UQ cs,<-UQ bs,a];congr 1;grind
theorem fl(bs:At)(xs:Az):bt (dw bs xs)=gE bs.length (bt bs) xs:=
 Ij λa b=>by grind[gE,vw]
theorem j7(n k:Nat):bt (List.replicate n false) k=false:=by grind[bt]
theorem dH(bs:At):bK bs<=bs.length:=Fj _ _
theorem Dp(bs:At):(jC bs).length=bK bs:=by rw[jC,jO];rfl
theorem vx{bs:At}{k:Nat}:k∈mb bs↔bt bs k=true:=by grind[mb,dJ,Nat.lt_of_not_le,vw]
theorem El{bs:At}{x:Int}:x∈jC bs↔kZ bs x=true:=by
 simp only[jC,iz,vx,kZ,jn,jV]
 grind
theorem NM{bs:At}{k:Nat}:(jC bs).contains (k:Int)=bt bs k:=by
 rw[lG,List.contains_iff_mem,El];rfl
theorem Ew(bs:At):iv (jC bs)=eh (mb bs):=by rw[jC,YR]
theorem iK(bs vs:At)(k:Nat):bt (dw bs (jC vs)) k=(bt bs k||(decide (k<bs.length)&&bt vs k)):=by
 rw[fl,gE,NM]
theorem BZ(vss:A5):∀bs,(dP bs vss).length=bs.length:=by
 induction vss with
 |nil=>exactλ_=>rfl
 |cons b c a=>exactλbs=>(a _).trans (bF _ _)
theorem WB(vss:A5):∀(bs:At)(k:Nat),bt (dP bs vss) k=(bt bs k||(decide (k<bs.length)&&vss.any λa=>bt a k)):=by
 induction vss with
 |nil=>simp[dP]
 |cons a b c=>
  grind[bt,dP,dw,jC,bF,iK,decide]
theorem Qg{vss:A5}{bs v:At}{j:Nat}(h:vss[j]? =some v):dP bs (vss.take (j+1))=dw (dP bs (vss.take j)) (jC v):=by simp_all[dP,iw]
theorem WC{bs:At}{xs:Az}{j:Nat}{x:Int}(h:xs[j]? =some x):dw (dw bs (xs.take j)) [x]=dw bs (xs.take (j+1)):=by
 refine lV (by simp[bF]) λk=>?_;rw[fl,fl,fl];simp only[gE,bF,cH h,s_,List.contains_cons,List.contains_nil,Bool.or_false]
 grind
theorem YU{n:Nat}{m m':Nat->Bool}(h:∀k,m k=true->m' k=true):du n m<=du n m':=by
 unfold du;rw[<-List.countP_eq_length_filter,<-List.countP_eq_length_filter]
 simp_all[List.countP_mono_left]
theorem uu(bs:At)(xs:Az):bK bs<=bK (dw bs xs):=by simp_all[bK,bF,fl,YU,gE]
def cZ(p:E)(bs:At):aG:=Dj p bs.length (bt bs)
def fm(h:Hp)(p:E)(bs:At):Prop:=
 (p=none/\bs=[])\/∃b a c ws,p=some ⟨b,0,none⟩/\Inv bs.length ws (bt bs)/\aj h ⟨b,0,none⟩ [T a (List.length ws) c,O (bs.length:Int)]/\dX a (cw ws) h
theorem dX.mono{h h':Hp}{a:E}{vs:Ay}(s:sub h h')(r:dX a vs h):dX a vs h':=by
 rcases r with r|⟨b,c,d⟩
 ·exact .inl r
 ·exact .inr ⟨b,c,λe f g=>uq s<|d e f g⟩
theorem fm.mono{h h':Hp}{p:E}{bs:At}(s:sub h h')(r:fm h p bs):fm h' p bs:=by
 rcases r with r|⟨a,b,c,d,e,f,g,i⟩
 ·exact .inl r
 ·exact .inr ⟨a,b,c,d,e,f,g.mono s,i.mono s⟩
theorem Fk{h:Hp}{p:E}{bs:At}(c:cZ p bs h):fm h p bs:=by
 rcases c with⟨a,b,_⟩|⟨d,e,f,g,a,b,i⟩
 ·exact .inl ⟨a,j2 b⟩
 ·obtain⟨o,q,r,j,k,l,s,t,v,m,w,n,_⟩:=i;exact .inr ⟨d,e,f,g,a,b,(j6 l).mono j,(bD n).mono (m.trans k)⟩
theorem W.fm{w:ga}{L:List aG}{p:E}{bs:At}(h:W w (cZ p bs::L)):fm (hp w) p bs:=by
 obtain⟨c,a,b⟩:=h.first;exact(Fk b).mono a
theorem fm.le{h:Hp}{p:E}{bs:At}(r:Proofs.YtaoaemnefghnbaaGreatDoor.fm h p bs):bs.length<=1024:=by
 rcases r with⟨_,rfl⟩|⟨b,c,d,e,_,a,_⟩
 ·simp
 ·exact a.le
theorem YV{w:ga}{L:List aG}{p:E}{n:Nat}{m:Nat->Bool}(h:W w (Dj p n m::L)):W w (cZ p (Jo n m)::L):=by grind[cZ,ur,Ij,YI]
instance:kC (E):={ n:=1,rd:=λ_ x vs=>vs=[.pointer x],mono:=λ_ h=>h,len:=λh=>η,val:=λx=>.pointer x,one:=Iff.rfl,n1:=rfl }
theorem ED{A:aG}{w:ga}(h:A (hp w)):W w [A]:=⟨hp w,λ_=>none,λ_=>.inr rfl,sZ,λ_ _ h=>(nomatch h),h,trivial⟩
section
variable{w:ga}{L:List aG}{a:E}{l c:Nat}{p q:E}{bs cs:At}{xs:Az}{i:A0}
theorem Qh(h:dX a (cw i) (hp w))(d:∀x∈i,x<2^64){k:Nat}(b:k/64<i.length)(g:k<4096):
  ρ 199 [T a i.length c,O (k:Int)] w λe f=>e=J (mem i k)/\f=w:=by
 refine qb ?_;obtain⟨f,rfl,e⟩:=Ii (ED h) (NH b)
 refine⟨SP,?_,?_⟩
 ·rw[BN];exact Dl U
 ·rw[BN,SO]
  refine au rfl b ⟨_,e,SP,?_,?_,rfl⟩
  ·show(0:Int)<=_;omega
  ·rw[P7 (Dk d _) (Nat.mod_lt _ U)];rfl
theorem NN(h:fm (hp w) p bs):ρ 171 [.pointer p] w λa b=>a=O (bs.length:Int)/\b=w:=by
 refine rZ ?_
 rcases h with⟨rfl,rfl⟩|⟨a,b,c,d,rfl,e,h,_⟩
 ·exact⟨rfl,rfl⟩
 ·exact⟨_,h.cell sZ (j:=1) rfl,rfl,rfl⟩
theorem My(h:fm (hp w) p bs)(k:Int):ρ 168 [.pointer p,O k] w λa b=>a=J (kZ bs k)/\b=w:=by
 refine Fc ?_;unfold kZ
 refine ae (λb=>?_) λb=>?_
 ·refine(NN h).mono ?_;rintro _ _⟨rfl,rfl⟩
  refine⟨_,rfl,ae (λc=>?_) λc=>?_⟩
  ·have d:=gZ b;have e:=gZ c
   rcases h with⟨rfl,rfl⟩|⟨n,f,g,i,rfl,a,h,j⟩
   ·simp at e;omega
   ·obtain⟨l,rfl⟩:=Int.eq_ofNat_of_zero_le d;have m:l<bs.length:=U
    refine⟨f,i.length,g,h.cell0 sZ,?_⟩;refine(Qh j a.lt (YJ a m) (by have:=a.le;omega)).mono ?_;rintro _ _⟨rfl,rfl⟩;refine⟨_,rfl,?_,rfl⟩;simp[a.mm]
  ·refine⟨?_,rfl⟩;have a:=hY c;rw[vw (k:=k.toNat) U];simp
 ·exact⟨by rw[b];rfl,rfl⟩
theorem BB(h:W w (cZ p bs::L))(f:∀h,aL L h->bf h xs a l)(g:l<=4611686018427387904):
  ρ 103 [.pointer p,T a l c] w λb d=>b=O ((bK (dw bs xs):Int)-bK bs)/\W d (cZ p (dw bs xs)::L):=by
 obtain⟨b,d,m,i⟩:=h.freeze;have e:=f b d;refine(yG (D:=has b) (L:=[]) (λh j=>e.iv.mono j) i e.1 g).mono ?_;rintro _ n⟨rfl,j⟩
 refine⟨?_,?_⟩
 ·simp[bK,bF,fl]
 ·have k:=YV j;exact k.fy d
theorem WE(size:Int)(d:bf (hp w) xs a l)(e:l<=4611686018427387904):
  ρ 102 [O size,T a l c] w λf g=>∃b,f=.pointer (some ⟨b,0,none⟩)/\W g (cZ (some ⟨b,0,none⟩) (Aa size xs)::all w):=by
 refine(D2 size (D:=has<|hp w) (L:=[]) (λg f=>d.iv.mono f) (W.all w) d.1 e).mono ?_;rintro _ g⟨b,rfl,f⟩;refine⟨b,rfl,?_⟩;have h:=YV f
 have i:Jo (Mv size) (gE (Mv size) (λ_=>false) xs)=Aa size xs:=by
  unfold Aa dw;rw[oF];congr 2
  grind[j7]
 simp_all
theorem Mz(h:fm (hp w) p bs):ρ 172 [.pointer p] w λa c=>∃b,a=.func (.func r6) #[] #[.pointer (some ⟨b,0,none⟩)]/\W c (YM b bs.length (bt bs)::all w):=by
 refine Ff ?_;refine ag (W.all w) λb q a=>?_
 rcases h with⟨rfl,rfl⟩|⟨r,g,i,c,rfl,d,j,e⟩
 ·refine⟨b,rfl,Dn.2 ⟨none,0,[],yI<|gu _,?_⟩⟩;exact(aH 1 a).swap
 ·have k:c.length<=1024:=by rw[d.len];have:=d.le;omega
  refine⟨g,c.length,i,j.cell0 a.aS,?_⟩
  refine(Eb (D:=has<|hp w) (λh f=>e.mono f) a.swap k (λl=>?_)).mono ?_
  ·subst l
   rcases e with f|⟨_,f,_⟩
   ·exact D3 f
   simp_all
  rintro _ s⟨f,m,rfl,n⟩;refine⟨_,_,_,rfl,?_⟩;refine aX n.Py V λt o=>?_;exact⟨b,rfl,Dn.2 ⟨f,m,c,d,o⟩⟩
theorem Fl(h:fm (hp w) p bs)(b:ec (hp w)):ρ 89 [.pointer p] w λc d=>∃a c',c=T a (bK bs) c'/\W d (own 1 a (bK bs) c' (iv (jC bs))::all w):=by
 refine ym ?_;have e:=h.le;have f:=dH bs;refine(Mz h).mono ?_;rintro _ g⟨i,rfl,a⟩;refine⟨_,_,rfl,?_⟩;refine(Wz (rfl:Fn _=true) pV (λh c=>dX.mono (pQ c) b) (by grind[mZ,bK]) a).mono ?_;rintro _ j⟨c,c',rfl,d⟩;refine⟨_,_,_,rfl,c,c',rfl,?_⟩;rw[Ew];exact d.swap.tail
theorem uL(h:W w (own 1 a l c (iv xs)::L)):bf (hp w) xs a l:=by
 have e:=gm h;obtain⟨f,b,d⟩:=h.first;exact(bA (by simp_all[iv])<|bD d).mono b
end
theorem MA{bs cs:At}(h:∀k,bt cs k=true->bt bs k=true):dw bs (jC cs)=bs:=by grind[lV,bF,iK,bt]
theorem Lm(bs:At)(vss:A5)(k:Nat)(h:bt bs k=true):bt (dP bs vss) k=true:=by simp_all[WB]
theorem SR(vss:A5):∀bs,bK bs<=bK (dP bs vss):=by
 induction vss with
 |nil=>exactλ_=>gP _
 |cons a c b=>exactλbs=>j3 (uu bs<|jC a) (b _)
theorem UR{ks:A0}{i:Nat}{us:Ay}(h:(tU ks)[i]? =some us):∃k,ks[i]? =some k/\us=[O (k:Int)]:=by
 unfold tU at h
 grind
theorem EE(ks:A0):(tU ks).length=ks.length:=by simp[tU]
theorem US{bs:At}{i k:Nat}(h:(mb bs)[i]? =some k):(jC bs)[i]? =some (k:Int):=by grind[jC]
theorem iL{L:List aG}{A:aG}:∀{h:Hp},A∈L->aL L h->∃a,sub a h/\A a:=by
 induction L with
 |nil=>simp
 |cons j L a=>
  rintro h b⟨k,l,m,n,c,o,d⟩
  rcases jb.1 b with rfl|e
  ·grind
  ·obtain⟨f,g,i⟩:=a e d;exact⟨f,g.trans c,i⟩
section
variable{w:ga}{L:List aG}{a:E}{l c:Nat}{p q:E}{bs cs:At}{xs:Az}{os:List (E)}{vss:A5}
theorem UT(h:W w (cZ p bs::L))(S:∀h,aL L h->bf h os a l)(X:vss.length=os.length)(Y:∀h,aL L h->∀(i:Nat) q v,os[i]? =some q->vss[i]? =some v->fm h q v\/(q=p/\v=bs))
  (a0:∀h,aL L h->ec h) (aS:l<=4611686018427387904):
  ρ 349 [.pointer p,T a l c] w λv b=>v=O ((bK (dP bs vss):Int)-bK bs)/\W b (cZ p (dP bs vss)::L):=by
 obtain⟨f,j,_,a1⟩:=h.freeze;have x:=S f j;have a2:=Y f j;have a3:ec f:=a0 f j;have aV:=h.fm.le;have a4:∀b,W b (cZ p (dP bs vss)::[has f])->W b (cZ p (dP bs vss)::L):=λb h=>h.fy j;clear h j;refine BX ?_;refine ag a1 λo b0 k=>ag k λm b1 k=>aX k V λa5 k=>?_;have y:∀b,bK (dP bs<|vss.take b)<=1024:=λb=>by grind[dH,dP,BZ]
 refine⟨λd w=>∃b:Nat,d=b/\b<=l/\W w [ax m [O ((bK (dP bs<|vss.take b):Int)-bK bs)],ax o [.pointer p],cZ p<|dP bs<|vss.take b,has f],λb _=>l-b.toNat,
  ⟨0,rfl,U,?_⟩,?_⟩
 ·show W a5 [ax m [O ((bK bs:Int)-bK bs)],_,_,_]
  rw[Int.sub_self];exact k
 rintro _ b2 z⟨d,rfl,b3,g⟩
 refine ae (λa6=>?_) λa6=>?_
 ·have r:d<l:=η
  obtain⟨q,b4,a7,rfl,a8⟩:=x.dy r;have A:sub f (hp z):=(g.pick 4 [3]).has;refine au rfl r ⟨q,a8 _ A,?_⟩;obtain⟨v,C⟩:∃v,vss[d]? =some v:=⟨vss[d]'G,gn _⟩;have F:=Qg (bs:=bs) C;have b5:(dP bs<|vss.take d).length=bs.length:=BZ _ _;have b6:=y d;have a9:=y<|d+1;have b7:=SR (vss.take d) bs;have I:=uu (dP bs<|vss.take d)<|jC v;rw[<-F] at I
  obtain⟨b,aa,N⟩:∃e,fm (hp z) q e/\dw (dP bs<|vss.take d) (jC e)=dP bs (vss.take<|d+1):=by
   rcases a2 d q v a7 C with e|⟨rfl,rfl⟩
   ·exact⟨v,e.mono A,F.symm⟩
   ·refine⟨dP v<|vss.take d,(g.pick 4 [2]).fm,?_⟩
    simp_all[MA,Lm]
  rw[<-N] at I a9;generalize b9:dP bs (vss.take d)=e at*;refine(Mz aa).mono ?_;rintro _ P⟨ab,rfl,ac⟩;have ad:=ac.fy g;refine⟨_,_,rfl,bn.2 ⟨rfl,?_⟩⟩
  refine⟨tU<|mb b,YM ab b.length<|bt b,ec,λi=>aT [ax m [O ((bK (dw e<|(jC b).take i):Int)-bK bs)],ax o [.pointer p],cZ p<|dw e<|(jC b).take i],pu False,λ_=>pu False,[has f],?_,(λh n=>dX.mono (pQ n) a3),pV,?_,?_,?_,?_,trivial⟩
  ·have n:=ad.pick 5 [1,2,3,0,4];have s:dw e []=e:=lV (bF _ _) λt=>by simp[fl,gE]
   show W P [aT [ax m [O ((bK (dw e []):Int)-bK bs)],_,cZ p<|dw e []],_,_]
   rw[s];exact(W.flat.2 (show W P ([_,_,_]++[_,_]) from n))
  ·intro t n;obtain⟨i,s,rfl⟩:=List.mem_iff_getElem.1 n;obtain⟨Q,_,R⟩:=UR (gn s)
   simp_all
  ·intro i ba al bb bc _ am;obtain⟨Q,an,ao⟩:=UR al;cases ao;refine⟨_,am,λbd be _ ap bi av=>?_⟩;have s:=W.flat.1<|ap.drawn av;refine⟨λw=>w.cell? ⟨m,0,none⟩=some (O<|(bK (dw e<|(jC b).take i):Int)-bK bs)/\w.cell? ⟨o,0,none⟩=some (.pointer p),⟨s.cell 0,s.swap.cell 0⟩,_,λw h=>h.1,_,λw h=>h.2,?_⟩;refine ag s λbl bo t=>⟨⟨t.swap.cell 0,t.Py.cell 0⟩,?_⟩
   refine(BB (xs:=[(Q:Int)]) (l:=1) (t.pick 4 [3,0,1,2]) (λh az=>?_) U).mono ?_
   ·obtain⟨aK,_,_,n,_,⟨R,aB⟩,_⟩:=az;exact(bA (xs:=[(Q:Int)]) rfl (.inr ⟨_,rfl,j6 ⟨R,aB⟩⟩)).mono n
   ·rintro _ bu⟨rfl,n⟩;rw[WC (US an)] at n ⊢;have bz:=uu e<|(jC b).take i;have aB:=dH<|dw e<|(jC b).take i;have aK:=dH<|dw e<|(jC b).take (i+1);rw[bF] at aB aK;refine⟨_,rfl,⟨(n.pick 4 [2]).cell 0,(n.pick 4 [3]).cell 0⟩,ξ,?_⟩;refine aX (n.pick 4 [2,3,0]) V λbE R=>W.flat.2 ?_;have aR:((bK (dw e<|(jC b).take i):Int)-bK bs+((bK (dw e<|(jC b).take (i+1)):Int)-bK (dw e<|(jC b).take i)))=(bK (dw e<|(jC b).take (i+1)):Int)-bK bs:=U
    rw[aR] at R;exact R
  ·intro s n;refine⟨ξ,⟨d+1,V,U,?_⟩,bS r⟩;have t:(jC b).take (tU<|mb b).length=jC b:=jy (by rw[EE,Dp];exact gP _);dsimp only at n;rw[t,N] at n;exact(show W s [_,_,_,_,_] from W.flat.1 n).pick 5 [0,1,2,4]
  simp[W.pu]
 ·have b:d=l:=G
  subst b;rw[<-x.1,<-X,jl] at g;refine⟨_,g.cell 0,λn e=>⟨rfl,a4 _ ?_⟩⟩;exact(g.eq e).pick 4 [2,3]
end
section
theorem aI{a:E}{b:vP}{len i sz:Nat}{k:vP->Prop}(c:a=some b)(hi:i<len)(d:k (b.add (ew i sz))):M a len (i:Int) sz k:=
 ⟨b,c,U,U,by simpa using d⟩
section
variable{P:iI}{w w':ga}{L:List aG}{b:Nat}{us vs:Ay}{e j:aC}{A B C D:aG}
theorem aU{Ty:aC->Option dL}(d:fb P Ty){t tx ty:aC}{i:dL}{z:ah}(g:ai Ty t=.slice e)(k:ai Ty tx=.slice j)(hi:Ty e=some i)(m:i.zero=some z)(o:(cellsOf z).length=i.size)
  {a:E} {l c:Nat} (h:W w (ax b vs::own i.size a l c us::L)) (v:vs.length=i.size) (p:∀f∈vs,aO f=true) (q:(l+1)*i.bytes<=140737488355328) (x:l<9223372036854775807):
  bg P (Builtin.append_ (Array.mk [t,tx]) ty (Array.mk [T a l c,T (some ⟨b,0,none⟩) 1 1])) w λr s=>∃f c',r=T f (l+1) c'/\W s (own i.size f (l+1) c' (us++vs)::ax b vs::L):=by
 refine jH d g hi m o h.swap (n:=1) (news:=vs) ?_ q U;refine gU d k U (.inr ⟨_,rfl,λf r s=>?_⟩) p;rw[ak,h.cell];omega
theorem YW{α:Type}[kC α]{Ty:aC->Option dL}(d:fb P Ty){t tx ty:aC}{i:dL}{z:ah}(k:ai Ty t=.slice e)(m:ai Ty tx=.slice j)(hi:Ty e=some i)(o:i.zero=some z)(p:(cellsOf z).length=i.size)
  {a f:E} {l c n c2:Nat} {xs:List α} (h:W w (own i.size a l c us::L)) (q:i.size=1) (b:bf (hp w) xs f n) (r:∀x:α,aO (kC.val x)=true) (s:(l+n)*i.bytes<=140737488355328) (v:l+n<=9223372036854775807):
  bg P (Builtin.append_ (Array.mk [t,tx]) ty (Array.mk [T a l c,T f n c2])) w λy A=>∃g c',y=T g (l+n) c'/\W A (own i.size g (l+n) c' (us++xs.map kC.val)::L):=by
 have g:=b.1
 refine jH d k hi o p h (n:=n) (news:=xs.map kC.val) (gU d m (by rw[q,jO,kA];exact b.1) ?_ ?_) s v
 ·rcases b.row with y|⟨A,rfl,C⟩
  ·left;have:xs=[]:=by simpa using y
   subst this;simpa using g.symm
  ·exact .inr ⟨A,rfl,λF I N=>j5<|C F I N⟩
 ·intro A y;obtain⟨x,_,rfl⟩:=iz.1 y;exact r x
end
theorem UU{w:ga}{L:List aG}{a:E}{l c:Nat}{bs:At}(h:W w (own 1 a l c (bv bs)::L)):bf (hp w) bs a l:=by
 have b:=gm h;obtain⟨f,d,e⟩:=h.first;exact(BY (by simpa[bv] using b)<|bD e).mono d
theorem W.row{w:ga}{L:List aG}{b:Nat}{vs:Ay}(h:W w (ax b vs::L)):aj (hp w) ⟨b,0,none⟩ vs:=by
 obtain⟨d,a,c⟩:=h.first;exact(j6 c).mono a
theorem gd{c:Bool}{a b:Prop}(h:c=true)(d:a):br c a b:=by subst h;exact d
theorem bm{c:Bool}{a b:Prop}(h:c=false)(d:b):br c a b:=by subst h;exact d
theorem dN{L:List aG}:∀{h:Hp}(i:Nat),i<L.length->aL L h->∃a,sub a h/\tX L i a:=by
 induction L with
 |nil=>simp
 |cons l L a=>
  rintro h i m⟨b,n,o,c,d,e,f⟩;cases i with
  |zero=>exact⟨b,c,e⟩
  |succ i=>
   obtain⟨g,j,k⟩:=a i η f;exact⟨g,j.trans d,k⟩
def B3:List aG->Nat
 |[]=>0
 |_::L=>B3 L+1
theorem iY:∀L,B3 L=L.length
 |[]=>rfl
 |_::L=>by simp[B3,iY L]
theorem aE{L:List aG}{h h0:Hp}(i:Nat)(b:aL L h)(e:tX L i=has h0:=by rfl)(hi:Nat.blt i (B3 L)=true:=by rfl):sub h0 h:=by
 obtain⟨d,c,a⟩:=dN i (by simp_all[iY]) b;rw[e] at a;exact sub.trans a c
theorem W.l{w:ga}{L:List aG}(h:W w L):aL L (hp w):=h
theorem NO{bs:At}{k:Nat}(h:bt bs k=true):k<bs.length:=Nat.lt_of_not_le λa=>by simp_all[vw]
section
variable{A B C:At}{N:Nat}(h:A.length=N)(i:B.length=N)(j:C.length=N)
include h i j
end
theorem SS{M:List aG}:∀{i:Nat}{A:aG},M[i]? =some A->M.Perm (A::M.eraseIdx i):=by
 induction M with
 |nil=>simp
 |cons a M b=>
  intro i A c;cases i with
  |zero=>simp_all
  |succ i=>exact(List.Perm.cons a<|b η).trans (List.Perm.swap _ _ _)
theorem YX{M:List aG}{B:aG}:∀{i:Nat}{A:aG},M[i]? =some A->(M.set i B).Perm (B::M.eraseIdx i):=by
 induction M with
 |nil=>simp
 |cons a M b=>
  intro i A c;cases i with
  |zero=>rfl
  |succ i=>exact(List.Perm.cons a<|b (A:=A) η).trans (List.Perm.swap _ _ _)
section
variable{w:ga}{L M:List aG}{A B:aG}{i:Nat}
theorem W.out(h:W w (aT M::L))(hi:M[i]? =some A):W w (A::aT (M.eraseIdx i)::L):=by
 have a:W w (M.eraseIdx i++A::L):=(W.flat.1 h).perm (((SS hi).append_right L).trans lh.symm)
 grind[W.flat,swap]
theorem W.back(h:W w (B::aT (M.eraseIdx i)::L))(hi:M[i]? =some A):W w (aT (M.set i B)::L):=by
 have a:=W.flat.1 h.swap;exact W.flat.2 (a.perm<|lh.trans<|(YX hi).symm.append_right L)
theorem W.snoc(h:W w (A::aT M::L)):W w (aT (M++[A])::L):=by
 have a:=W.flat.1 h.swap
 simp_all[W.flat]
theorem NP{h:Hp}(b:aL (aT M::L) h)(hi:A∈M):∃a,sub a h/\A a:=by
 obtain⟨g,i,j,a,k,c,l⟩:=b;obtain⟨d,e,f⟩:=iL hi c;exact⟨d,e.trans a,f⟩
end
theorem NQ{α β:Type}(f:α->β->aG){ps:List α}{vs:List β}{i:Nat}{p:α}{a:β}(hp:ps[i]? =some p):(List.zipWith f ps vs).set i (f p a)=List.zipWith f ps (vs.set i a):=by
 apply kv
 grind
def bk(p:Nat):E:=some ⟨p,0,none⟩
def pv(os:List (E)):Ay:=os.map λo=>Value.pointer o
def dg(ps:A0)(vss:A5):List aG:=List.zipWith (λp v=>cZ (bk p) v) ps vss
theorem EG{L:List aG}{h:Hp}{ps:A0}{vss:A5}{k m p:Nat}{v:At}(i:Nat)(b:aL L h)(hp:ps[k]? =some p)(j:vss[k]? =some v)(c:k≠m)(e:tX L i=aT ((dg ps vss).eraseIdx m):=by rfl)(hi:Nat.blt i (B3 L)=true:=by rfl):fm h (bk p) v:=by
 obtain⟨l,d,a⟩:=dN i (by simp_all[iY]) b;rw[e] at a;obtain⟨n,f,g⟩:=iL (A:=cZ (bk p) v) (List.mem_eraseIdx_iff_getElem?.2 ⟨k,c,by simp_all[dg,lE]⟩) a;exact(Fk g).mono (f.trans d)
theorem WG{L:List aG}{h:Hp}{a:E}{l c:Nat}{os:List (E)}(i:Nat)(d:aL L h)(e:tX L i=own 1 a l c (pv os):=by rfl)(hi:Nat.blt i (B3 L)=true:=by rfl):os.length=l->bf h os a l:=λf=>by
 obtain⟨j,g,b⟩:=dN i (by simp_all[iY]) d
 rw[e] at b
 exact(iJ f<|bD b).mono g
theorem af{L:List aG}{h:Hp}{b:Nat}{vs:Ay}(i:Nat)(c:aL L h)(e:tX L i=ax b vs:=by rfl)(hi:Nat.blt i (B3 L)=true:=by rfl):aj h ⟨b,0,none⟩ vs:=by
 obtain⟨f,d,a⟩:=dN i (by simp_all[iY]) c;rw[e] at a;exact(j6 a).mono d
open MapKept
class jj (κ:Type) where
 val:κ->ah
 inj:∀a b:κ,val a=val b->a=b
class Dq (κ:Type) [DecidableEq κ] extends jj κ where
 kd:TypeDesc
 now:∀a b:κ,Instr.sameNow kd (val a) (val b)=some (decide (a=b))
 key:∀a,IsKey kd (val a)
 bits:∀a,Instr.sameBits 10000 (val a) (val a)=true
instance:Dq Int:={ kd:=.int .i64,val:=λx=>O x,inj:=λa b h=>η,now:=λa b=>by rfl,key:=λ_=>rfl,bits:=λa=>by simp[Instr.sameBits] }
instance:Dq vS:={ kd:=.string,val:=λx=>.string x,inj:=λa b h=>η,now:=λa b=>by simp only[Instr.sameNow,Option.some.injEq];rw[lG,jV];simp[bytes_beq],key:=λ_=>trivial,bits:=λa=>by simp only[Instr.sameBits];exact(bytes_beq a a).2 rfl }
section
variable{κ:Type}[DecidableEq κ]{P:iI}{w:ga}{L:List aG}
def iV(k:κ):List (κ×ah)->Option ah
 |[]=>none
 |(a,v)::m=>if k=a then some v else iV k m
def c_(k:κ)(v:ah):List (κ×ah)->List (κ×ah)
 |[]=>[(k,v)]
 |(a,u)::m=>if k=a then(k,v)::m else(a,u)::c_ k v m
theorem fN(k a:κ)(v:ah):∀m,iV a (c_ k v m)=if a=k then some v else iV a m
 |[]=>by rfl
 |(b,u)::m=>by
  unfold c_
  by_cases h:k=b
  ·simp_all[iV]
  ·rw[gv h]
   by_cases hab:a=b
   ·simp_all[iV,Ne.symm]
   ·simp[iV,hab,fN k a v m]
theorem Jp(k:κ)(v:ah):∀m,(c_ k v m).length=if(iV k m).isSome then m.length else m.length+1
 |[]=>rfl
 |(b,u)::m=>by
  unfold c_ iV
  by_cases h:k=b
  ·grind
  ·simp only[gv h,lQ,Jp k v m]
   grind
variable[jj κ]
structure BC(es:Array MapEntry)(clock:Nat)(m:List (κ×ah)):Prop where
 eq:es.toList.map (λe=>(e.key,e.val))=m.map λx=>(jj.val x.1,x.2)
 nd:(es.toList.map (·.born)).Nodup
 lt:∀e∈es.toList,e.born<clock
def hZ(b:Nat)(m:List (κ×ah)):aG:=λh=>∃es clock,h b=some (.map es clock)/\BC es clock m
theorem nu{b:Nat}{m:List (κ×ah)}:W w (hZ b m::L)↔∃es a,BC es a m/\W w (blk b (.map es a)::L):=
 ⟨λ⟨a,c,d,e,f,⟨es,g,h,i⟩,j⟩=>⟨es,g,i,a,c,d,e,f,h,j⟩,λ⟨es,a,c,d,e,f,g,h,i,j⟩=>⟨d,e,f,g,h,⟨es,a,i,c⟩,j⟩⟩
theorem eJ{b:Nat}(h:W w (blk b (.map #[] 0)::L)):W w (hZ b ([]:List (κ×ah))::L):=nu.2 ⟨_,_,⟨rfl,V,V⟩,h⟩
structure EH(k:κ)(m:List (κ×ah))(r:Option (Nat×ah)):Prop where
 eq:(r.map (·.2))=iV k m
 at':∀j v,r=some (j,v)->j<m.length/\(m[j]?).map (·.1)=some k/\∀u,c_ k u m=m.set j (k,u)
 no:r=none->∀u,c_ k u m=m++[(k,u)]
structure yx(P:iI)(kt:aC)(κ:Type)[DecidableEq κ][jj κ]:Prop where
 check:∀(w:ga)(em:Bool)(k:κ),(Instr.checkKey em 10000 kt (jj.val k)).run P w=.ok () w
 find:∀(w:ga)(k:κ)(es:List MapEntry)(m:List (κ×ah)),es.map (λe=>(e.key,e.val))=m.map (λx=>(jj.val x.1,x.2))->∃r,(Instr.findKey kt (jj.val k) es).run P w=.ok r w/\EH k m r
 bits:∀k:κ,Instr.sameBits 10000 (jj.val k) (jj.val k)=true
end
section
variable{κ:Type}[DecidableEq κ]{P:iI}{w:ga}{L:List aG}
theorem Jq[Dq κ](k:κ):∀(es:List MapEntry)(m:List (κ×ah))(i:Nat),es.map (λe=>(e.key,e.val))=m.map (λx=>(jj.val x.1,x.2))->
  ∃r,Instr.findNow (Dq.kd κ) (jj.val k) es i=some r/\(r.map (·.2))=iV k m/\(∀j v,r=some (j,v)->i<=j/\j<i+m.length/\(m[j-i]?).map (·.1)=some k/\∀u,c_ k u m=m.set (j-i) (k,u))/\(r=none->∀u,c_ k u m=m++[(k,u)])
 |[],[],i,_=>⟨none,rfl,rfl,λj v h=>G,λ_ u=>rfl⟩
 |[],_::_,i,h=>G
 |_::_,[],i,h=>G
 |e::es,(a,v)::m,i,h=>by
  simp only[kn,List.cons.injEq,Prod.mk.injEq] at h
  obtain⟨⟨h1,h2⟩,h3⟩:=h
  unfold Instr.findNow
  rw[h1,Dq.now]
  by_cases hk:k=a
  ·simp_all[iV,c_]
  ·obtain⟨r,q1,q2,q3,q4⟩:=Jq k es m (i+1) h3
   refine⟨r,η,by simp_all[iV],λj u hj=>?_,λhn u=>by simp_all[c_]⟩
   obtain⟨p1,p2,p3,p4⟩:=q3 j u hj
   have e1:j-i=(j-(i+1))+1:=U
   grind[c_]
theorem yx.Js[Dq κ]{a:aC}(b:P.underlying a=some (Dq.kd κ)):yx P a κ where
 check:=λw c d=>run_checkKey (P:=P) (w:=w) b (Dq.key d) c 9999
 find:=λw c d e f=>by
  obtain⟨g,h,i,k,j⟩:=Jq c d e 0 f
  refine⟨g,run_findKey (P:=P) (w:=w) b h,i,λl m n=>?_,j⟩
  grind
 bits:=Dq.bits
variable[jj κ]
variable{Ty:aC->Option dL}
theorem Dr{d:TypeDesc}{k e:aC}(h:Kd.map k e=iW d):d=.map k e:=by cases d<;>simp[iW] at h;simp_all
theorem sf(c:fb P Ty){t d a:aC}{i:dL}{z:ah}(l:ai Ty t=.map d a)(e:yx P d κ)(hi:Ty a=some i)(n:i.zero=some z){b:Nat}{m:List (κ×ah)}(h:W w (hZ b m::L))(k:κ):
  bg P (Instr.lookup t (.map (some b)) (jj.val k) false) w λf g=>f=(iV k m).getD z/\g=w:=by
 obtain⟨F,f,o⟩:=dR c l V;rw[Dr o] at f;obtain⟨g,p,⟨q,_,_⟩,h⟩:=nu.1 h;obtain⟨r,s,v,_,_⟩:=e.find w k g.toList m q;obtain⟨I,N,j⟩:=tY c hi;have x:(zeroValue a).run P w=.ok z w:=nI j.inf (by rw[<-j.zero,n]);refine⟨_,w,?_,Ev.refl w,rfl,rfl⟩;have y:=h.get;have A:=λC=>e.check w C k;unfold Instr.lookup;simp only[Sem.run_bind,bx f,Result.andThen_ok,run_getObj_map w b g p y,Sem.run_pure,A,s];rw[<-v];cases r with
 |none=>simp[x]
 |some C=>simp
theorem sg(o:fb P Ty){t i p:aC}(q:ai Ty t=.map i p)(f:yx P i κ){b:Nat}{m:List (κ×ah)}(h:W w (hZ b m::L))(k:κ)(v:ah):
  bg P (Instr.mapUpdate t (.map (some b)) (jj.val k) v) w λ_ a=>W a (hZ b (c_ k v m)::L):=by
 obtain⟨Q,g,r⟩:=dR o q V;rw[Dr r] at g;obtain⟨a,d,⟨e,R,S⟩,h⟩:=nu.1 h;obtain⟨s,j,X,x,Y⟩:=f.find w k a.toList m e;have l:=h.get;have n:=λc=>f.check w c k;have a0:a.size=m.length:=by have:=congrArg List.length e;grind
 have ev:∀c:Array MapEntry×Nat,Ev w { w with heap:=w.heap.setIfInBounds b (.map c.1 c.2) }:=λa1=>by
  refine⟨rfl,rfl,rfl,V,?_,?_⟩<;>
  ·grind
 cases s with
 |none=>
  refine⟨(),_,?_,ev (a.push { key:=jj.val k,val:=v,born:=d },d+1),nu.2 ⟨_,_,?_,h.setObj _⟩⟩
  ·unfold Instr.mapUpdate;simp only[Sem.run_bind,bx g,Result.andThen_ok,run_getObj_map w b a d l,n,j]
   grind[run_setObj_map]
  ·refine⟨η,?_,?_⟩
   ·grind
   grind
 |some y=>
  obtain⟨c,z⟩:=y;obtain⟨a2,a3,A⟩:=x c z rfl;have a4:c<a.size:=U
  have C:((a[c]?).map (·.key)).getD (jj.val k)=jj.val k:=by
   have a5:=congrArg (λF=>F[c]?) e
   grind
  refine⟨(),_,?_,ev (a.modify c λI=>{ I with key:=jj.val k,val:=v },d),nu.2 ⟨_,_,?_,h.setObj _⟩⟩
  ·unfold Instr.mapUpdate;simp only[Sem.run_bind,bx g,Result.andThen_ok,run_getObj_map w b a d l,n,j,C,Instr.keyThatStays,f.bits,if_true,Sem.run_pure]
   grind[run_setObj_map]
  ·refine⟨?_,?_,?_⟩
   rotate_left
   ·have:(a.modify c λI=>{ I with key:=jj.val k,val:=v }).toList.map (·.born)=a.toList.map (·.born):=by
     apply kv
     grind
    simp_all
   ·grind[List.getElem?_of_mem,List.mem_of_getElem?]
   rw[A v];apply kv;intro I;have a6:=congrArg (λN=>N[I]?) e
   grind
theorem E8(d:fb P Ty){t e f ty:aC}(g:ai Ty t=.map e f){b:Nat}{m:List (κ×ah)}(h:W w (hZ b m::L)):(Builtin.len_ #[t] ty #[.map (some b)]).run P w=.ok (O (m.length:Int)) w:=by
 obtain⟨o,a,i⟩:=dR d g V;rw[Dr i] at a;obtain⟨c,j,⟨k,_,_⟩,h⟩:=nu.1 h;have l:c.size=m.length:=by have:=congrArg List.length k;grind
 have n:=h.get;simp[Builtin.len_,run_underlying a,run_getObj_map w b c j n,l,goInt]
end
section
variable{κ:Type}[DecidableEq κ][Dq κ]{P:iI}{w:ga}{L:List aG}{Ty:aC->Option dL}
theorem cM(d:fb P Ty){t a c:aC}{i:dL}{z:ah}(e:ai Ty t=.map a c)(f:P.underlying a=some (Dq.kd κ))(hi:Ty c=some i)(g:i.zero=some z){b:Nat}{m:List (κ×ah)}(h:W w (hZ b m::L))(k:κ):
  bg P (Instr.lookup t (.map (some b)) (jj.val k) false) w λj l=>j=(iV k m).getD z/\l=w:=sf d e (yx.Js f) hi g h k
theorem dz(c:fb P Ty){t a d:aC}(e:ai Ty t=.map a d)(f:P.underlying a=some (Dq.kd κ)){b:Nat}{m:List (κ×ah)}(h:W w (hZ b m::L))(k:κ)(v:ah):
  bg P (Instr.mapUpdate t (.map (some b)) (jj.val k) v) w λ_ g=>W g (hZ b (c_ k v m)::L):=sg c e (yx.Js f) h k v
end
def lu(s:vS)(i:Nat):Nat:=(sb s i).toNat
theorem E_(s:vS)(i:Nat):lu s i<256:=(sb s i).toNat_lt
theorem Fb{s:vS}{i:Nat}(h:i<s.size):sb s i=s[i]'h:=by
 unfold sb;have:i<s.data.size:=h;rw[Array.getElem?_eq_getElem this];rfl
theorem yP(s:vS):s.toList=s.data.toList:=by rw[ByteArray.toList_eq]
theorem GX(x y:vS):(x.toList==y.toList)=decide (x=y):=by
 rw[lG,beq_iff_eq,jV,yP,yP]
 grind[WideShapes.bytes_inj]
theorem Qi(x:vS):(x.toList==ByteArray.toList (ByteArray.mk (Array.mk [])))=decide (x.size=0):=by
 rw[GX,lG,jV,jV]
 constructor
 ·rintro rfl;rfl
 ·intro h;refine WideShapes.bytes_inj ?_
  simp_all
def SU(c:Nat):Bool:=decide (32<=c)&&decide (c<=126)&& !decide (c=39)
def ig(s:vS):Bool:=decide (1<=s.size)&&decide (s.size<=16)&&(List.range s.size).all λi=>SU (lu s i)
def UW(i c:Nat):Bool:=decide (c=95)||(decide (65<=c)&&decide (c<=90))||(decide (97<=c)&&decide (c<=122))||(decide (i≠0)&&decide (48<=c)&&decide (c<=57))
def fo(s:vS):Bool:=decide (1<=s.size)&&decide (s.size<=16)&&(List.range s.size).all λi=>UW i (lu s i)
theorem Fm{n:Nat}{p:Nat->Bool}:(List.range n).all p=true↔∀i,i<n->p i=true:=V
theorem WH(s:vS)(pos:Nat)(h:pos<s.size)(a:128<=(s[pos]'h).toNat):128<=(Utf8.decode s pos).1:=by
 have b:s.get! (pos+0)=s[pos]'h:=by
  show s.get! pos=_
  simp[ByteArray.get!,getElem!_pos,h];rfl
 grind[Utf8.decode,Utf8.runeError]
theorem Fe(n:Nat)(h:n<256):IntKind.u8.wrap (n:Int)=n:=by grind[Int.emod_eq_of_lt,IntKind.wrap,IntKind.signed,IntKind.bits]
theorem YY{a b:Nat}(c:a<256)(d:b<256):p8 .or .u8 (a:Int) (b:Int)=((a|||b:Nat):Int):=by
 show IntKind.u8.wrap (((BitVec.ofInt 8 (a:Int))|||(BitVec.ofInt 8 (b:Int))).toNat:Int)=_
 grind[BitVec.ofInt,BitVec.ofNat,BitVec.eq_of_toNat_eq,BitVec.toNat_or,BitVec.toNat_ofNat,Nat.mod_eq_of_lt,Fe,Nat.or_lt_two_pow]
theorem Fg:∀c:Fin 256,(decide (97<=(c.val|||32))&&decide ((c.val|||32)<=122))=((decide (65<=c.val)&&decide (c.val<=90))||(decide (97<=c.val)&&decide (c.val<=122))):=by decide+kernel
instance instRepList1 {α:Type} [tV α]:tV (List α):=inferInstance
def UX(xs:Az):Prop:=∀i x y,xs[i]? =some x->xs[i+1]? =some y->x<=y
end
section
variable{w:ga}{L:List aG}{a:E}{l c:Nat}{s:vS}{ss:List vS}{xs:Az}
theorem WI(r:Int):ρ mX [.int .i32 r] w λa b=>a=J (decide (r<32)||decide (126<r)||(r==39))/\b=w:=by
 refine BV ?_;refine ae (λa=>⟨η,rfl⟩) λa=>ae (λb=>⟨η,rfl⟩) λb=>⟨G,rfl⟩
theorem Qj(q:s.size<=4611686018427387904):ρ 319 [.string s,.func (.func mX) #[] #[]] w λa b=>(∃n:Int,a=O n/\(decide (n<0)=(List.range s.size).all λa=>SU (lu s a)))/\Gr w b:=by
 refine xh ?_
 have j:ρ 370 [.string s,.func (.func mX) #[] #[],J true] w λk l=>(∃n:Int,k=O n/\(decide (n<0)=(List.range s.size).all λa=>SU<|lu s a))/\Gr w l:=by
  refine xj ?_;have m:=W.all w;refine⟨_,_,run_range_string w 9 s Tryz.underlying9,Ev.push _ _,_,rfl,?_⟩;have g:=m.push<|.stringIter s 0;generalize w.heap.size=b at g;refine⟨λd=>∃a,a<=s.size/\(∀c,c<a->SU (lu s c)=true)/\W d (blk b (.stringIter s a)::all w),λa=>s.size-a.iterPos b,⟨0,U,λa c=>U,g⟩,?_⟩;rintro _ c⟨a,hp,r,f⟩;have h:=f.get
  by_cases d:a<s.size
  ·have o:Ev c (c.iterAt b s<|a+(Utf8.decode s a).2):=by
    refine⟨rfl,rfl,rfl,by simp[World.iterAt],?_,?_⟩<;>
    ·grind[World.iterAt,Array.getElem?_setIfInBounds_ne]
   refine⟨_,_,Lib.run_next_any_at c b s a _ h d,o,.inr ⟨_,_,rfl,bn.2 ⟨rfl,(WI _).mono ?_⟩⟩⟩;have e:W (c.iterAt b s<|a+(Utf8.decode s a).2) (blk b (.stringIter s<|a+(Utf8.decode s a).2)::all w):=f.setObj _;rintro _ _⟨rfl,rfl⟩;refine⟨_,rfl,?_⟩;have t:lu s a=(s[a]'d).toNat:=by simp_all[lu,Fb]
   refine ae (λi=>?_) λi=>?_
   ·refine⟨⟨_,rfl,?_⟩,e.tail.has⟩;have:SU (lu s a)=false:=by grind[decode_ascii,SU]
    grind
   ·have p:(s[a]'d).toNat<128:=by grind[Nat.lt_of_not_le,WH]
    rw[decode_ascii s a d p] at e i ⊢;have v:SU (lu s a)=true:=by grind[SU]
    refine⟨⟨a+1,d,λx y=>?_,e⟩,?_⟩
    ·grind
    ·have z:World.iterPos c b=a:=by grind[World.iterPos]
     have A:World.iterPos (c.iterAt b s<|a+1) b=a+1:=by simp[World.iterPos,e.get]
     grind
  ·refine⟨_,_,Lib.run_next_end_at c b s a _ h d,Ev.refl _,.inl ⟨rfl,⟨_,rfl,?_⟩,f.tail.has⟩⟩
   grind
 refine j.mono ?_
 simp_all
theorem YZ(a:s.size<=4611686018427387904):ρ 236 [.string s] w λb c=>b=J (ig s)/\Gr w c:=by
 refine Hq _ w _ ?_;unfold yu;rw[Qi];unfold ig
 refine ae (λb=>?_) λb=>?_
 ·have d:1<=s.size:=G
  refine ae (λc=>?_) λc=>?_
  ·have e:s.size<=16:=G
   refine(Qj a).mono ?_
   simp_all
  grind[of_decide_eq_false,Gr.refl]
 simp_all[Gr.refl]
theorem Y0(t:s.size<=4611686018427387904):ρ 240 [.string s] w λa c=>a=J (fo s)/\c=w:=by
 refine Hs _ w _ ?_;unfold yv;rw[Qi];refine⟨λd e=>∃a:Nat,d=a/\a<=s.size/\(∀c,c<a->UW c (lu s c)=true)/\e=w,λa _=>s.size-a.toNat,⟨0,rfl,U,λa c=>U,rfl⟩,?_⟩;rintro _ v e⟨a,rfl,x,k,rfl⟩
 refine ae (λl=>?_) λl=>?_
 ·have m:a<s.size:=η
  refine⟨ξ,?_⟩;rw[je];have g:=E_ s a;have n:=Fg ⟨lu s a,g⟩;have h:p8 .or .u8 ((sb s a).toNat:Int) 32=((lu s a|||32:Nat):Int):=YY (b:=32) g U;rw[h]
  show br (((lu s a:Nat):Int) !=95) _ _
  have Kz:UW a (lu s a)=true->K ((a:Int)+1)/\(∃c:Nat,(a:Int)+1=c/\c<=s.size/\(∀d,d<c->UW d (lu s d)=true)/\e=e)/\s.size-((a:Int)+1).toNat<s.size-(a:Int).toNat:=λy=>by
   refine⟨ξ,⟨a+1,V,U,λc d=>?_,rfl⟩,bS m⟩
   grind
  have i:UW a (lu s a)=false->J false=J (fo s)/\e=e:=λz=>by
   refine⟨?_,rfl⟩;have:(List.range s.size).all (λc=>UW c<|lu s c)=false:=G
   simp_all[fo]
  have j:(lu s a=95\/(97<=(lu s a|||32)/\(lu s a|||32)<=122)\/(a≠0/\48<=lu s a/\lu s a<=57))↔UW a (lu s a)=true:=by
   have c:(97<=(lu s a|||32)/\(lu s a|||32)<=122)↔((65<=lu s a/\lu s a<=90)\/(97<=lu s a/\lu s a<=122)):=G
   rw[c];unfold UW
   grind
  generalize lu s a|||32=c at*
  have f:(lu s a=95\/(97<=c/\c<=122)\/(a≠0/\48<=lu s a/\lu s a<=57))->_:=λd=>Kz<|j.1 d;have d:¬(lu s a=95\/(97<=c/\c<=122)\/(a≠0/\48<=lu s a/\lu s a<=57))->_:=λo=>i η;clear j n h Kz i
  refine ae (λo=>?_) λo=>?_
  ·have A:lu s a≠95:=G
   refine ae (λp=>?_) λp=>?_
   ·have r:c<97:=G
    refine ae (λq=>d G) λC=>ae (λq=>d (by have:((lu s a:Nat):Int)<48:=gZ q;omega)) λF=>ae (λq=>d (by have:57<((lu s a:Nat):Int):=gZ q;omega)) λq=>f (.inr<|.inr ?_)
    grind[lu,of_decide_eq_false]
   ·have q:97<=c:=G
    refine ae (λC=>?_) λr=>f<|.inr<|.inl ⟨q,G⟩;have F:122<c:=G
    refine ae (λr=>d η) λI=>ae (λr=>d (by have:((lu s a:Nat):Int)<48:=gZ r;omega)) λL=>ae (λr=>d (by have:57<((lu s a:Nat):Int):=gZ r;omega)) λr=>f (.inr<|.inr ?_)
    grind[lu,of_decide_eq_false]
  grind
 ·have c:a=s.size:=G
  subst c;have d:=Fm.2 k;unfold fo;rw[d]
  refine ae (λf=>?_) λf=>?_
  ·have g:1<=s.size:=G
   refine⟨?_,rfl⟩;have h:decide ((s.size:Int)<=16)=decide (s.size<=16):=G
   simp_all
  simp_all
theorem SV(d:bf (hp w) xs a l)(n:l<=4611686018427387904)(x:Int):ρ 257 [T a l c,O x] w λb e=>b=J (decide (x∈xs))/\e=w:=by
 refine oK ?_
 have g:ρ 323 [T a l c,O x] w λh i=>(∃b:Int,h=O b/\decide (0<=b)=decide (x∈xs))/\i=w:=by
  refine q9 ?_;have o:=d.1;refine⟨λe f=>∃b:Nat,e=b/\b<=l/\x∉xs.take b/\f=w,λb _=>l-b.toNat,⟨0,rfl,U,V,rfl⟩,?_⟩;rintro _ p q⟨e,rfl,r,s,rfl⟩
  refine ae (λj=>?_) λj=>?_
  ·have b:e<l:=η
   obtain⟨f,t,v,rfl,k⟩:=d.dy b
   refine au rfl b ⟨f,k _ sZ,ae (λm=>?_) λm=>?_⟩
   ·grind
   ·have y:x≠f:=η
    refine⟨ξ,⟨e+1,V,U,?_,rfl⟩,bS b⟩
    simp_all[cH]
  grind
 refine g.mono ?_
 simp_all
theorem Fh(x:Int):ρ 283 [O x] w λa b=>a=J false/\b=w:=qh ⟨V,rfl⟩
theorem Fi(x y:Int):ρ 277 [O x,O y] w λa b=>a=J (decide (x<y))/\b=w:=by
 refine Di<|(Fh x).mono ?_;rintro _ _⟨rfl,rfl⟩;exact⟨_,rfl,bm rfl ⟨rfl,rfl⟩⟩
theorem SX(d:bf (hp w) xs a l)(C:l<=4611686018427387904):ρ 258 [T a l c] w λb e=>(∃r:Bool,b=J r/\(r=true↔UX xs))/\hp e=hp w:=by
 refine oN ?_;have F:=d.1
 refine⟨ξ,λk m=>∃b:Nat,k=(l:Int)-1-b/\b<=l/\(∀i x y,l-1-b<=i->xs[i]? =some x->xs[i+1]? =some y->x<=y)/\hp m=hp w,λb _=>b.toNat,⟨0,U,U,?_,rfl⟩,?_⟩
 ·simp_all
 rintro _ I L⟨b,rfl,N,h,j⟩
 refine ae (λe=>?_) λe=>?_
 ·have P:=gZ e;have Q:b+1<l:=U
  intro R n;have f:=(fM n).trans j;have o:((l:Int)-1-b)=((l-1-b:Nat):Int):=U
  have p:(((l-1-b:Nat):Int)-1)=((l-2-b:Nat):Int):=U
  rw[o,p];obtain⟨x,S,X,rfl,q⟩:=d.dy (by omega:l-1-b<l);obtain⟨y,Y,s,t,v⟩:=d.dy (by omega:l-2-b<l);cases t;refine⟨λg=>hp g=hp w,f,au rfl U ⟨x,λz g=>q _<|YT g,ξ,au rfl U ⟨y,λz g=>v _<|YT g,(Fi x y).mono ?_⟩⟩⟩;rintro _ _⟨rfl,rfl⟩
  refine⟨_,rfl,ae (λg=>?_) λg=>?_⟩
  ·have A:=gZ g;refine⟨⟨false,rfl,by simp;intro z;have:=z (l-2-b) y x s G;omega⟩,f⟩
  ·have a0:=hY g;refine⟨ξ,⟨b+1,U,U,λi z A a1 Z V=>?_,f⟩,G⟩
   by_cases a2:i=l-2-b
   ·grind
   ·exact h i z A U Z V
 ·have f:=hY e;exact⟨⟨true,rfl,by simp;exactλi x y Z V=>h i x y U Z V⟩,j⟩
theorem SY(a:s.size<=4611686018427387904):ρ lT [.string s] w λb c=>b=J (!fo s)/\c=w:=by
 refine AA<|(Y0 a).mono ?_;simp
theorem Hw(d:bf (hp w) ss a l)(p:l<=4611686018427387904)(g:∀s∈ss,s.size<=4611686018427387904):ρ 255 [T a l c,.func (.func lT) #[] #[]] w λb e=>b=J (!ss.all fo)/\e=w:=by
 refine iD ?_
 have h:ρ 322 [T a l c,.func (.func lT) #[] #[]] w λi j=>(∃b:Int,i=O b/\decide (0<=b)= !ss.all fo)/\j=w:=by
  refine jN ?_;have q:=d.1;refine⟨λe f=>∃b:Nat,e=b/\b<=l/\(ss.take b).all fo=true/\f=w,λb _=>l-b.toNat,⟨0,rfl,U,rfl,rfl⟩,?_⟩;rintro _ r t⟨e,rfl,v,x,rfl⟩
  refine ae (λk=>?_) λk=>?_
  ·have b:e<l:=η
   obtain⟨f,y,m,rfl,n⟩:=d.dy b;refine au rfl b ⟨f,n _ sZ,bn.2 ⟨rfl,(SY<|g f<|gg m).mono ?_⟩⟩;rintro _ _⟨rfl,rfl⟩
   refine⟨_,rfl,ae (λo=>?_) λo=>?_⟩
   ·grind
   ·refine⟨ξ,⟨e+1,V,U,?_,rfl⟩,bS b⟩
    simp_all[iw,List.all_append]
  grind
 refine h.mono ?_
 simp_all
theorem SZ{l:List vS}{x:vS}:(l++[x]).Nodup↔l.Nodup/\x∉l:=G
theorem Qk(h:bf (hp w) ss a l)(x:l<=4611686018427387904):ρ 254 [T a l c] w λb d=>b=J (decide ss.Nodup)/\Gr w d:=by
 refine Hu ?_;have k:=h.1;refine oW (W.all w) λm y n=>?_;have i:=eJ (κ:=vS) n
 refine⟨λg j=>∃(b:Nat)(d:List (vS×ah)),g=b/\b<=l/\(∀e,(iV e d).isSome=true↔e∈ss.take b)/\(∀o e,iV o d=some e->∃f:Nat,e=O (f:Int)/\f<=b)/\d.length<=b/\(d.length=b↔(ss.take b).Nodup)/\W j (hZ m d::all w),λb _=>l-b.toNat,
  ⟨0,[],rfl,U,by simp[iV],λb d e=>by grind[iV],V,V,i⟩,?_⟩
 clear i;rintro _ z A⟨b,j,rfl,C,F,I,L,o,e⟩
 refine ae (λp=>?_) λp=>?_
 ·have f:b<l:=η
  obtain⟨d,N,P,rfl,q⟩:=h.dy f;refine au rfl f ⟨d,q _ e.aS,(cM (κ:=vS) aY (rfl:ai Ty _=.map _ _) Tryz.underlying9 rfl rfl e d).mono ?_⟩;rintro _ _⟨rfl,rfl⟩
  obtain⟨r,s,Q⟩:∃g:Nat,(iV d j).getD (O 0)=O (g:Int)/\g<=b:=by
   cases g:iV d j with
   |none=>grind
   |some t=>grind
  refine⟨_,s,ξ,(dz (κ:=vS) aY (rfl:ai Ty _=.map _ _) Tryz.underlying9 e d _).mono ?_⟩;rintro _ R t;have S:ss.take (b+1)=ss.take b++[d]:=by simp_all[iw]
  refine⟨ξ,⟨b+1,_,V,U,λv=>?_,λv X g=>?_,?_,?_,t⟩,bS f⟩
  ·grind[fN]
  ·rw[fN] at g
   split at g
   ·cases g;exact⟨r+1,V,U⟩
   grind
  ·grind[Jp]
  grind[Jp,SZ,iV]
 ·have d:b=l:=G
  subst d;refine⟨_,E8 aY (rfl:ai Ty _=.map _ _) e,_,rfl,?_,e.aS⟩;rw[<-k,jl] at o;congr 1
  grind
end
abbrev eQ:aC:=3
abbrev bX:=@Tryz.underlying3
abbrev Y2:aC:=5
abbrev WJ:=@Tryz.underlying5
abbrev uv:aC:=9
abbrev qj:=@Tryz.underlying9
abbrev Y3:aC:=24
abbrev Ln:aC:=39
abbrev bH:aC:=86
abbrev td:aC:=170
abbrev te:aC:=178
abbrev Hx:aC:=188
abbrev cP:aC:=193
abbrev Dt:=@Tryz.eqGuardType193
abbrev NR:=@Tryz.stoodInHeld193
abbrev NS:=@Tryz.isAgg193
abbrev NT:=@Tryz.sizeOf193
abbrev Lo:aC:=194
abbrev BD:aC:=197
abbrev Ql:aC:=203
abbrev Qm:aC:=235
abbrev dY:aC:=276
abbrev lx:aC:=288
abbrev NU:=@Tryz.eqGuardType288
abbrev NV:=@Tryz.stoodInHeld288
abbrev pn:aC:=297
abbrev Lp:=@Tryz.eqGuardType297
abbrev Lr:=@Tryz.stoodInHeld297
abbrev yy:aC:=373
abbrev Hy:=@Tryz.stoodInHeld373
abbrev yz:aC:=376
abbrev gG:aC:=379
abbrev S0:aC:=426
abbrev Qn:=@Tryz.underlying426
abbrev uw:aM:=96
abbrev iZ:aM:=187
abbrev fO:aM:=188
abbrev Hz:=@func188
abbrev Jt:aM:=189
abbrev AE:aM:=190
abbrev Du:aM:=283
abbrev mG:=@func350
structure ly where
 name:vS
 level:Int
structure aD where
 left:Int
 right:Az
 level:Int
structure B where
 terms:List ly
 b9:List vS
 levels:Az
 start:Int
 prods:List aD
instance:tV ly:={ n:=2,rd:=λ_ t vs=>vs=[.string t.name,O t.level],mono:=λ_ h=>h,len:=λh=>by simp_all }
instance:tV aD:={ n:=3,rd:=λh p vs=>∃a l c,vs=[O p.left,T a l c,O p.level]/\l<=c/\bf h p.right a l,mono:=λs ⟨a,l,c,h1,h2,h3⟩=>⟨a,l,c,h1,h2,h3.mono s⟩,len:=λ⟨_,_,_,h,_⟩=>by simp_all }
structure GA where
 ta:E
 tl:Nat
 tc:Nat
 na:E
 nl:Nat
 nc:Nat
 la:E
 ll:Nat
 lc:Nat
 s:Int
 pa:E
 pl:Nat
 pc:Nat
def GA.cells(x:GA):Ay:=[T x.ta x.tl x.tc,T x.na x.nl x.nc,T x.la x.ll x.lc,O x.s,T x.pa x.pl x.pc]
structure gR(h:Hp)(g:B)(x:GA):Prop where
 t:bf h g.terms x.ta x.tl
 n:bf h g.b9 x.na x.nl
 l:bf h g.levels x.la x.ll
 s:x.s=g.start
 p:bf h g.prods x.pa x.pl
 tc:x.tl<=x.tc
 nc:x.nl<=x.nc
 lc:x.ll<=x.lc
 pc:x.pl<=x.pc
theorem gR.mono{h h':Hp}{g:B}{x:GA}(s:sub h h')(r:gR h g x):gR h' g x:=⟨r.t.mono s,r.n.mono s,r.l.mono s,r.s,r.p.mono s,r.tc,r.nc,r.lc,r.pc⟩
instance:tV B:={ n:=5,rd:=λh g vs=>∃x:GA,vs=x.cells/\gR h g x,mono:=λs ⟨x,h1,h2⟩=>⟨x,h1,h2.mono s⟩,len:=λ⟨_,h,_⟩=>by rw[h];rfl }
def jq(g:B):Prop:=g.terms.length<=17592186044416/\g.b9.length<=17592186044416/\g.levels.length<=17592186044416/\g.prods.length*40<=140737488351232/\(∀t∈g.terms,t.name.size<=140737488351232/\lU t.level)/\(∀s∈g.b9,s.size<=140737488351232)/\(∀p∈g.prods,p.right.length<=17592186043904)
theorem si{L:List aG}{b:Nat}:∀(vs us:Ay)(i:Nat){w:ga},i+vs.length<=us.length->W w (ax b us::L)->W (dQ w ⟨b,0,none⟩ i vs) (ax b (us.take i++vs++us.drop (i+vs.length))::L)
 |[],us,i,w,_,h=>by simp_all[dQ]
 |v::vs,us,i,w,hl,h=>by
  have h1:=h.ae2 i v
  have h2:=si vs (us.set i v) (i+1) G h1
  simp only[lQ] at hl
  have e:(us.set i v).take (i+1)++vs++(us.set i v).drop (i+1+vs.length)=us.take i++v::vs++us.drop (i+(vs.length+1)):=by
   rw[List.drop_set_of_lt U,List.take_set,iw,o7 _ _ G]
   have:us[i]? =some (us[i]'U):=gn _
   rw[this]
   have e2:i-(us.take i).length=0:=G
   grind
  simp_all[dQ,ak]
theorem vy{w:ga}{L:List aG}{b:Nat}{us:Ay}(h:W w (ax b us::L)):∀(vs:Ay)(i:Nat),i+vs.length<=us.length->(∀v∈vs,aO v=true)->nH w ⟨b,0,none⟩ i vs
 |[],i,_,_=>trivial
 |v::vs,i,hl,h1=>by
  simp only[lQ] at hl
  refine⟨h1 v V,⟨us[i]'U,?_⟩,?_,vy h vs (i+1) U λu hu=>h1 u G⟩
  ·rw[ak,h.cell];simp
  ·rw[ak];exact h.frozen i none
theorem aQ{w:ga}{L:List aG}{b:Nat}{us vs:Ay}{k:ga->Prop}(h:W w (ax b us::L))(e:us.length=vs.length)(a:∀v∈vs,aO v=true)(c:∀w',W w' (ax b vs::L)->k w'):bC w ⟨b,0,none⟩ vs k:=by
 refine⟨vy h vs 0 U a,λw' d=>?_⟩;subst d;have f:=si vs us 0 U h;refine c _ ?_
 grind
theorem dS{a:E}{len b lo sz:Nat}{k:E->Nat->Nat->Prop}(d:lo<=len)(e:len<=b)(c:k (f_ a lo b sz) (len-lo) (b-lo)):mA a len b (some (lo:Int)) none none sz k:=
 ⟨.inl rfl,.inl rfl,⟨V,η⟩,by simpa using c⟩
def yA(g:B)(added:Nat):Prop:=g.terms[0]? =some ⟨.empty,0⟩/\added<g.b9.length/\g.terms.length<=65/\g.b9.length<=64+added/\g.terms.length-1+(g.b9.length-added)<=64/\
 (∀t∈g.terms.drop 1,ig t.name=true/\0<=t.level/\t.level<=g.levels.length)/\(∀(i:Nat) v,g.levels[i]? =some v->1<=v/\v<=3/\∃t∈g.terms.drop 1,t.level=(i:Int)+1)/\
 ((g.terms.drop 1).map ly.name).Nodup/\(g.b9.drop added).Nodup/\∀s∈g.b9.drop added,fo s=true
section
variable{w:ga}{L:List aG}{g:B}{x:GA}
theorem Fv(w:ga)(xo yo:St)(s e:vS)(n m:Int):Sem.run prog (sK .neq lx xo yo (.agg #[.string s,O n]) (.agg #[.string e,O m])) w=.ok (J (!(decide (s=e)&&(n==m)))) w:=by
 unfold sK;rw[Sem.run_bind,run_eqGuard_agg w _ _ _ _ _ _ NU];simp only[Result.andThen_ok];have b:prog.underlying lx=some (.struct<|prog.fieldsOf lx):=by rfl
 have c:prog.underlying eQ=some (.int .i64):=bX;have d:prog.underlying uv=some .string:=qj;have f:(prog.fieldsOf lx).toList=[{ name:="Name",type:=uv,offset:=0,embedded:=false,tag:="",pkgPath:="",byteOffset:=0 },{ name:="Level",type:=eQ,offset:=1,embedded:=false,tag:="",pkgPath:="",byteOffset:=16 }]:=by rfl
 have g:∀(a h:ah)(w:ga),(part uv #[a,h] 0).run prog w=.ok a w:=λa h w=>by rfl
 have h:∀(i a:ah)(w:ga),(part eQ #[i,a] 1).run prog w=.ok a w:=λa i w=>by rfl
 have a:∀i w,(Op.equalIn (i+1) uv (.string s)<|.string e).run prog w=.ok (s.toList==e.toList) w:=λi w=>run_equalIn_string w i _ _ _ d;have i:∀j w,(Op.equalIn (j+1) eQ (O n)<|O m).run prog w=.ok (n==m) w:=λj w=>run_equalIn_int w j _ _ _ _ _ c
 have j:(Op.equalIn (9998+1+1) lx (.agg #[.string s,O n])<|.agg #[.string e,O m]).run prog w=.ok (decide (s=e)&&(n==m)) w:=by
  rw[run_equalIn_agg w (9998+1) lx _ _ b NV,f];unfold Op.eqFields;simp only[ne_eq,String.reduceEq,not_false_eq_true,if_true,Sem.run_bind,g,Result.andThen_ok,a,GX]
  cases k:decide (s=e)
  ·simp
  ·unfold Op.eqFields;simp only[ne_eq,String.reduceEq,not_false_eq_true,if_true,Sem.run_bind,h,Result.andThen_ok,i,Bool.not_true,o8,if_false]
   cases l:(n==m)
   ·simp
   rfl
 rw[run_neq_struct]
 simp_all
end
theorem Fw{w:ga}{L:List aG}{a:E}{l c:Nat}{ss:List vS}(h:W w (own 1 a l c (ss.map λb=>Value.string b)::L)):bf (hp w) ss a l:=by
 have e:=gm h;obtain⟨f,b,d⟩:=h.first;exact(iJ η<|bD d).mono b
section
variable{w:ga}{L:List aG}{g:B}{x:GA}
theorem MB(a6:gR (hp w) g x)(a7:jq g)(e:Nat)(bc:e<=1):
  ρ 164 [.agg ⟨x.cells⟩,O (e:Int)] w λv a=>(∃r:Bool,v=J r/\(r=true↔yA g e))/\Gr w a:=by
 refine Fa ?_;refine ag (W.all w) λa8 d S=>?_;have X:Gr w d:=S.aS;have c:=a6.mono X;have q:aj (hp d) ⟨a8,0,none⟩ x.cells:=S.row;obtain⟨bd,be,bi,bl,a9,bo,bs⟩:=a7;have bu:=c.t.1;have bz:=c.n.1;have bE:=c.l.1;have i:∀a,sub (hp d) (hp a)->Gr w a:=λf a=>X.trans a;have s:=W.all d;unfold Proofs.YtaoaemnefghnbaaGreatDoor.all at s;have l:=λ(a:ga)(f:sub (hp d) (hp a))=>q.cell0 (v:=T x.ta x.tl x.tc) f;have p:=λ(a:ga)(f:sub (hp d) (hp a))=>q.cell f (j:=1) (v:=T x.na x.nl x.nc) rfl;have Y:=λ(a:ga)(f:sub (hp d) (hp a))=>q.cell f (j:=2) (v:=T x.la x.ll x.lc) rfl;generalize hp d=f at*;have h:sub f (hp d):=s.has;have bN:Prop:=True
 refine⟨λb aa=>(b=false↔(g.terms[0]? =some ⟨.empty,0⟩/\e<g.b9.length/\g.terms.length<=65/\g.b9.length<=64+e/\g.terms.length-1+(g.b9.length-e)<=64))/\aa=d,?_,?_⟩
 ·refine⟨_,_,_,l _ h,ae (λz=>⟨?_,rfl⟩) λz=>?_⟩
  ·simp_all
  have A:0<x.tl:=G
  obtain⟨a,m,vs,C,F,a0,I⟩:=c.t.get A;have L:vs=[.string a.name,O a.level]:=I;subst L;have N:aj f m [.string a.name,O a.level]:=by simp_all[bh,Addr.add]
  have P:(g.terms[0]? =some ⟨.empty,0⟩)↔(a.name=.empty/\a.level=0):=by
   rw[C]
   constructor
   ·simp_all
   ·rintro⟨n,o⟩;cases a;grind
  rw[P];refine⟨_,_,_,l _ h,⟨m,F,U,U,?_⟩⟩;have Q:m.add (ew (Int.toNat 0) 2)=m:=by rfl
  rw[Q]
  refine⟨_,_,N.at h rfl,_,Fv _ _ _ _ _ _ _,_,rfl,ae (λn=>⟨?_,rfl⟩) λn=>?_⟩
  ·simp only[ri,Bool.and_eq_false_iff,tQ,beq_eq_false_iff_ne] at n;have:¬(a.name=.empty/\a.level=0):=λo=>n.elim (λt=>t o.1) (λt=>t o.2)
   simp_all
  have R:a.name=ByteArray.mk (Array.mk [])/\a.level=0:=η
  have a1:a.name=.empty/\a.level=0:=R
  refine⟨_,_,_,p _ h,ae (λo=>⟨?_,rfl⟩) λo=>?_⟩
  ·grind
  have a2:=hY o
  refine⟨_,_,_,l _ h,ae (λt=>⟨?_,rfl⟩) λt=>?_⟩
  ·grind
  have a3:=hY t
  refine⟨_,_,_,p _ h,ξ,ae (λy=>⟨?_,rfl⟩) λy=>?_⟩
  ·grind
  have a4:=hY y;refine⟨_,_,_,l _ h,ξ,_,_,_,p _ h,ξ,ξ,?_,rfl⟩
  grind
 rintro _ b _⟨ab,rfl⟩
 refine ae (λac=>?_) λad=>?_
 ·subst ac;refine⟨⟨false,rfl,?_⟩,i _ h⟩
  constructor
  ·simp
  ·rintro⟨a,m,n,o,t,_⟩
   grind
 obtain⟨al,am,an,ao,ap⟩:=ab.1 ad;have a0:1<=x.tl:=G
 refine oW s λt bO av=>?_;have y:=eJ (κ:=Int) av;refine⟨_,_,_,l _ y.aS,dS (lo:=1) a0 c.tc ?_⟩;have a1:=c.t.drop a0 c.tc;have bP:(g.terms.drop 1).length=x.tl-1:=a1.1
 --the terminals
 refine⟨λn o z A C=>∃(j:Nat)(m:List (Int×ah)),A=j/\j<=x.tl-1/\j=o/\(∀a∈(g.terms.drop 1).take j,ig a.name=true/\0<=a.level/\a.level<=g.levels.length)/\(∀a:Int,iV a m=if∃F∈(g.terms.drop 1).take j,F.level=a then some (O 1) else none)/\
   W C [own 1 n j z (((g.terms.drop 1).take j).map λa=>Value.string a.name),hZ t m,has f],λ_ _ _ a _=>x.tl-1-a.toNat,⟨0,[],rfl,U,rfl,V,by simp[iV],aH 1 y⟩,?_⟩
 clear y;rintro _ z _ a2 bT az⟨j,A,rfl,c0,rfl,a3,C,m⟩;have F:sub f (hp az):=aE 2 m.l
 refine ae (λaB=>?_) λaB=>?_
 ·have P:j<x.tl-1:=η
  obtain⟨a,Q,vs,R,a4,a5,aK⟩:=a1.get P;have aR:vs=[.string a.name,O a.level]:=aK;subst aR;have aS:a∈g.terms.drop 1:=gg R;have aV:a∈g.terms:=rr aS;obtain⟨b9,ba⟩:=a9 a aV;have b0:(g.terms.drop 1).take (j+1)=(g.terms.drop 1).take j++[a]:=by simp_all[iw]
  refine⟨Q,a4,U,U,?_⟩;rw[je];refine⟨_,_,a5.at F rfl,ag m λI bb n=>aQ n rfl (by simp[aO]) λc1 n=>?_⟩
  refine⟨λb o=>(b=false↔(ig a.name=true/\0<=a.level/\a.level<=g.levels.length))/\W o [ax I [.string a.name,O a.level],own 1 z j a2<|((g.terms.drop 1).take j).map λL=>Value.string L.name,hZ t A,has f],?_,?_⟩
  ·refine⟨_,n.cell 0,(YZ U).mono ?_⟩;rintro _ b1⟨rfl,b2⟩;have o:=n.gr b2
   refine⟨_,rfl,ae (λb3=>⟨?_,o⟩) λb3=>?_⟩
   ·simp_all
   have b4:ig a.name=true:=η
   have L:b1.cell? ((⟨I,0,none⟩:vP).add 1)=some (O a.level):=o.row.cell sZ rfl
   refine⟨_,L,ae (λN=>⟨?_,o⟩) λN=>?_⟩
   ·grind
   have b5:=hY N;refine⟨_,L,_,_,_,Y _<|aE 3 o.l,?_,o⟩
   simp_all
  ·clear n;rintro _ c2 c3⟨bQ,o⟩
   refine ae (λb1=>?_) λb2=>?_
   ·subst b1;refine⟨⟨false,rfl,?_⟩,i _<|aE 3 o.l⟩
    constructor
    ·simp
    ·rintro⟨_,_,_,_,_,L,_⟩
     grind
   have c4:=bQ.1 b2;refine⟨_,o.cell 0,ag o λc5 c6 b3=>?_⟩;refine(aU aY (rfl:ai Ty _=.slice _) (rfl:ai Ty _=.slice _) rfl rfl rfl (b3.pick 5 [0,2,1,3,4]) rfl (by simp[aO]) G U).mono ?_;rintro _ c7⟨c8,c9,rfl,b4⟩;have N:=b4.pick 5 [3,0,2,4];refine⟨_,_,_,rfl,_,(af (b:=I) (vs:=[.string a.name,O a.level]) 2 N.l).cell sZ (j:=1) rfl,?_⟩;refine(dz (κ:=Int) aY (rfl:ai Ty _=.map _ _) bX N a.level<|O 1).mono ?_;rintro _ ca b5
   refine⟨ξ,⟨j+1,c_ a.level (O 1) A,V,U,rfl,λcb cc=>?_,λL=>?_,?_⟩,G⟩
   ·grind
   ·rw[fN,C,b0]
    by_cases b6:L=a.level
    ·simp_all
    ·rw[gv b6];have:(∃b7∈(g.terms.drop 1).take j++[a],b7.level=L)↔∃b7∈(g.terms.drop 1).take j,b7.level=L:=G
     simp only[this]
   ·have b6:(((g.terms.drop 1).take j).map λb7=>Value.string b7.name)++[.string a.name]=((g.terms.drop 1).take (j+1)).map λb7=>Value.string b7.name:=η
    rw[<-b6];exact b5.pick 4 [1,0,3]
 have aK:j=x.tl-1:=G
 subst aK;rw[jy U] at a3 C m;refine⟨_,_,_,Y _ F,λaR aS=>∃a:Nat,aR=a/\a<=x.ll/\(∀(k:Nat) v,k<a->g.levels[k]? =some v->1<=v/\v<=3/\∃n∈g.terms.drop 1,n.level=(k:Int)+1)/\W aS [own 1 z (x.tl-1) a2 ((g.terms.drop 1).map λn=>Value.string n.name),hZ t A,has f],λa _=>x.ll-a.toNat,⟨0,rfl,U,λk v a=>U,m⟩,?_⟩;clear m F;rintro _ c1 I⟨a,rfl,c2,a4,n⟩;have o:sub f (hp I):=aE 2 n.l
 have L:∀{v:Int},g.levels[a]? =some v->¬(1<=v/\v<=3/\∃N∈g.terms.drop 1,N.level=(a:Int)+1)->(∃r:Bool,J false=J r/\(r=true↔yA g e))/\Gr w I:=λ{v} c3 c4=>by
  refine⟨⟨false,rfl,?_⟩,i _ o⟩
  constructor
  ·simp
  ·rintro⟨_,_,_,_,_,_,N,_⟩
   grind
 refine ae (λaV=>?_) λaV=>?_
 ·have Q:a<x.ll:=η
  obtain⟨v,R,N,a5,b0⟩:=c.l.dy Q;refine⟨R,a5,U,U,?_⟩;rw[je];refine⟨_,b0 _ o,ae (λP=>L N G) λb3=>ae (λP=>L N G) λb4=>⟨ξ,?_⟩⟩;refine(cM (κ:=Int) aY (rfl:ai Ty _=.map _ _) bX rfl rfl (n.pick 3 [1]) ((a:Int)+1)).mono ?_;rintro _ _⟨rfl,rfl⟩;rw[C]
  by_cases P:∃b1∈g.terms.drop 1,b1.level=(a:Int)+1
  ·rw[gD P];refine⟨_,rfl,bm rfl ⟨ξ,⟨a+1,V,U,λk b1 b5 b2=>?_,n⟩,bS Q⟩⟩
   by_cases b6:k=a
   ·grind
   ·exact a4 k b1 U b2
  ·rw[gv P];exact⟨_,rfl,gd rfl (L N (λb1=>P b1.2.2))⟩
 have b0:a=x.ll:=G
 subst b0;have b1:∀(k:Nat) v,g.levels[k]? =some v->1<=v/\v<=3/\∃N∈g.terms.drop 1,N.level=(k:Int)+1:=λk v N=>a4 k v G N;refine⟨_,_,_,p _ o,dS (lo:=e) U c.nc ?_⟩;have a5:=c.n.drop (k:=e) U c.nc;have b2:((g.terms.drop 1).map λN=>Value.string N.name)=((g.terms.drop 1).map ly.name).map λN=>Value.string N:=by rw[nQ];rfl
 rw[b2] at n;have b3:bf (hp I) ((g.terms.drop 1).map ly.name) z (x.tl-1):=Fw n;refine(Qk b3 U).mono ?_;rintro _ b4⟨rfl,b5⟩;have N:sub f (hp b4):=o.trans b5
 refine⟨_,rfl,ae (λP=>?_) λP=>?_⟩
 ·have b6:=gZ P;refine(Qk (a5.mono N) U).mono ?_;rintro _ b7⟨rfl,b9⟩;have Q:sub f (hp b7):=N.trans b9
  refine⟨_,rfl,ae (λR=>?_) λR=>?_⟩
  ·have ba:=gZ R;refine(Hw (a5.mono Q) U (λbb c5=>G)).mono ?_;rintro _ _⟨rfl,rfl⟩;refine⟨_,rfl,⟨_,rfl,?_⟩,i _ Q⟩;rw[Bool.not_not,mE];exact⟨λbb=>⟨al,am,an,ao,ap,a3,b1,b6,ba,bb⟩,λ⟨_,_,_,_,_,_,_,_,_,bb⟩=>bb⟩
  ·have ba:=hY R;refine⟨⟨false,rfl,?_⟩,i _ Q⟩;exact⟨λbb=>G,λ⟨_,_,_,_,_,_,_,_,bb,_⟩=>absurd bb ba⟩
 ·have Q:=hY P;refine⟨⟨false,rfl,?_⟩,i _ N⟩;exact⟨λR=>G,λ⟨_,_,_,_,_,_,_,R,_⟩=>absurd R Q⟩
end
def vz(acc:Az)(x:Int):Az:=if x∈acc then acc else acc++[x]
def dB(l:Az):Az:=l.foldl vz []
theorem GY{l:Az}{j:Nat}{x:Int}(h:l[j]? =some x):dB (l.take (j+1))=vz (dB (l.take j)) x:=by simp_all[dB,iw]
theorem Y4{acc:Az}{x y:Int}:y∈vz acc x↔y∈acc\/y=x:=by grind[vz,id]
theorem Y5(acc:Az)(x:Int):acc.length<=(vz acc x).length/\(vz acc x).length<=acc.length+1:=by grind[vz]
theorem S3{acc:Az}(x:Int)(h:acc.Nodup):(vz acc x).Nodup:=by grind[vz,List.nodup_append]
theorem B5(l:Az):∀acc,acc.Nodup->(l.foldl vz acc).Nodup/\(∀y,y∈l.foldl vz acc↔y∈acc\/y∈l)/\(l.foldl vz acc).length<=acc.length+l.length:=by
 induction l with
 |nil=>simp
 |cons a l b=>
  intro acc c;obtain⟨d,e,f⟩:=b _ (S3 a c)
  refine⟨d,λy=>?_,?_⟩
  ·show y∈l.foldl vz (vz acc a)↔_
   rw[e,Y4,jb,or_assoc]
  grind[vz,Y5,List.length_cons]
theorem NW(l:Az):(dB l).Nodup:=(B5 l [] V).1
theorem Ju{l:Az}{y:Int}:y∈dB l↔y∈l:=by simp[B5,dB]
theorem B6(l:Az):(dB l).length<=l.length:=by grind[B5,dB]
def B.T(g:B):Nat:=g.terms.length
def B.N(g:B):Nat:=g.b9.length
def gI(g:B)(added:Nat)(s:Int):Prop:=1<=s/\s<g.T+g.N/\¬((g.T:Int)<=s/\s<g.T+added)
def tf(g:B)(added:Nat)(p:aD):Prop:=((g.T:Int)+added<=p.left/\p.left<g.T+g.N/\0<=p.level/\p.level<=g.levels.length)/\∀s∈p.right,gI g added s
def kD(g:B)(added:Nat):Az:=dB ((g.prods.drop added).map aD.left)
def Fo(g:B)(added:Nat):Prop:=added<g.prods.length/\g.prods.length<=96+added/\(∀p∈g.prods.drop added,tf g added p)/\
 ((kD g added).length:Int)=(g.N:Int)-added/\(g.T:Int)+added<=g.start/\g.start<g.T+g.N
def kE(g:B):Prop:=yA g 0/\Fo g 0/\UX (kD g 0)
def aw(g:B):Prop:=g.b9[0]? =some .empty/\yA g 1/\Fo g 1/\∃p,g.prods[0]? =some p/\p.left=(g.T:Int)/\p.right=[g.start]/\p.level=0
section
variable{w:ga}{L:List aG}{g:B}{x:GA}
theorem BE(al:gR (hp w) g x)(am:jq g)(b:Nat)(bE:b<=1):
  ρ 165 [.agg ⟨x.cells⟩,O (b:Int)] w λv d=>∃(a:E)(l c:Nat)(xs:Az)(r:Bool),v=.tuple #[T a l c,J r]/\(r=true↔Fo g b)/\(r=true->xs=kD g b)/\W d (own 1 a l c (iv xs)::all w):=by
 refine yr ?_;refine ag (W.all w) λan e a1=>?_;have a2:Gr w e:=a1.aS;have f:=al.mono a2;have q:aj (hp e) ⟨an,0,none⟩ x.cells:=a1.row;obtain⟨bN,bO,bP,bT,c0,c1,ao⟩:=am;have ap:=f.t.1;have av:=f.n.1;have c2:=f.l.1;have c3:=f.p.1;have y:∀d(h:aG),W d [h,has<|hp e]->W d [h,has<|hp w]:=λh i d=>d.fy<|bM a2;have z:=W.all e;unfold Proofs.YtaoaemnefghnbaaGreatDoor.all at z;have F:=λ(d:ga)(s:sub (hp e) (hp d))=>q.cell0 (v:=T x.ta x.tl x.tc) s;have a3:=λ(d:ga)(s:sub (hp e) (hp d))=>q.cell s (j:=1) (v:=T x.na x.nl x.nc) rfl;have az:=λ(d:ga)(s:sub (hp e) (hp d))=>q.cell s (j:=2) (v:=T x.la x.ll x.lc) rfl;have a4:=λ(d:ga)(s:sub (hp e) (hp d))=>q.cell s (j:=3) (v:=O x.s) rfl;have I:=λ(d:ga)(s:sub (hp e) (hp d))=>q.cell s (j:=4) (v:=T x.pa x.pl x.pc) rfl;unfold Proofs.YtaoaemnefghnbaaGreatDoor.all;generalize hp e=i at*;have m:sub i (hp e):=z.has;have c4:g.T=x.tl:=ap;have c5:g.N=x.nl:=av
 have L:∀d,sub i (hp d)->¬Fo g b->∃(a:E)(l c:Nat)(xs:Az)(r:Bool),Value.tuple (Array.mk [D,J false])=.tuple #[T a l c,J r]/\(r=true↔Fo g b)/\(r=true->xs=kD g b)/\W d [own 1 a l c (iv xs),has<|hp w]:=λn s d=>
  ⟨none,0,0,[],false,rfl,⟨λh=>G,λh=>absurd h d⟩,λh=>G,y _ _<|aH 1<|bM s⟩
 refine⟨λd h=>(d=false↔(b<g.prods.length/\g.prods.length<=96+b))/\h=e,?_,?_⟩
 ·refine⟨_,_,_,I _ m,ae (λd=>⟨?_,rfl⟩) λd=>?_⟩
  ·grind
  have h:=hY d;refine⟨_,_,_,I _ m,ξ,?_,rfl⟩
  grind
 rintro _ c6 _⟨aB,rfl⟩
 refine ae (λaK=>?_) λaR=>?_
 ·subst aK;refine L _ m ?_;rintro⟨d,h,_⟩
  grind
 obtain⟨aS,aV⟩:=aB.1 aR;refine⟨_,_,_,F _ m,_,_,_,a3 _ m,ξ,_,_,_,F _ m,ξ,_,_,_,I _ m,dS (lo:=b) U f.pc ?_⟩;have a5:=f.p.drop (k:=b) U f.pc;have c7:=a5.1
 refine⟨λh d n o p=>∃j:Nat,o=j/\j<=x.pl-b/\(dB<|((g.prods.drop b).map aD.left).take j).length=d/\(∀t∈(g.prods.drop b).take j,tf g b t)/\
   W p [own 1 h d n (iv<|dB<|((g.prods.drop b).map aD.left).take j),has i],λ_ _ _ d _=>x.pl-b-d.toNat,⟨0,rfl,U,rfl,V,aH 1 z⟩,?_⟩
 clear z;rintro _ c8 _ c9 ca b0⟨j,rfl,cb,rfl,a6,A⟩;have b1:sub i (hp b0):=aE 1 A.l;have b2:(dB<|((g.prods.drop b).map aD.left).take j).length<=j:=j3 (B6 _) η
 refine ae (λb3=>?_) λb3=>?_
 ·have b4:j<x.pl-b:=η
  obtain⟨d,b5,cc,b6,b7,b9,a7,h,a8,rfl,cd,a9⟩:=a5.get b4;have N:d∈g.prods.drop b:=gg b6;have ba:((g.prods.drop b).map aD.left)[j]? =some d.left:=η
  have ce:=a9.1;have cg:=ao d<|rr N;refine⟨b5,b7,U,U,?_⟩;rw[je];refine⟨_,_,_,_,_,b9.at b1 rfl,ag A λbb ch n=>aQ n rfl (by simp[aO]) λp n=>?_⟩;have P:∀o,sub (hp p) (hp o)->aj (hp o) ⟨bb,0,none⟩ [O d.left,T a7 h a8,O d.level]:=λo s=>n.row.mono s;have t:sub i (hp p):=aE 2 n.l;have C:=λ(o:ga)(s:sub (hp p) (hp o))=>(P o s).cell0 (v:=O d.left) sZ;have bc:=λ(o:ga)(s:sub (hp p) (hp o))=>(P o s).cell sZ (j:=1) (v:=T a7 h a8) rfl;have aa:=λ(o:ga)(s:sub (hp p) (hp o))=>(P o s).cell sZ (j:=2) (v:=O d.level) rfl
  refine⟨λo Q=>(o=false↔((g.T:Int)+b<=d.left/\d.left<g.T+g.N/\0<=d.level/\d.level<=g.levels.length))/\Q=p,?_,?_⟩
  ·refine⟨_,C _ sZ,ae (λo=>⟨?_,rfl⟩) λo=>?_⟩
   ·grind
   have S:=hY o
   refine⟨_,C _ sZ,ae (λQ=>⟨?_,rfl⟩) λQ=>?_⟩
   ·grind
   have X:=hY Q
   refine⟨_,aa _ sZ,ae (λR=>⟨?_,rfl⟩) λR=>?_⟩
   ·grind
   have Y:=hY R;refine⟨_,aa _ sZ,_,_,_,az _ t,?_,rfl⟩
   simp_all
  rintro _ ci bd⟨ab,rfl⟩
  refine ae (λbe=>?_) λbi=>?_
  ·subst be;refine L _ t ?_;rintro⟨_,_,o,_⟩;have:=ab.2 (o d N).1;simp_all
  have bl:=ab.1 bi;refine⟨_,_,_,bc _ sZ,λbo bs=>∃o:Nat,bo=o/\o<=h/\(∀(k:Nat) s,k<o->d.right[k]? =some s->gI g b s)/\bs=bd,λo _=>h-o.toNat,⟨0,rfl,U,λk s o=>U,rfl⟩,?_⟩;rintro _ ck Q⟨o,rfl,cl,cm,rfl⟩
  refine ae (λbu=>?_) λbu=>?_
  ·have R:o<h:=η
   obtain⟨s,cn,bz,rfl,bQ⟩:=a9.dy R;have S:¬gI g b s->_:=λX=>L Q t (λY=>X<|(Y.2.2.1 d N).2 s (gg bz))
   have ac:gI g b s->K ((o:Int)+1)/\(∃X:Nat,(o:Int)+1=X/\X<=h/\(∀(k:Nat) s,k<X->d.right[k]? =some s->gI g b s)/\Q=Q)/\h-((o:Int)+1).toNat<h-(o:Int).toNat:=λco=>by
    refine⟨ξ,⟨o+1,V,U,λk X Y a0=>?_,rfl⟩,bS R⟩
    grind
   refine au rfl R ⟨s,bQ _ t,ae (λX=>S ?_) λX=>ae (λY=>S ?_) λY=>⟨_,_,_,F _ t,ae (λa0=>ae (λad=>S ?_) λad=>ac ?_) λa0=>ac ?_⟩⟩
   ·have:=gZ X;grind[gI]
   ·have:=gZ Y;grind[gI]
   ·have cp:=gZ a0;have cq:=gZ ad;grind[gI]
   ·have cp:=hY X;have cq:=hY Y;have cs:=gZ a0;grind[of_decide_eq_false,gI]
   grind[of_decide_eq_false,gI]
  have S:o=h:=G
  subst S;have bz:tf g b d:=⟨bl,λs R=>by grind[List.mem_iff_getElem,List.getElem?_eq_getElem]⟩;have R:∀X∈(g.prods.drop b).take (j+1),tf g b X:=λX Y=>by grind[List.take_add_one]
  have cn:=GY ba;refine⟨_,C _ sZ,(SV (uL<|n.pick 3 [1]) U d.left).mono ?_⟩;rintro _ _⟨rfl,rfl⟩
  refine⟨_,rfl,ae (λX=>?_) λX=>?_⟩
  ·have co:d.left∉dB (((g.prods.drop b).map aD.left).take j):=η
   refine⟨_,C _ sZ,ag n λcp cq Y=>?_⟩;refine(aU aY (rfl:ai Ty _=.slice _) (rfl:ai Ty _=.slice _) rfl rfl rfl (Y.pick 4 [0,2,3]) rfl (by simp[aO]) G U).mono ?_;rintro _ cs⟨ct,cu,rfl,a0⟩;have ac:dB (((g.prods.drop b).map aD.left).take (j+1))=dB (((g.prods.drop b).map aD.left).take j)++[d.left]:=by simp_all[vz]
   refine⟨_,_,_,rfl,ξ,⟨j+1,V,U,η,R,?_⟩,by dsimp only;omega⟩;rw[ac];have ad:∀l:Az,iv (l++[d.left])=iv l++[O d.left]:=λl=>by simp[iv]
   rw[ad];exact a0.pick 3 [0,2]
  ·have a0:d.left∈dB (((g.prods.drop b).map aD.left).take j):=η
   have Y:dB (((g.prods.drop b).map aD.left).take (j+1))=dB (((g.prods.drop b).map aD.left).take j):=by simp_all[vz]
   refine⟨ξ,⟨j+1,V,U,G,R,?_⟩,G⟩;rw[Y];exact n.pick 3 [1,2]
 have n:j=x.pl-b:=G
 subst n;have o:((g.prods.drop b).map aD.left).take (x.pl-b)=(g.prods.drop b).map aD.left:=jy η;rw[o] at A b2 ⊢;rw[jy U] at a6;intro p t;have d:=A.drawn t;have C:sub i (hp p):=aE 1 d.l
 refine⟨λh=>sub i<|hp h,C,_,_,_,λh s=>a3 _ s,ξ,ae (λN=>?_) λN=>?_⟩
 ·have P:((kD g b).length:Int)=(x.nl:Int)-b:=by simp_all[kD]
  refine⟨_,λh s=>a4 _ s,ae (λh=>?_) λh=>?_⟩
  ·have Q:=gZ h;refine⟨_,λR s=>a4 _ s,_,_,_,_,_,rfl,?_,λ_=>rfl,y _ _ d⟩;rw[jV];have R:=f.s
   constructor
   ·intro S;exact⟨aS,aV,a6,U,U,U⟩
   ·rintro⟨_,_,_,_,_,S⟩;omega
  ·have Q:=hY h;have R:=f.s;exact⟨_,_,_,_,false,rfl,⟨λS=>G,λ⟨_,_,_,_,S,_⟩=>absurd (by omega:(g.T:Int)+b<=g.start->False) U⟩,λS=>(by rfl),y _ _ d⟩
 ·have h:¬((kD g b).length:Int)=(x.nl:Int)-b:=by simp_all[kD]
  exact⟨_,_,_,_,false,rfl,⟨λP=>G,λ⟨_,_,_,P,_⟩=>absurd U h⟩,λP=>(by rfl),y _ _ d⟩
theorem NX(p:gR (hp w) g x)(e:jq g):ρ 166 [.agg ⟨x.cells⟩] w λa b=>(∃r:Bool,a=J r/\(r=true↔kE g))/\Gr w b:=by
 refine Jk ?_;refine ag (W.all w) λq f h=>?_;have c:Gr w f:=h.aS;have i:=p.mono c;have j:aj (hp f) ⟨q,0,none⟩ x.cells:=h.row;refine⟨_,_,_,_,_,_,_,_,_,_,_,_,_,j.at sZ rfl,(MB (x:=x) i e 0 U).mono ?_⟩;rintro _ N⟨⟨r,rfl,k⟩,a⟩
 refine⟨_,rfl,ae (λs=>?_) λs=>?_⟩
 ·have b:r=false:=η
  subst b;exact⟨⟨false,rfl,⟨λd=>G,λd=>absurd (k.2 d.1) V⟩⟩,c.trans a⟩
 have t:r=true:=η
 have v:=k.1 t;refine⟨_,_,_,_,_,_,_,_,_,_,_,_,_,(j.mono a).at sZ rfl,(BE (x:=x) (i.mono a) e 0 U).mono ?_⟩;rintro _ y⟨P,Q,R,S,X,rfl,l,z,d⟩;have m:Gr w y:=(c.trans a).trans d.aS
 refine⟨_,_,_,_,rfl,ae (λb=>?_) λb=>?_⟩
 ·have n:=z b;have A:=gm d;have o:=l.1 b;have Y:=B6<|(g.prods.drop 0).map aD.left;rw[dq,n] at A
  have a0:(kD g 0).length<=96:=by
   have:=o.2.1
   grind[List.length_map,List.length_drop,kD]
  refine(SX (uL d) U).mono ?_;rintro _ a1⟨⟨C,rfl,F⟩,I⟩;refine⟨_,rfl,⟨C,rfl,?_⟩,m.trans<|Gr.of_eq I⟩;rw[F,n];exact⟨λL=>⟨v,o,L⟩,λL=>L.2.2⟩
 ·subst b;exact⟨⟨false,rfl,⟨λn=>G,λn=>absurd (l.2 n.2.1) V⟩⟩,m⟩
end
structure GB(H:Hp)(k:Nat)(x:GA):Prop where
 c0:∀{w:ga},sub H (hp w)->w.cell? ⟨k,0,none⟩=some (T x.ta x.tl x.tc)
 c1:∀{w:ga},sub H (hp w)->w.cell? ((⟨k,0,none⟩:vP).add 1)=some (T x.na x.nl x.nc)
 c2:∀{w:ga},sub H (hp w)->w.cell? ((⟨k,0,none⟩:vP).add 2)=some (T x.la x.ll x.lc)
 c3:∀{w:ga},sub H (hp w)->w.cell? ((⟨k,0,none⟩:vP).add 3)=some (O x.s)
 c4:∀{w:ga},sub H (hp w)->w.cell? ((⟨k,0,none⟩:vP).add 4)=some (T x.pa x.pl x.pc)
 row:∀{w:ga},sub H (hp w)->iA w ⟨k,0,none⟩ 0 5=some x.cells
theorem Y6{H:Hp}{k:Nat}{x:GA}(r:aj H ⟨k,0,none⟩ x.cells):GB H k x:=
 ⟨λs=>r.cell0 s,λs=>r.cell s (j:=1) rfl,λs=>r.cell s (j:=2) rfl,λs=>r.cell s (j:=3) rfl,λs=>r.cell s (j:=4) rfl,λs=>r.at s rfl⟩
theorem dZ{w:ga}{g:B}{x:GA}{e:aC}{k:Nat->ga->Prop}(c:gR (hp w) g x)(d:∀b a,Gr w a->gR (hp a) g x->GB (hp a) b x->k b a):new w (.cells (Array.mk x.cells) e) k:=
 ag (W.all w) λb f a=>d b f a.aS (c.mono a.aS) (Y6 a.row)
theorem nR{a:E}{len sz:Nat}{k:vP->Prop}{b:vP}(c:a=some b)(hi:0<len)(d:k b):M a len 0 sz k:=
 ⟨b,c,U,U,by simpa[bh,Addr.add] using d⟩
theorem ux:∀{l m:Az},l.Nodup->(∀x∈l,x∈m)->l.length<=m.length
 |[],m,_,_=>gu _
 |a::l,m,h,hs=>by
  rw[kN] at h
  have ham:=hs a V
  have:=ux (l:=l) (m:=m.erase a) h.2 λx hx=>(List.mem_erase_of_ne (λe=>h.1 η)).2 (hs x G)
  grind
def Jv(g:B):Prop:=g.terms[0]? =some ⟨.empty,0⟩/\(∀t∈g.terms.drop 1,ig t.name=true/\0<=t.level/\t.level<=g.levels.length)/\((g.terms.drop 1).map ly.name).Nodup
def Dw(g:B):Prop:=∀(i:Nat) v,g.levels[i]? =some v->1<=v/\v<=3/\∃t∈g.terms,t.level=(i:Int)+1
def Qo(g:B)(added:Nat):Prop:=(g.b9.drop added).Nodup/\∀s∈g.b9.drop added,fo s=true
theorem Jw{g:B}{b:Nat}(h:yA g b):g.levels.length<=64:=by
 obtain⟨_,_,f,_,_,_,c,_⟩:=h
 have:=ux (l:=(List.range g.levels.length).map λ(a:Nat)=>(a:Int)+1) (m:=(g.terms.drop 1).map ly.level) (by grind[List.Pairwise.imp,List.nodup_range]) (λi d=>by
  obtain⟨e,a,rfl⟩:=iz.1 d;rw[jY] at a;obtain⟨_,_,j,k,n⟩:=c e _ (gn a)
  grind)
 grind
theorem Dx{g:B}{a:Nat}:yA g a↔a<g.b9.length/\g.terms.length<=65/\g.b9.length<=64+a/\g.levels.length<=64/\g.terms.length-1+(g.b9.length-a)<=64/\Jv g/\Dw g/\Qo g a:=by
 constructor
 ·intro b;have c:=Jw b;obtain⟨d,e,f,h,i,j,n,k,l,m⟩:=b;exact⟨e,f,h,c,i,⟨d,j,k⟩,λo p q=>G,l,m⟩
 ·rintro⟨b,c,d,t,e,⟨f,h,i⟩,j,k,l⟩;refine⟨f,b,c,d,e,h,λm n o=>?_,i,k,l⟩;obtain⟨p,q,r,v,s⟩:=j m n o;refine⟨p,q,r,?_,s⟩;cases w:g.terms with
  |nil=>simp_all
  |cons x y=>
   grind
section
variable{w:ga}{L:List aG}{g:B}{x:GA}{s:vS}
theorem Y7(k:s.size<=4611686018427387904):ρ 300 [.string s] w λa b=>a=J (ig s)/\b=w:=by
 refine uj ?_;refine⟨λc d=>∃a:Nat,c=a/\a<=s.size/\(∀b,b<a->SU (lu s b)=true)/\d=w,λa _=>s.size-a.toNat,⟨0,rfl,U,λa b=>U,rfl⟩,?_⟩;rintro _ l g⟨a,rfl,m,h,rfl⟩
 refine ae (λi=>?_) λi=>?_
 ·have j:a<s.size:=η
  have b:Nq (a:Int) s.size:=ξ
  have c:SU (lu s a)=false->J false=J (ig s)/\g=g:=λn=>by
   refine⟨?_,rfl⟩;have:(List.range s.size).all (λd=>SU<|lu s d)=false:=G
   simp_all[ig]
  rw[je]
  refine⟨b,ae (λd=>c ?_) λd=>⟨b,ae (λe=>c ?_) λe=>⟨b,ae (λf=>c ?_) λf=>?_⟩⟩⟩
  ·have o:((lu s a:Nat):Int)<32:=gZ d
   grind[SU]
  ·have o:126<((lu s a:Nat):Int):=gZ e
   grind[SU]
  ·have o:((lu s a:Nat):Int)=39:=eq_of_beq f
   grind[SU]
  ·have o:¬((lu s a:Nat):Int)<32:=hY d;have p:¬126<((lu s a:Nat):Int):=hY e;have q:¬((lu s a:Nat):Int)=39:=beq_eq_false_iff_ne.1 f;refine⟨ξ,⟨a+1,V,U,λr t=>?_,rfl⟩,bS j⟩
   grind[SU]
 ·have b:a=s.size:=G
  subst b;have c:=Fm.2 h;unfold ig;rw[c]
  refine ae (λd=>⟨?_,rfl⟩) λd=>⟨?_,rfl⟩
  ·have e:1<=s.size:=G
   have f:decide ((s.size:Int)<=16)=decide (s.size<=16):=G
   simp_all
  grind
theorem S4(L:gR (hp w) g x)(N:jq g):ρ 214 [.agg ⟨x.cells⟩] w λa b=>(∃r:Bool,a=J r/\(r=true↔Jv g))/\Gr w b:=by
 refine qX ?_;refine dZ L λab e p k b=>?_;obtain⟨ac,ad,al,am,P,an,ao⟩:=N;have ap:=k.t.1;have av:=k.l.1;have l:∀{a},Gr e a->¬Jv g->(∃r:Bool,J false=J r/\(r=true↔Jv g))/\Gr w a:=λ{f} a c=>⟨⟨false,rfl,⟨λd=>G,λd=>absurd d c⟩⟩,p.trans a⟩
 have m:∀{a:Nat},a<x.tl->∃c d,g.terms[a]? =some c/\x.ta=some d/\(∀f,Gr e f->f.cell? (d.add<|ew a 2)=some (.string c.name))/\(∀f,Gr e f->f.cell? ((d.add<|ew a 2).add 1)=some (O c.level)):=λ{t} d=>by
  obtain⟨a,f,h,i,n,c,o⟩:=k.t.get d;have q:h=[.string a.name,O a.level]:=o;subst q;exact⟨a,f,i,n,λv s=>c.cell0 s,λv s=>c.cell s (j:=1) rfl⟩
 refine⟨λQ R=>(Q=false↔g.terms[0]? =some ⟨.empty,0⟩)/\R=e,?_,?_⟩
 ·refine⟨_,_,_,b.c0 sZ,ae (λn=>⟨?_,rfl⟩) λn=>?_⟩
  ·simp_all
  have c:0<x.tl:=G
  obtain⟨a,f,h,i,v,y⟩:=m c;have o:e.cell? f=some (.string a.name):=by simp_all[bh,Addr.add,Gr.refl]
  have q:e.cell? (f.add 1)=some (O a.level):=by simp_all[Gr.refl,ke,bh]
  refine⟨_,_,_,b.c0 sZ,nR i c ⟨_,o,ae (λd=>⟨?_,rfl⟩) λd=>?_⟩⟩
  ·rw[GX] at d;have s:a.name≠ByteArray.mk (Array.mk []):=η
   rw[h];simp only[reduceCtorEq,false_iff];intro t;cases t;exact s rfl
  ·rw[GX] at d;have s:a.name=ByteArray.mk (Array.mk []):=η
   refine⟨_,_,_,b.c0 sZ,nR i c ⟨_,q,?_,rfl⟩⟩;rw[h]
   constructor
   ·intro t;have:a.level=0:=η
    cases a;simp_all;rfl
   simp_all
 rintro _ az d⟨q,rfl⟩
 refine ae (λS=>?_) λX=>?_
 ·subst S;exact l (Gr.refl _) λa=>by have:=q.2 a.1;simp_all
 have Y:=q.1 X;have aB:1<=x.tl:=G
 refine⟨λc f=>∃j:Nat,c=(j:Int)+1/\j+1<=x.tl/\(∀a∈(g.terms.drop 1).take j,ig a.name=true/\0<=a.level/\a.level<=g.levels.length)/\(((g.terms.drop 1).take j).map ly.name).Nodup/\Gr d f,λa _=>x.tl-a.toNat,⟨0,rfl,U,V,V,Gr.refl _⟩,?_⟩;rintro _ aK aR⟨j,rfl,aS,s,t,h⟩
 refine⟨_,_,_,b.c0 h,ae (λa0=>?_) λa0=>?_⟩
 ·have i:j+1<x.tl:=G
  obtain⟨a,aV,b0,f,v,y⟩:=m i;have a1:(g.terms.drop 1)[j]? =some a:=η
  have z:=gg a1;obtain⟨b1,b2⟩:=P a<|rr z;have b3:(g.terms.drop 1).take (j+1)=(g.terms.drop 1).take j++[a]:=by simp_all[iw]
  have a2:((j:Int)+1)=((j+1:Nat):Int):=by rfl
  rw[a2];refine⟨_,_,_,b.c0 h,aI f i ⟨_,v _ h,(Y7 U).mono ?_⟩⟩;rintro _ b4⟨rfl,rfl⟩
  refine⟨_,rfl,λc n=>(c=false↔(ig a.name=true/\0<=a.level/\a.level<=g.levels.length))/\Gr d n,?_,?_⟩
  ·intro o A;have c:Gr d o:=h.trans (Gr.of_eq<|fM A)
   refine⟨λn=>Gr d n,c,ae (λC=>⟨?_,c⟩) λC=>?_⟩
   ·grind
   have I:ig a.name=true:=G
   refine⟨_,_,_,λF n=>b.c0 n,aI f i ⟨_,λF n=>y _ n,ae (λn=>⟨?_,c⟩) λn=>?_⟩⟩
   ·grind
   have a3:=hY n;refine⟨_,_,_,λa4 F=>b.c0 F,aI f i ⟨_,λa4 F=>y _ F,_,_,_,λa4 F=>b.c2 F,?_,c⟩⟩
   grind
  rintro _ b5 b6⟨A,C⟩
  refine ae (λa3=>?_) λa4=>?_
  ·subst a3;exact l C λc=>by have:=A.2<|c.2.1 a z;grind
  have b7:=A.1 a4;refine⟨λn o=>∃c:Nat,n=(c:Int)+1/\c<=j/\(∀F∈(g.terms.drop 1).take c,F.name≠a.name)/\Gr d o,λc _=>x.tl-c.toNat,⟨0,rfl,U,V,C⟩,?_⟩;rintro _ b9 ba⟨c,rfl,bb,bc,F⟩
  refine ae (λa5=>?_) λa5=>?_
  ·have bd:c<j:=G
   obtain⟨a6,be,bi,I,a7,_⟩:=m (by omega:c+1<x.tl);rw[f] at I;cases I;have bl:(g.terms.drop 1)[c]? =some a6:=G
   have a8:((c:Int)+1)=((c+1:Nat):Int):=by rfl
   intro a9 aa;have n:Gr d a9:=F.trans<|Gr.of_eq<|fM aa;rw[a8];refine⟨λo=>Gr d o,n,_,_,_,λbo o=>b.c0 o,aI f U ⟨_,λbo o=>a7 _ o,_,_,_,λbo o=>b.c0 o,aI f i ⟨_,λbo o=>v _ o,?_⟩⟩⟩;rw[GX]
   refine ae (λo=>?_) λo=>?_
   ·have bo:=gZ o;refine l n λhp=>?_;have bs:=hp.2.2;have bu:((g.terms.drop 1).map ly.name)[c]? =some a.name:=G
    have bz:((g.terms.drop 1).map ly.name)[j]? =some a.name:=G
    grind[List.getElem?_inj,List.getElem?_eq_some_iff]
   ·have bo:=hY o;refine⟨ξ,⟨c+1,V,U,λbs bQ=>?_,n⟩,G⟩
    grind[List.take_add_one]
  ·have n:c=j:=G
   subst n
   refine⟨ξ,⟨c+1,V,U,λo I=>?_,?_,F⟩,G⟩
   ·grind
   grind
 ·have a:j+1=x.tl:=G
  rw[jy η] at s t;exact⟨⟨true,rfl,⟨λ_=>⟨Y,s,t⟩,λ_=>rfl⟩⟩,p.trans h⟩
end
end Go.Proofs.YtaoaemnefghnbaaGreatDoor
