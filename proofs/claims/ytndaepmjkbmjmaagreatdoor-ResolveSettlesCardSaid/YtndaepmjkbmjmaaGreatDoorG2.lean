/- Texts of this claim, one behind the other. -/
import Derived.Test.YtndaepmjkbmjmaaGreatDoorG1
import Derived.Lib.TrailingZeros
import Derived.Laws.IdiomCopy
import Derived.MapKept
import Derived.Laws.RangeAny
import Derived.Laws.Strings
import Derived.Lib.OthersKept
import Derived.Laws.StructEq
set_option linter.unusedVariables false
set_option linter.unusedSectionVars false
set_option maxRecDepth 100000
set_option maxHeartbeats 16000000
namespace Go.V
end Go.V
namespace Go.Proofs.YtndaepmjkbmjmaaGreatDoor
end Go.Proofs.YtndaepmjkbmjmaaGreatDoor
open Go.V Go.Proofs.YtndaepmjkbmjmaaGreatDoor
namespace Go.Proofs.YtndaepmjkbmjmaaGreatDoor
abbrev kX:FuncId:=14
def rU:bm:={ rngs:=[],loops:=[(6,[(4,(.one (.int .i64)))])],joins:=[],blocks:=[] }
section
variable {a b c d:aa3} {i j k l m n o p:Nat} {A B C:Int} {w:aa4} {R:Value->WP}
theorem rV (h:new w (ψ a i j b k l c m n A d o p) λa b=>new b (oC [vS none 0 0,vS none 0 0,vS none 0 0,iI 0,vS none 0 0] 27) λb c=>∃ d,cL c (Addr.add (aM a) 3) (iI d)/\new c (oC [vS none 0 0,vS none 0 0,vS none 0 0,iI 0,vS none 0 0] 27) λc e=>da e (aM c) [vS none 0 0,vS none 0 0,vS none 0 0,iI d,vS none 0 0] λd=>∃ e f g,cL d (aM c) (vS e f g)/\∃ h i j,cL d (aM a) (vS h i j)/\rS (fe 22 (Array.mk [vS e f g,vS h i j])) d λd e=>∃ f g h,d = vS f g h/\st1 e (aM c) (vS f g h) λd=>∃ e f g,cL d (Addr.add (aM c) 1) (vS e f g)/\∃ h i j,cL d (Addr.add (aM a) 1) (vS h i j)/\rS (fe 23 (Array.mk [vS e f g,vS h i j])) d λd e=>∃ f g h,d = vS f g h/\st1 e (Addr.add (aM c) 1) (vS f g h) λd=>∃ e f g,cL d (Addr.add (aM c) 2) (vS e f g)/\∃ h i j,cL d (Addr.add (aM a) 2) (vS h i j)/\rS (fe 24 (Array.mk [vS e f g,vS h i j])) d λd e=>∃ f g h,d = vS f g h/\st1 e (Addr.add (aM c) 2) (vS f g h) λd=>τ [(4,aB)] λe f=>e 0 d/\∀ (_:ν) d g,e d g->∃ h i j,cL g (Addr.add (aM a) 4) (vS h i j)/\br (decide (d < (i:Int))) (∀ b,drawn g b->∃ (h:WP),h b/\∃ i j k,(∀ b,h b->cL b (Addr.add (aM a) 4) (vS i j k))/\idx i j d 3 λi=>∃ j,(∀ a,h a->cL a i (iI j))/\∃ i k l,(∀ b,h b->cL b (Addr.add (aM a) 4) (vS i k l))/\idx i k d 3 λi=>∃ k,(∀ a,h a->cL a (Addr.add i 2) (iI k))/\new b (oC [iI 0,vS none 0 0,iI 0] 81) λb i=>h i/\da i (aM b) [iI j,vS none 0 0,iI k] λh=>∀ i,drawn h i->∃ (h:WP),h i/\∃ j k l,(∀ a,h a->cL a (Addr.add (aM b) 1) (vS j k l))/\∃ m n o,(∀ b,h b->cL b (Addr.add (aM a) 4) (vS m n o))/\idx m n d 3 λa=>∃ m n o,(∀ b,h b->cL b (Addr.add a 1) (vS m n o))/\rS (fe 24 (Array.mk [vS j k l,vS m n o])) i λa i=>∃ j k l,a = vS j k l/\h i/\st1 i (Addr.add (aM b) 1) (vS j k l) λa=>∃ h i j,cL a (Addr.add (aM c) 4) (vS h i j)/\∃ k l m n o,rA a (aM b) 3 [iI k,vS l m n,iI o]/\new a (oC [iI k,vS l m n,iI o] 81) λa b=>rS (fe 25 (Array.mk [vS h i j,vS (some (aM a)) 1 1])) b λa b=>∃ h i j,a = vS h i j/\st1 b (Addr.add (aM c) 4) (vS h i j) λa=>ax (d + 1)/\e (d + 1) a/\f (d + 1) a < f d g) (∃ a d e f h i j k l m n o p,rA g (aM c) 5 [vS a d e,vS f h i,vS j k l,iI m,vS n o p]/\da g (aM b) [vS a d e,vS f h i,vS j k l,iI m,vS n o p] λa=>χ a (aM b) λb=>R (b) a)):ρ 14 [φ a i j b k l c m n A d o p] w R:=rv Tryz.func14 rU (by kernel_rfl) h
abbrev vu:FuncId:=19
def rW:bm:={ rngs:=[],loops:=[(5,[(6,(.one (.int .i64)))]),(10,[(7,(.one (.int .i64)))]),(15,[(8,(.one (.int .i64)))])],joins:=[(3,[(52,(.one .bool))])],blocks:=[] }
theorem rX {a:aa3} {b c:Nat} {d:aa3} {e f:Nat} {g:aa3} {i j:Nat} {k:Int} {l:aa3} {m n:Nat} {o:aa3} {p q:Nat} {s:aa3} {t u:Nat} {v:aa3} {x y:Nat} {z:Int} {aa:aa3} {ab ac:Nat} {w:aa4} {R:Value->WP} (h:new w (ψ a b c d e f g i j k l m n) λa b=>new b (ψ o p q s t u v x y z aa ab ac) λb c=>∃ d e f,cL c (Addr.add (aM a) 2) (vS d e f)/\∃ g h i,cL c (Addr.add (aM b) 2) (vS g h i)/\rE 47 [vS d e f,vS g h i] c λc d=>∃ e,c = vB e/\∃ (c:lP [(52,jD)]),br (!e) (c true d) (∃ e,cL d (Addr.add (aM a) 3) (iI e)/\∃ f,cL d (Addr.add (aM b) 3) (iI f)/\br (e != f) (c true d) (∃ e f g,cL d (aM a) (vS e f g)/\∃ e g h,cL d (aM b) (vS e g h)/\br ((f:Int) != (g:Int)) (c true d) (∃ e f g,cL d (Addr.add (aM a) 1) (vS e f g)/\∃ e g h,cL d (Addr.add (aM b) 1) (vS e g h)/\br ((f:Int) != (g:Int)) (c true d) (∃ e f g,cL d (Addr.add (aM a) 4) (vS e f g)/\∃ a e g,cL d (Addr.add (aM b) 4) (vS a e g)/\c ((f:Int) != (e:Int)) d))))/\∀ (_:ν) d e,c d e->br d (R (vB false) e) (τ [(6,aB)] λc d=>c 0 e/\∀ (_:ν) e f,c e f->∃ g h i,cL f (aM a) (vS g h i)/\br (decide (e < (h:Int))) (∀ g,drawn f g->∃ (h:WP),h g/\∃ i j k,(∀ b,h b->cL b (aM a) (vS i j k))/\idx i j e 2 λa=>∃ i j,(∀ b,h b->rA b a 2 [Value.string i,iI j])/\∃ a k l,(∀ c,h c->cL c (aM b) (vS a k l))/\idx a k e 2 λa=>∃ b k,(∀ c,h c->rA c a 2 [Value.string b,iI k])/\∃ a,(∀ c,h c->Sem.run Proofs.Tryz.prog (je BinOp.neq 83 (Operand.tmp 64) (Operand.tmp 69) (vG [Value.string i,iI j]) (vG [Value.string b,iI k])) c = Result.ok a c)/\∃ b,a = vB b/\br b (R (vB false) g) (ax (e + 1)/\c (e + 1) g/\d (e + 1) g < d e f)) (τ [(7,aB)] λc d=>c 0 f/\∀ (_:ν) e f,c e f->∃ g h i,cL f (Addr.add (aM a) 1) (vS g h i)/\br (decide (e < (h:Int))) (∀ g,drawn f g->∃ (h:WP),h g/\∃ i j k,(∀ b,h b->cL b (Addr.add (aM a) 1) (vS i j k))/\idx i j e 1 λa=>∃ i,(∀ b,h b->cL b a (Value.string i))/\∃ a j k,(∀ c,h c->cL c (Addr.add (aM b) 1) (vS a j k))/\idx a j e 1 λa=>∃ b,(∀ c,h c->cL c a (Value.string b))/\br (!ByteArray.toList i == ByteArray.toList b) (R (vB false) g) (ax (e + 1)/\c (e + 1) g/\d (e + 1) g < d e f)) (τ [(8,aB)] λc d=>c 0 f/\∀ (_:ν) e f,c e f->∃ g h i,cL f (Addr.add (aM a) 4) (vS g h i)/\br (decide (e < (h:Int))) (∃ g h i,cL f (Addr.add (aM a) 4) (vS g h i)/\idx g h e 3 λa=>∃ g h i j k,rA f a 3 [iI g,vS h i j,iI k]/\new f (oC [iI 0,vS none 0 0,iI 0] 81) λa l=>da l (aM a) [iI g,vS h i j,iI k] λg=>∃ h i j,cL g (Addr.add (aM b) 4) (vS h i j)/\idx h i e 3 λb=>∃ h i j k l,rA g b 3 [iI h,vS i j k,iI l]/\new g (oC [iI 0,vS none 0 0,iI 0] 81) λb g=>da g (aM b) [iI h,vS i j k,iI l] λg=>∃ h i j,cL g (Addr.add (aM a) 1) (vS h i j)/\∃ k l m,cL g (Addr.add (aM b) 1) (vS k l m)/\rE 47 [vS h i j,vS k l m] g λg h=>∃ i,g = vB i/\br (!i) (R (vB false) h) (∃ g,cL h (aM a) (iI g)/\∃ i,cL h (aM b) (iI i)/\br (g != i) (R (vB false) h) (∃ g,cL h (Addr.add (aM a) 2) (iI g)/\∃ a,cL h (Addr.add (aM b) 2) (iI a)/\br (g != a) (R (vB false) h) (ax (e + 1)/\c (e + 1) h/\d (e + 1) h < d e f)))) (R (vB true) f))))):ρ 19 [φ a b c d e f g i j k l m n,φ o p q s t u v x y z aa ab ac] w R:=rv Tryz.func19 rW (by kernel_rfl) h
abbrev rY:FuncId:=39
def oY:bm:={ rngs:=[],loops:=[],joins:=[(2,[(20,(.one .bool))])],blocks:=[] }
theorem oZ (h:new w (ψ a i j b k l c m n A d o p) λa b=>∃ (c:lP [(20,jD)]),(∃ d e f,cL b (Addr.add (aM a) 1) (vS d e f)/\br (decide ((e:Int) < 2)) (c true b) (∃ d e f,cL b (Addr.add (aM a) 1) (vS d e f)/\idx d e 0 1 λd=>∃ e,cL b d (Value.string e)/\br (!ByteArray.toList e == ByteArray.toList (ByteArray.mk (Array.mk []))) (c true b) (∃ d e f,cL b (Addr.add (aM a) 4) (vS d e f)/\c (decide ((e:Int) < 2)) b)))/\∀ (_:ν) b d,c b d->br b (R (vB false) d) (∃ b c e,cL d (Addr.add (aM a) 4) (vS b c e)/\idx b c 0 3 λb=>∃ c e f g h,rA d b 3 [iI c,vS e f g,iI h]/\new d (oC [iI 0,vS none 0 0,iI 0] 81) λb d=>da d (aM b) [iI c,vS e f g,iI h] λc=>∀ d,drawn c d->∃ (c:WP),c d/\∃ e,(∀ a,c a->cL a (aM b) (iI e))/\∃ f g h,(∀ b,c b->cL b (aM a) (vS f g h))/\br (e != (g:Int)) (R (vB false) d) (∃ e f g,(∀ a,c a->cL a (Addr.add (aM b) 1) (vS e f g))/\br ((f:Int) != 1) (R (vB false) d) (∃ e f g,(∀ a,c a->cL a (Addr.add (aM b) 1) (vS e f g))/\idx e f 0 1 λe=>∃ f,(∀ a,c a->cL a e (iI f))/\∃ e,(∀ b,c b->cL b (Addr.add (aM a) 3) (iI e))/\br (f != e) (R (vB false) d) (∃ e,(∀ a,c a->cL a (Addr.add (aM b) 2) (iI e))/\br (e != 0) (R (vB false) d) (χ d (aM a) λa=>rE 75 [a,iI 1] d λa b=>∃ c,a = vB c/\R (vB c) b)))))):ρ 39 [φ a i j b k l c m n A d o p] w R:=rv Tryz.func39 oY (by kernel_rfl) h
abbrev o_:FuncId:=47
def mR:bm:={ rngs:=[],loops:=[(4,[(5,(.one (.int .i64)))])],joins:=[],blocks:=[] }
theorem mS (h:br ((i:Int) != (k:Int)) (R (vB false) w) (τ [(5,aB)] λc d=>c 0 w/\∀ (_:ν) e f,c e f->br (decide (e < (i:Int))) (∀ g,drawn f g->∃ (h:WP),h g/\idx a i e 1 λa=>∃ i,(∀ b,h b->cL b a (iI i))/\idx b k e 1 λa=>∃ b,(∀ c,h c->cL c a (iI b))/\br (i != b) (R (vB false) g) (ax (e + 1)/\c (e + 1) g/\d (e + 1) g < d e f)) (R (vB true) f))):ρ 47 [(.slice a i j),(.slice b k l)] w R:=rv Tryz.func47 mR (by kernel_rfl) h
abbrev EW:FuncId:=49
def BC:bm:={ rngs:=[],loops:=[],joins:=[(2,[(21,(.one .bool))])],blocks:=[] }
theorem BD (h:new w (ψ a i j b k l c m n A d o p) λa b=>∃ (c:lP [(21,jD)]),(∃ d e f,cL b (Addr.add (aM a) 1) (vS d e f)/\br ((e:Int) == 0) (c true b) (∃ d e f,cL b (Addr.add (aM a) 1) (vS d e f)/\idx d e 0 1 λd=>∃ e,cL b d (Value.string e)/\br (!ByteArray.toList e == ByteArray.toList (ByteArray.mk (Array.mk []))) (c true b) (χ b (aM a) λa=>rE 89 [a,iI 1] b λa b=>∃ d,a = vB d/\c (!d) b)))/\∀ (_:ν) b d,c b d->br b (R (vB false) d) (χ d (aM a) λb=>rE 90 [b,iI 1] d λb c=>∃ d e f g,b = vU [vS d e f,vB g]/\∃ b d e,cL c (Addr.add (aM a) 4) (vS b d e)/\∀ e,drawn c e->∃ (c:WP),c e/\br g (idx b d 0 3 λf=>∃ g,(∀ a,c a->cL a f (iI g))/\∃ f h i,(∀ b,c b->cL b (aM a) (vS f h i))/\br (g == (h:Int)) (idx b d 0 3 λf=>∃ g h i,(∀ a,c a->cL a (Addr.add f 1) (vS g h i))/\br ((h:Int) == 1) (idx b d 0 3 λf=>∃ g h i,(∀ a,c a->cL a (Addr.add f 1) (vS g h i))/\idx g h 0 1 λf=>∃ g,(∀ a,c a->cL a f (iI g))/\∃ f,(∀ b,c b->cL b (Addr.add (aM a) 3) (iI f))/\br (g == f) (idx b d 0 3 λa=>∃ b,(∀ d,c d->cL d (Addr.add a 2) (iI b))/\R (vB (b == 0)) e) (R (vB false) e)) (R (vB false) e)) (R (vB false) e)) (R (vB false) e))):ρ 49 [φ a i j b k l c m n A d o p] w R:=rv Tryz.func49 BC (by kernel_rfl) h
abbrev FI:FuncId:=59
def IC:bm:={ rngs:=[],loops:=[],joins:=[],blocks:=[] }
def De (a:Int) (b:aa3) (c d:Nat) (w:aa4) (R:Value->WP):Prop :=  ax ((if 1024 < if a < 0 then 0 else a then 1024 else if a < 0 then 0 else a) + 63)/\nz 64/\ax (Int.tdiv ((if 1024 < if a < 0 then 0 else a then 1024 else if a < 0 then 0 else a) + 63) 64)/\tE (Int.tdiv ((if 1024 < if a < 0 then 0 else a then 1024 else if a < 0 then 0 else a) + 63) 64) (Int.tdiv ((if 1024 < if a < 0 then 0 else a then 1024 else if a < 0 then 0 else a) + 63) 64) 8/\new w (Obj.cells (Array.mk (ir (Int.toNat (Int.tdiv ((if 1024 < if a < 0 then 0 else a then 1024 else if a < 0 then 0 else a) + 63) 64)) [Value.int IntKind.u64 0])) 241) λe f=>new f (oC [vS (some (aM e)) (Int.toNat (Int.tdiv ((if 1024 < if a < 0 then 0 else a then 1024 else if a < 0 then 0 else a) + 63) 64)) (Int.toNat (Int.tdiv ((if 1024 < if a < 0 then 0 else a then 1024 else if a < 0 then 0 else a) + 63) 64)),iI (if 1024 < if a < 0 then 0 else a then 1024 else if a < 0 then 0 else a)] 192) λa e=>vt Proofs.Tryz.prog Ev 60 [vP (some (aM a)),vS b c d] e λb c=>∃ d,b = iI d/\R (vP (some (aM a))) c
theorem ID (a:Int) (b:aa3) (c d:Nat) (w:aa4) (R:Value->WP) (h:De a b c d w R):ρ 59 [(.int .i64 a),(.slice b c d)] w R:=rv Tryz.func59 IC (by kernel_rfl) h
abbrev tN:FuncId:=60
def zV:bm:={ rngs:=[],loops:=[(3,[(5,(.one (.int .i64))),(10,(.one (.int .i64)))])],joins:=[],blocks:=[] }
theorem zW (h:τ [(5,aB),(10,aB)] λc d=>c 0 0 w/\∀ (_:ν) e f g,c e f g->br (decide (f < (i:Int))) (idx b i f 1 λb=>∃ h,World.cell? g b = some (iI h)/\br (decide (0<=h)) (rE 109 [vP a] g λb i=>∃ j,b = iI j/\br (decide (h < j)) (nn a λb=>∃ j k l,World.cell? i b = some (vS j k l)/\rE 110 [vS j k l,iI h] i λb i=>∃ j,b = vB j/\br (!j) (nn a λa=>∃ b j k,World.cell? i a = some (vS b j k)/\rE 111 [vS b j k,iI h] i λa b=>a = vU []/\ax (e + 1)/\ax (f + 1)/\c (e + 1) (f + 1) b/\d (e + 1) (f + 1) b < d e f g) (ax (f + 1)/\c e (f + 1) i/\d e (f + 1) i < d e f g)) (ax (f + 1)/\c e (f + 1) i/\d e (f + 1) i < d e f g)) (ax (f + 1)/\c e (f + 1) g/\d e (f + 1) g < d e f g)) (R (iI e) g)):ρ 60 [(.pointer a),(.slice b i j)] w R:=rv Tryz.func60 zV (by kernel_rfl) h
abbrev wT:FuncId:=61
def tO:bm:={ rngs:=[],loops:=[],joins:=[],blocks:=[] }
theorem tP (h:rE 113 [vP a] w λa b=>∃ c d,a = Value.func (Fn.func c) (Array.mk []) (Array.mk d)/\rE 112 [Value.func (Fn.func c) (Array.mk []) (Array.mk d)] b λa b=>∃ c d e,a = vS c d e/\R (vS c d e) b):ρ 61 [(.pointer a)] w R:=rv Tryz.func61 tO (by kernel_rfl) h
abbrev qp:FuncId:=72
def nU:bm:={ rngs:=[],loops:=[],joins:=[],blocks:=[] }
theorem nV (h:new w (ψ a i j b k l c m n A d o p) λa b=>∃ c d e,cL b (aM a) (vS c d e)/\∃ c e f,cL b (Addr.add (aM a) 1) (vS c e f)/\ax ((d:Int) + (e:Int))/\R (iI ((d:Int) + (e:Int))) b):ρ 72 [φ a i j b k l c m n A d o p] w R:=rv Tryz.func72 nU (by kernel_rfl) h
abbrev vv:FuncId:=75
def rZ:bm:={ rngs:=[],loops:=[],joins:=[(2,[(43,(.one .bool))])],blocks:=[] }
theorem r_ (h:new w (ψ a i j b k l c m n A d o p) λa b=>∃ (c:lP [(43,jD)]),(∃ d e f,cL b (Addr.add (aM a) 1) (vS d e f)/\ax (64 + B)/\br (decide (64 + B < (e:Int))) (c true b) (∃ d e f,cL b (aM a) (vS d e f)/\br (decide (65 < (e:Int))) (c true b) (∃ d e f,cL b (Addr.add (aM a) 4) (vS d e f)/\ax (96 + B)/\br (decide (96 + B < (e:Int))) (c true b) (∃ d e f,cL b (Addr.add (aM a) 4) (vS d e f)/\ax (1 + B)/\br (decide ((e:Int) < 1 + B)) (c true b) (∃ d e f,cL b (Addr.add (aM a) 2) (vS d e f)/\c (decide (64 < (e:Int))) b)))))/\∀ (_:ν) b d,c b d->br b (R (vB false) d) (∃ b c e,cL d (aM a) (vS b c e)/\ax ((c:Int) - 1)/\∃ b e f,cL d (Addr.add (aM a) 1) (vS b e f)/\ax ((c:Int) - 1 + (e:Int))/\ax ((c:Int) - 1 + (e:Int) - B)/\br (decide (64 < (c:Int) - 1 + (e:Int) - B)) (R (vB false) d) (χ d (aM a) λb=>rE 124 [b] d λb c=>∃ d,b = vB d/\br (!d) (R (vB false) c) (χ c (aM a) λb=>rE 125 [b] c λb c=>∃ d,b = vB d/\χ c (aM a) λb=>rE 126 [b,iI B] c λb c=>∃ e,b = vB e/\χ c (aM a) λb=>∃ f g h,cL c (aM a) (vS f g h)/\ax ((g:Int) + B)/\rE 127 [b,iI B,iI ((g:Int) + B)] c λb c=>∃ f,b = vB f/\χ c (aM a) λb=>rE 128 [b,iI B] c λb c=>∃ g h i,b = vS g h i/\∀ b,drawn c b->∃ (c:WP),c b/\br d (br e (br f (∃ d e f,(∀ b,c b->cL b (Addr.add (aM a) 1) (vS d e f))/\ax ((e:Int) - B)/\br ((h:Int) == (e:Int) - B) (∃ d,(∀ b,c b->cL b (Addr.add (aM a) 3) (iI d))/\∃ e f g,(∀ b,c b->cL b (aM a) (vS e f g))/\ax ((f:Int) + B)/\br (decide ((f:Int) + B<=d)) (∃ d,(∀ b,c b->cL b (Addr.add (aM a) 3) (iI d))/\∃ e f g h i j k l m n o p q,(∀ b,c b->rA b (aM a) 5 [vS e f g,vS h i j,vS k l m,iI n,vS o p q])/\rE 72 [vG [vS e f g,vS h i j,vS k l m,iI n,vS o p q]] b λa b=>∃ e,a = iI e/\c b/\R (vB (decide (d < e))) b) (R (vB false) b)) (R (vB false) b)) (R (vB false) b)) (R (vB false) b)) (R (vB false) b))))):ρ 75 [φ a i j b k l c m n A d o p,(.int .i64 B)] w R:=rv Tryz.func75 rZ (by kernel_rfl) h
abbrev gp:FuncId:=86
def fF:bm:={ rngs:=[],loops:=[],joins:=[],blocks:=[] }
theorem fG (h:new w (oC [iI A,iI B] 104) λb c=>∃ d e,rowAt c (aM b) 0 2 = some [iI d,iI e]/\rE 136 [vS a i j,vG [iI d,iI e]] c λa b=>∃ c,a = iI c/\R (vB (decide (0<=c))) b):ρ 86 [(.slice a i j),(.agg #[(.int .i64 A),(.int .i64 B)])] w R:=rv Tryz.func86 fF (by kernel_rfl) h
abbrev Df:FuncId:=89
def zX:bm:={ rngs:=[],loops:=[(6,[(5,(.one .slice)),(63,(.one (.int .i64)))]),(14,[(96,(.one (.int .i64)))])],joins:=[(2,[(57,(.one .bool))]),(9,[(83,(.one .bool))])],blocks:=[] }
theorem zY (h:new w (ψ a i j b k l c m n A d o p) λa b=>∃ (c:lP [(57,jD)]),(∃ d e f,cL b (aM a) (vS d e f)/\br ((e:Int) == 0) (c true b) (∃ d e f,cL b (aM a) (vS d e f)/\idx d e 0 2 λd=>∃ e f,rA b d 2 [Value.string e,iI f]/\∃ d,Sem.run Proofs.Tryz.prog (je BinOp.neq 83 (Operand.tmp 20) (Operand.tmp 21) (vG [Value.string e,iI f]) (vG [Value.string (ByteArray.mk (Array.mk [])),iI 0])) b = Result.ok d b/\∃ e,d = vB e/\br e (c true b) (∃ d e f,cL b (Addr.add (aM a) 1) (vS d e f)/\br (decide ((e:Int)<=B)) (c true b) (∃ d e f,cL b (aM a) (vS d e f)/\br (decide (65 < (e:Int))) (c true b) (∃ d e f,cL b (Addr.add (aM a) 1) (vS d e f)/\ax (64 + B)/\br (decide (64 + B < (e:Int))) (c true b) (∃ d e f,cL b (aM a) (vS d e f)/\ax ((e:Int) - 1)/\∃ d f g,cL b (Addr.add (aM a) 1) (vS d f g)/\ax ((e:Int) - 1 + (f:Int))/\ax ((e:Int) - 1 + (f:Int) - B)/\c (decide (64 < (e:Int) - 1 + (f:Int) - B)) b))))))/\∀ (_:ν) b d,c b d->br b (R (vB false) d) (new d (Obj.map (Array.mk []) 0) λb c=>∃ d e f,cL c (aM a) (vS d e f)/\lR d e f (some 1) none none 2 λ(d:aa3) (e _:Nat)=>τ [(5,fD),(63,aB)] λf g=>f none 0 0 0 c/\∀ (_:ν) c h i j k,f c h i j k->br (decide (j < (e:Int))) (idx d e j 2 λd=>∃ e l,rA k d 2 [Value.string e,iI l]/\new k (oC [Value.string (ByteArray.mk (Array.mk [])),iI 0] 83) λd m=>da m (aM d) [Value.string e,iI l] λe=>∃ (l:lP [(83,jD)]),(∃ b,cL e (aM d) (Value.string b)/\rE 138 [Value.string b] e λb c=>∃ e,b = vB e/\br (!e) (l true c) (∃ b,cL c (Addr.add (aM d) 1) (iI b)/\br (decide (b < 0)) (l true c) (∃ b,cL c (Addr.add (aM d) 1) (iI b)/\∃ d e f,cL c (Addr.add (aM a) 2) (vS d e f)/\l (decide ((e:Int) < b)) c)))/\∀ (_:ν) a e,l a e->br a (R (vB false) e) (∃ a,cL e (aM d) (Value.string a)/\new e (oC [Value.string a] 9) λa e=>rS (fe 23 (Array.mk [vS c h i,vS (some (aM a)) 1 1])) e λa e=>∃ l m n,a = vS l m n/\∃ a,cL e (Addr.add (aM d) 1) (iI a)/\bf Proofs.Tryz.prog (Instr.mapUpdate 226 (Value.map (some b)) (iI a) (iI 1)) e λ(_:Unit) (a:aa4)=>ax (j + 1)/\f l m n (j + 1) a/\g l m n (j + 1) a < g c h i j k)) (∃ d e f,cL k (Addr.add (aM a) 2) (vS d e f)/\τ [(96,aB)] λf g=>f 0 k/\∀ (_:ν) j k,f j k->br (decide (j < (e:Int))) (idx d e j 1 λa=>∃ c,cL k a (iI c)/\br (decide (c < 1)) (R (vB false) k) (br (decide (3 < c)) (R (vB false) k) (ax (j + 1)/\bf Proofs.Tryz.prog (Instr.lookup 226 (Value.map (some b)) (iI (j + 1)) false) k λa b=>∃ c,a = iI c/\br (c == 0) (R (vB false) b) (ax (j + 1)/\f (j + 1) b/\g (j + 1) b < g j k)))) (∃ b d e,cL k (Addr.add (aM a) 1) (vS b d e)/\lR b d e (some B) none none 1 λ(a:aa3) (b d:Nat)=>rE 139 [vS c h i] k λc e=>∃ f,c = vB f/\br f (rE 139 [vS a b d] e λc e=>∃ f,c = vB f/\br f (rE 140 [vS a b d,Value.func (Fn.func 141) (Array.mk []) (Array.mk [])] e λa b=>∃ c,a = vB c/\R (vB !c) b) (R (vB false) e)) (R (vB false) e))))):ρ 89 [φ a i j b k l c m n A d o p,(.int .i64 B)] w R:=rv Tryz.func89 zX (by kernel_rfl) h
abbrev wU:FuncId:=90
def tQ:bm:={ rngs:=[],loops:=[(7,[(8,(.one .slice)),(43,(.one (.int .i64)))]),(12,[(73,(.one (.int .i64)))])],joins:=[(2,[(25,(.one .bool))]),(10,[(69,(.one .bool))])],blocks:=[] }
theorem tT (h:new w (ψ a i j b k l c m n A d o p) λa b=>∃ (c:lP [(25,jD)]),(∃ d e f,cL b (Addr.add (aM a) 4) (vS d e f)/\br (decide ((e:Int)<=B)) (c true b) (∃ d e f,cL b (Addr.add (aM a) 4) (vS d e f)/\ax (96 + B)/\c (decide (96 + B < (e:Int))) b))/\∀ (_:ν) b d,c b d->br b (R (vU [vS none 0 0,vB false]) d) (∃ b c e,cL d (aM a) (vS b c e)/\∃ b e f,cL d (Addr.add (aM a) 1) (vS b e f)/\ax ((c:Int) + (e:Int))/\∃ b f g,cL d (aM a) (vS b f g)/\ax ((f:Int) + B)/\∃ b g h,cL d (Addr.add (aM a) 4) (vS b g h)/\lR b g h (some B) none none 3 λ(b:aa3) (g _:Nat)=>τ [(8,fD),(43,aB)] λh i=>h none 0 0 0 d/\∀ (_:ν) d j k l m,h d j k l m->br (decide (l < (g:Int))) (idx b g l 3 λb=>∃ g n o p q,rA m b 3 [iI g,vS n o p,iI q]/\new m (oC [iI 0,vS none 0 0,iI 0] 81) λb r=>da r (aM b) [iI g,vS n o p,iI q] λg=>∃ (n:lP [(69,jD)]),(∃ d,cL g (aM b) (iI d)/\br (decide (d < (f:Int) + B)) (n true g) (∃ d,cL g (aM b) (iI d)/\br (decide ((c:Int) + (e:Int)<=d)) (n true g) (∃ c,cL g (Addr.add (aM b) 2) (iI c)/\br (decide (c < 0)) (n true g) (∃ c,cL g (Addr.add (aM b) 2) (iI c)/\∃ b d e,cL g (Addr.add (aM a) 2) (vS b d e)/\n (decide ((d:Int) < c)) g))))/\∀ (_:ν) g o,n g o->br g (R (vU [vS none 0 0,vB false]) o) (∃ g n p,cL o (Addr.add (aM b) 1) (vS g n p)/\τ [(73,aB)] λp q=>p 0 o/\∀ (_:ν) o r,p o r->br (decide (o < (n:Int))) (idx g n o 1 λb=>∃ d,cL r b (iI d)/\br (decide (d < 1)) (R (vU [vS none 0 0,vB false]) r) (br (decide ((c:Int) + (e:Int)<=d)) (R (vU [vS none 0 0,vB false]) r) (∃ b c e,cL r (aM a) (vS b c e)/\br (decide ((c:Int)<=d)) (br (decide (d < (f:Int) + B)) (R (vU [vS none 0 0,vB false]) r) (ax (o + 1)/\p (o + 1) r/\q (o + 1) r < q o r)) (ax (o + 1)/\p (o + 1) r/\q (o + 1) r < q o r)))) (∃ a,cL r (aM b) (iI a)/\rE 143 [vS d j k,iI a] r λa c=>∃ e,a = vB e/\br (!e) (∃ a,cL c (aM b) (iI a)/\new c (oC [iI a] 3) λa b=>rS (fe 24 (Array.mk [vS d j k,vS (some (aM a)) 1 1])) b λa b=>∃ c e f,a = vS c e f/\ax (l + 1)/\h c e f (l + 1) b/\i c e f (l + 1) b < i d j k l m) (ax (l + 1)/\h d j k (l + 1) c/\i d j k (l + 1) c < i d j k l m)))) (∀ b,drawn m b->∃ (g:WP),g b/\∃ h i l,(∀ b,g b->cL b (Addr.add (aM a) 1) (vS h i l))/\ax ((i:Int) - B)/\br ((j:Int) == (i:Int) - B) (∃ h,(∀ b,g b->cL b (Addr.add (aM a) 3) (iI h))/\br (decide ((f:Int) + B<=h)) (∃ f,(∀ b,g b->cL b (Addr.add (aM a) 3) (iI f))/\R (vU [vS d j k,vB (decide (f < (c:Int) + (e:Int)))]) b) (R (vU [vS d j k,vB false]) b)) (R (vU [vS d j k,vB false]) b)))):ρ 90 [φ a i j b k l c m n A d o p,(.int .i64 B)] w R:=rv Tryz.func90 tQ (by kernel_rfl) h
abbrev BE:FuncId:=109
def yq:bm:={ rngs:=[],loops:=[],joins:=[],blocks:=[] }
theorem yr (h:br (Option.isNone a) (R (iI 0) w) (nn a λa=>∃ b,World.cell? w (Addr.add a 1) = some (iI b)/\R (iI b) w)):ρ 109 [(.pointer a)] w R:=rv Tryz.func109 yq (by kernel_rfl) h
abbrev zZ:FuncId:=110
def wV:bm:={ rngs:=[],loops:=[],joins:=[],blocks:=[] }
theorem wW (h:nz 64/\ax (Int.tdiv A 64)/\idx a i (Int.tdiv A 64) 1 λa=>∃ b,World.cell? w a = some (Value.int IntKind.u64 b)/\nz 64/\ns (Int.tmod A 64)/\R (vB (l5 BinOp.and IntKind.u64 (bQ IntKind.u64 b (Int.tmod A 64)) 1 == 1)) w):ρ 110 [(.slice a i j),(.int .i64 A)] w R:=rv Tryz.func110 wV (by kernel_rfl) h
abbrev z6:FuncId:=111
def wX:bm:={ rngs:=[],loops:=[],joins:=[],blocks:=[] }
theorem wY (h:∀ b,drawn w b->∃ (c:WP),c b/\nz 64/\ax (Int.tdiv A 64)/\idx a i (Int.tdiv A 64) 1 λd=>∃ e,(∀ a,c a->World.cell? a d = some (Value.int IntKind.u64 e))/\nz 64/\ns (Int.tmod A 64)/\idx a i (Int.tdiv A 64) 1 λa=>st1 b a (Value.int IntKind.u64 (l5 BinOp.or IntKind.u64 e (O0 IntKind.u64 1 (Int.tmod A 64)))) λa=>R (vU []) a):ρ 111 [(.slice a i j),(.int .i64 A)] w R:=rv Tryz.func111 wX (by kernel_rfl) h
abbrev se:FuncId:=112
def pe:bm:={ rngs:=[],loops:=[],joins:=[],blocks:=[] }
theorem pf {a:FuncId} {b:List Value} (h:rE 165 [vS none 0 0,Value.func (Fn.func a) (Array.mk []) (Array.mk b)] w λa b=>∃ c d e,a = vS c d e/\R (vS c d e) b):ρ 112 [(.func (.func a) #[] ⟨b⟩)] w R:=rv Tryz.func112 pe (by kernel_rfl) h
abbrev Dg:FuncId:=113
def z7:bm:={ rngs:=[],loops:=[],joins:=[],blocks:=[] }
theorem z8 (h:new w (oC [vS none 0 0] 190) λb c=>br (!Option.isNone a) (nn a λa=>∃ d e f,World.cell? c a = some (vS d e f)/\rE 166 [vS d e f] c λa c=>∃ d e f,a = vS d e f/\st1 c (aM b) (vS d e f) λa=>R (Value.func (Fn.func 167) (Array.mk []) (Array.mk [vP (some (aM b))])) a) (R (Value.func (Fn.func 167) (Array.mk []) (Array.mk [vP (some (aM b))])) c)):ρ 113 [(.pointer a)] w R:=rv Tryz.func113 z7 (by kernel_rfl) h
abbrev pg:FuncId:=124
def mT:bm:={ rngs:=[],loops:=[(4,[(3,(.one (.int .i64)))]),(10,[(5,(.one (.int .i64)))])],joins:=[(2,[(25,(.one .bool))]),(8,[(62,(.one .bool))])],blocks:=[] }
theorem mU (h:new w (ψ a i j b k l c m n A d o p) λa b=>∃ (c:lP [(25,jD)]),(∃ d e f,cL b (aM a) (vS d e f)/\br ((e:Int) == 0) (c true b) (∃ d e f,cL b (aM a) (vS d e f)/\idx d e 0 2 λd=>∃ e,cL b d (Value.string e)/\br (!ByteArray.toList e == ByteArray.toList (ByteArray.mk (Array.mk []))) (c true b) (∃ d e f,cL b (aM a) (vS d e f)/\idx d e 0 2 λa=>∃ d,cL b (Addr.add a 1) (iI d)/\c (d != 0) b)))/\∀ (_:ν) b d,c b d->br b (R (vB false) d) (τ [(3,aB)] λb c=>b 1 d/\∀ (_:ν) d e,b d e->∃ f g h,cL e (aM a) (vS f g h)/\br (decide (d < (g:Int))) (∃ f g h,cL e (aM a) (vS f g h)/\idx f g d 2 λf=>∃ g,cL e f (Value.string g)/\rE 178 [Value.string g] e λf g=>∃ h,f = vB h/\∃ (f:lP [(62,jD)]),(∀ b,drawn g b->∃ (c:WP),c b/\br (!h) (f true b) (∃ e g h,(∀ b,c b->cL b (aM a) (vS e g h))/\idx e g d 2 λe=>∃ g,(∀ a,c a->cL a (Addr.add e 1) (iI g))/\br (decide (g < 0)) (f true b) (∃ e g h,(∀ b,c b->cL b (aM a) (vS e g h))/\idx e g d 2 λd=>∃ e,(∀ a,c a->cL a (Addr.add d 1) (iI e))/\∃ d g h,(∀ b,c b->cL b (Addr.add (aM a) 2) (vS d g h))/\f (decide ((g:Int) < e)) b)))/\∀ (_:ν) g h,f g h->br g (R (vB false) h) (τ [(5,aB)] λf g=>f 1 h/\∀ (_:ν) h i,f h i->br (decide (h < d)) (∀ b,drawn i b->∃ (c:WP),c b/\∃ e j k,(∀ b,c b->cL b (aM a) (vS e j k))/\idx e j h 2 λe=>∃ j,(∀ a,c a->cL a e (Value.string j))/\∃ e k l,(∀ b,c b->cL b (aM a) (vS e k l))/\idx e k d 2 λa=>∃ d,(∀ b,c b->cL b a (Value.string d))/\br (ByteArray.toList j == ByteArray.toList d) (R (vB false) b) (ax (h + 1)/\f (h + 1) b/\g (h + 1) b < g h i)) (ax (d + 1)/\b (d + 1) i/\c (d + 1) i < c d e))) (R (vB true) e))):ρ 124 [φ a i j b k l c m n A d o p] w R:=rv Tryz.func124 mT (by kernel_rfl) h
abbrev nW:FuncId:=125
def l8:bm:={ rngs:=[],loops:=[(2,[(3,(.one (.int .i64)))]),(6,[(4,(.one .bool)),(5,(.one (.int .i64)))])],joins:=[],blocks:=[] }
theorem l9 (h:new w (ψ a i j b k l c m n A d o p) λa b=>τ [(3,aB)] λc d=>c 0 b/\∀ (_:ν) b e,c b e->∃ f g h,cL e (Addr.add (aM a) 2) (vS f g h)/\br (decide (b < (g:Int))) (τ [(4,jD),(5,aB)] λf g=>f false 0 e/\∀ (_:ν) h i j,f h i j->∃ k l m,cL j (aM a) (vS k l m)/\br (decide (i < (l:Int))) (br h (ax (i + 1)/\f true (i + 1) j/\g true (i + 1) j < g h i j) (∃ c d e,cL j (aM a) (vS c d e)/\idx c d i 2 λa=>∃ c,cL j (Addr.add a 1) (iI c)/\ax (b + 1)/\ax (i + 1)/\f (c == b + 1) (i + 1) j/\g (c == b + 1) (i + 1) j < g h i j)) (br (!h) (R (vB false) j) (∃ f g h,cL j (Addr.add (aM a) 2) (vS f g h)/\idx f g b 1 λf=>∃ g,cL j f (iI g)/\br (decide (g < 1)) (R (vB false) j) (∃ f g h,cL j (Addr.add (aM a) 2) (vS f g h)/\idx f g b 1 λa=>∃ f,cL j a (iI f)/\br (decide (3 < f)) (R (vB false) j) (ax (b + 1)/\c (b + 1) j/\d (b + 1) j < d b e))))) (R (vB true) e)):ρ 125 [φ a i j b k l c m n A d o p] w R:=rv Tryz.func125 l8 (by kernel_rfl) h
abbrev qq:FuncId:=126
def nX:bm:={ rngs:=[],loops:=[(2,[(5,(.one (.int .i64)))]),(8,[(7,(.one (.int .i64)))])],joins:=[],blocks:=[] }
theorem nY (h:new w (ψ a i j b k l c m n A d o p) λa b=>τ [(5,aB)] λc d=>c B b/\∀ (_:ν) b e,c b e->∃ f g h,cL e (Addr.add (aM a) 1) (vS f g h)/\br (decide (b < (g:Int))) (∃ f g h,cL e (Addr.add (aM a) 1) (vS f g h)/\idx f g b 1 λf=>∃ g,cL e f (Value.string g)/\rE 179 [Value.string g] e λf g=>∃ h,f = vB h/\br (!h) (R (vB false) g) (τ [(7,aB)] λf h=>f B g/\∀ (_:ν) g i,f g i->br (decide (g < b)) (∀ c,drawn i c->∃ (d:WP),d c/\∃ e j k,(∀ b,d b->cL b (Addr.add (aM a) 1) (vS e j k))/\idx e j g 1 λe=>∃ j,(∀ a,d a->cL a e (Value.string j))/\∃ e k l,(∀ b,d b->cL b (Addr.add (aM a) 1) (vS e k l))/\idx e k b 1 λa=>∃ b,(∀ c,d c->cL c a (Value.string b))/\br (ByteArray.toList j == ByteArray.toList b) (R (vB false) c) (ax (g + 1)/\f (g + 1) c/\h (g + 1) c < h g i)) (ax (b + 1)/\c (b + 1) i/\d (b + 1) i < d b e))) (R (vB true) e)):ρ 126 [φ a i j b k l c m n A d o p,(.int .i64 B)] w R:=rv Tryz.func126 nX (by kernel_rfl) h
abbrev ph:FuncId:=127
def mW:bm:={ rngs:=[],loops:=[(2,[(7,(.one (.int .i64)))]),(8,[(9,(.one (.int .i64)))])],joins:=[(6,[(47,(.one .bool))])],blocks:=[] }
theorem mX (h:new w (ψ a i j b k l c m n A d o p) λa b=>τ [(7,aB)] λc d=>c B b/\∀ (_:ν) b e,c b e->∃ f g h,cL e (Addr.add (aM a) 4) (vS f g h)/\br (decide (b < (g:Int))) (∃ f g h,cL e (Addr.add (aM a) 4) (vS f g h)/\idx f g b 3 λf=>∃ g h i j k,rA e f 3 [iI g,vS h i j,iI k]/\new e (oC [iI 0,vS none 0 0,iI 0] 81) λf l=>da l (aM f) [iI g,vS h i j,iI k] λg=>∃ (h:lP [(47,jD)]),(∀ b,drawn g b->∃ (c:WP),c b/\∃ d,(∀ a,c a->cL a (aM f) (iI d))/\br (decide (d < C)) (h true b) (∃ d,(∀ a,c a->cL a (aM f) (iI d))/\∃ e g i j k l m n o p q r s,(∀ b,c b->rA b (aM a) 5 [vS e g i,vS j k l,vS m n o,iI p,vS q r s])/\rE 72 [vG [vS e g i,vS j k l,vS m n o,iI p,vS q r s]] b λb e=>∃ g,b = iI g/\∃ (b:WP),b e/\(∀ a,b a->c a)/\br (decide (g<=d)) (h true e) (∃ c,(∀ a,b a->cL a (Addr.add (aM f) 2) (iI c))/\br (decide (c < 0)) (h true e) (∃ c,(∀ a,b a->cL a (Addr.add (aM f) 2) (iI c))/\∃ d f g,(∀ c,b c->cL c (Addr.add (aM a) 2) (vS d f g))/\h (decide ((f:Int) < c)) e))))/\∀ (_:ν) g i,h g i->br g (R (vB false) i) (τ [(9,aB)] λg h=>g 0 i/\∀ (_:ν) i j,g i j->∃ k l m,cL j (Addr.add (aM f) 1) (vS k l m)/\br (decide (i < (l:Int))) (∃ b c d,cL j (Addr.add (aM f) 1) (vS b c d)/\idx b c i 1 λb=>∃ c,cL j b (iI c)/\br (decide (c < 1)) (R (vB false) j) (χ j (aM a) λb=>rE 72 [b] j λb d=>∃ e,b = iI e/\br (decide (e<=c)) (R (vB false) d) (∃ b e f,cL d (aM a) (vS b e f)/\br (decide ((e:Int)<=c)) (br (decide (c < C)) (R (vB false) d) (ax (i + 1)/\g (i + 1) d/\h (i + 1) d < h i j)) (ax (i + 1)/\g (i + 1) d/\h (i + 1) d < h i j)))) (ax (b + 1)/\c (b + 1) j/\d (b + 1) j < d b e))) (R (vB true) e)):ρ 127 [φ a i j b k l c m n A d o p,(.int .i64 B),(.int .i64 C)] w R:=rv Tryz.func127 mW (by kernel_rfl) h
abbrev tU:FuncId:=128
def qt:bm:={ rngs:=[],loops:=[(3,[(5,(.one .slice)),(6,(.one (.int .i64)))]),(7,[(7,(.one .bool)),(8,(.one (.int .i64)))])],joins:=[],blocks:=[] }
theorem qu (h:new w (ψ a i j b k l c m n A d o p) λa b=>τ [(5,fD),(6,aB)] λc d=>c none 0 0 B b/\∀ (_:ν) b e f g h,c b e f g h->∃ i j k,cL h (Addr.add (aM a) 4) (vS i j k)/\br (decide (g < (j:Int))) (τ [(7,jD),(8,aB)] λi j=>i false 0 h/\∀ (_:ν) k l m,i k l m->br (decide (l < (e:Int))) (∀ c,drawn m c->∃ (d:WP),d c/\br k (ax (l + 1)/\i true (l + 1) c/\j true (l + 1) c < j k l m) (idx b e l 1 λb=>∃ e,(∀ a,d a->cL a b (iI e))/\∃ b f h,(∀ c,d c->cL c (Addr.add (aM a) 4) (vS b f h))/\idx b f g 3 λa=>∃ b,(∀ c,d c->cL c a (iI b))/\ax (l + 1)/\i (e == b) (l + 1) c/\j (e == b) (l + 1) c < j k l m)) (br (!k) (∃ i j k,cL m (Addr.add (aM a) 4) (vS i j k)/\idx i j g 3 λa=>∃ i,cL m a (iI i)/\new m (oC [iI i] 3) λa i=>rS (fe 24 (Array.mk [vS b e f,vS (some (aM a)) 1 1])) i λa i=>∃ j k l,a = vS j k l/\ax (g + 1)/\c j k l (g + 1) i/\d j k l (g + 1) i < d b e f g h) (ax (g + 1)/\c b e f (g + 1) m/\d b e f (g + 1) m < d b e f g h))) (R (vS b e f) h)):ρ 128 [φ a i j b k l c m n A d o p,(.int .i64 B)] w R:=rv Tryz.func128 qt (by kernel_rfl) h
abbrev tV:FuncId:=134
def qv:bm:={ rngs:=[],loops:=[],joins:=[],blocks:=[] }
theorem qw (h:new w (ψ a i j b k l c m n A d o p) λa b=>∃ c d e,cL b (aM a) (vS c d e)/\br (decide ((d:Int)<=B)) (χ b (aM a) λa=>rE 72 [a] b λa b=>∃ c,a = iI c/\R (vB (decide (B < c))) b) (R (vB false) b)):ρ 134 [φ a i j b k l c m n A d o p,(.int .i64 B)] w R:=rv Tryz.func134 qv (by kernel_rfl) h
abbrev iZ:FuncId:=136
def gN:bm:={ rngs:=[],loops:=[(2,[(8,(.one (.int .i64)))])],joins:=[],blocks:=[] }
theorem gO (h:new w (oC [iI A,iI B] 104) λb c=>τ [(8,aB)] λd e=>d 0 c/\∀ (_:ν) c f,d c f->br (decide (c < (i:Int))) (∀ g,drawn f g->∃ (h:WP),h g/\∃ j k,(∀ a,h a->rowAt a (aM b) 0 2 = some [iI j,iI k])/\idx a i c 2 λa=>∃ b i,(∀ c,h c->rowAt c a 0 2 = some [iI b,iI i])/\∃ a,(∀ c,h c->Sem.run Proofs.Tryz.prog (je BinOp.eql 104 (Operand.tmp 11) (Operand.tmp 15) (vG [iI j,iI k]) (vG [iI b,iI i])) c = Result.ok a c)/\∃ b,a = vB b/\br b (R (iI c) g) (ax (c + 1)/\d (c + 1) g/\e (c + 1) g < e c f)) (R (iI (-1)) f)):ρ 136 [(.slice a i j),(.agg #[(.int .i64 A),(.int .i64 B)])] w R:=rv Tryz.func136 gN (by kernel_rfl) h
abbrev EX:FuncId:=138
def BF:bm:={ rngs:=[],loops:=[],joins:=[],blocks:=[] }
def tW (a:ByteArray) (w:aa4) (R:Value->WP):Prop :=  br (!ByteArray.toList a == ByteArray.toList (ByteArray.mk (Array.mk []))) (br (decide ((↑(ByteArray.size a):Int)<=16)) (vt Proofs.Tryz.prog Ev 183 [Value.string a,Value.func (Fn.func 184) (Array.mk []) (Array.mk [])] w λa b=>∃ c,a = iI c/\R (vB (decide (c < 0))) b) (R (vB false) w)) (R (vB false) w)
theorem BG (a:ByteArray) (w:aa4) (R:Value->WP) (h:tW a w R):ρ 138 [(.string a)] w R:=rv Tryz.func138 BF (by kernel_rfl) h
abbrev EY:FuncId:=139
def BH:bm:={ rngs:=[],loops:=[(3,[(9,(.one (.int .i64)))])],joins:=[],blocks:=[] }
theorem BI (h:new w (Obj.map (Array.mk []) 0) λb c=>τ [(9,aB)] λd e=>d 0 c/\∀ (_:ν) c f,d c f->br (decide (c < (i:Int))) (idx a i c 1 λa=>∃ g,cL f a (Value.string g)/\bf Proofs.Tryz.prog (Instr.lookup 99 (Value.map (some b)) (Value.string g) false) f λa h=>∃ i,a = iI i/\ax (i + 1)/\bf Proofs.Tryz.prog (Instr.mapUpdate 99 (Value.map (some b)) (Value.string g) (iI (i + 1))) h λ(_:Unit) (a:aa4)=>ax (c + 1)/\d (c + 1) a/\e (c + 1) a < e c f) (∃ a,Sem.run Proofs.Tryz.prog (Builtin.len_ (Array.mk [99]) 3 (Array.mk [Value.map (some b)])) f = Result.ok a f/\∃ b,a = iI b/\R (vB (b == (i:Int))) f)):ρ 139 [(.slice a i j)] w R:=rv Tryz.func139 BH (by kernel_rfl) h
abbrev gq:FuncId:=140
def fH:bm:={ rngs:=[],loops:=[],joins:=[],blocks:=[] }
theorem fI {d:FuncId} {e:List Value} (h:rE 185 [vS a i j,Value.func (Fn.func d) (Array.mk []) (Array.mk e)] w λa b=>∃ c,a = iI c/\R (vB (decide (0<=c))) b):ρ 140 [(.slice a i j),(.func (.func d) #[] ⟨e⟩)] w R:=rv Tryz.func140 fH (by kernel_rfl) h
abbrev ji:FuncId:=141
def vw:bm:={ rngs:=[],loops:=[],joins:=[],blocks:=[] }
theorem vx {a:ByteArray} (h:rE 142 [Value.string a] w λa b=>∃ c,a = vB c/\R (vB !c) b):ρ 141 [(.string a)] w R:=rv Tryz.func141 vw (by kernel_rfl) h
abbrev EZ:FuncId:=142
def BJ:bm:={ rngs:=[],loops:=[(2,[(7,(.one (.int .i64)))])],joins:=[],blocks:=[] }
def tX (a:ByteArray) (w:aa4) (R:Value->WP):Prop :=  τ [(7,aB)] λb c=>b 0 w/\∀ (_:ν) d e,b d e->br (decide (d < (↑(ByteArray.size a):Int))) (GD d (ByteArray.size a)/\br ((↑(UInt8.toNat (sb a (Int.toNat d))):Int) != 95) (br (decide (l5 BinOp.or IntKind.u8 (↑(UInt8.toNat (sb a (Int.toNat d))):Int) 32 < 97)) (br (d == 0) (R (vB false) e) (br (decide ((↑(UInt8.toNat (sb a (Int.toNat d))):Int) < 48)) (R (vB false) e) (br (decide (57 < (↑(UInt8.toNat (sb a (Int.toNat d))):Int))) (R (vB false) e) (ax (d + 1)/\b (d + 1) e/\c (d + 1) e < c d e)))) (br (decide (122 < l5 BinOp.or IntKind.u8 (↑(UInt8.toNat (sb a (Int.toNat d))):Int) 32)) (br (d == 0) (R (vB false) e) (br (decide ((↑(UInt8.toNat (sb a (Int.toNat d))):Int) < 48)) (R (vB false) e) (br (decide (57 < (↑(UInt8.toNat (sb a (Int.toNat d))):Int))) (R (vB false) e) (ax (d + 1)/\b (d + 1) e/\c (d + 1) e < c d e)))) (ax (d + 1)/\b (d + 1) e/\c (d + 1) e < c d e))) (ax (d + 1)/\b (d + 1) e/\c (d + 1) e < c d e)) (br (!ByteArray.toList a == ByteArray.toList (ByteArray.mk (Array.mk []))) (R (vB (decide ((↑(ByteArray.size a):Int)<=16))) e) (R (vB false) e))
theorem BK (a:ByteArray) (w:aa4) (R:Value->WP) (h:tX a w R):ρ 142 [(.string a)] w R:=rv Tryz.func142 BJ (by kernel_rfl) h
abbrev l_:FuncId:=143
def kI:bm:={ rngs:=[],loops:=[],joins:=[],blocks:=[] }
theorem kJ (h:rE 186 [vS a i j,iI A] w λa b=>∃ c,a = iI c/\R (vB (decide (0<=c))) b):ρ 143 [(.slice a i j),(.int .i64 A)] w R:=rv Tryz.func143 kI (by kernel_rfl) h
abbrev BL:FuncId:=151
def yu:bm:={ rngs:=[],loops:=[],joins:=[],blocks:=[] }
theorem yv (h:rE 157 [iI A] w λa b=>∃ c,a = vB c/\br c (rE 157 [iI B] b λa b=>∃ c,a = vB c/\br (!c) (R (vB true) b) (R (vB (decide (A < B))) b)) (R (vB (decide (A < B))) b)):ρ 151 [(.int .i64 A),(.int .i64 B)] w R:=rv Tryz.func151 yu (by kernel_rfl) h
abbrev z_:FuncId:=157
def wZ:bm:={ rngs:=[],loops:=[],joins:=[],blocks:=[] }
theorem mc (h:R (vB (A != A)) w):ρ 157 [(.int .i64 A)] w R:=rv Tryz.func157 wZ (by kernel_rfl) h
abbrev ly:FuncId:=165
def j_:bm:={ rngs:=[(2,[(7,(.one (.int .i64)))])],loops:=[],joins:=[],blocks:=[] }
theorem kf {d:FuncId} {e:List Value} (h:new w (oC [vS a i j] 24) λa b=>yc (Proofs.YtndaepmjkbmjmaaGreatDoor.Fn d) (∃ (c:List (List Value)),∃ (f:az),∃ (g:az),∃ (h:Nat->az),∃ (i:az),∃ (_:Nat->az),∃ (j:List az),St b (h 0 :: f :: j)/\(∀ (a:Hp),aD j a->g a)/\WJ Proofs.Tryz.prog d [] e f g c/\(∀ (a:List Value),a∈c->∃ b,a = [iI b])/\(∀ (b:Nat) (d:Int),List.get?Internal c b = some [iI d]->∀ (c:List az) (e:aa4),Ss c j->St e (h b :: c)->∃ (f:az),St e (f :: c)/\∀ (c:List az) (e:aa4),Ss c j->St e (f :: c)->∃ f g i,World.cell? e (aM a) = some (vS f g i)/\new e (oC [iI d] 3) λd e=>rS (fe 24 (Array.mk [vS f g i,vS (some (aM d)) 1 1])) e λd e=>∃ f g i,d = vS f g i/\st1 e (aM a) (vS f g i) λa=>St a (h (b + 1) :: c))/\(∀ (b:aa4),St b (h (List.length c) :: f :: j)->∃ c d e,World.cell? b (aM a) = some (vS c d e)/\∀ (a:aa4),hp a = hp b->R (vS c d e) a)/\(∀ (a:aa4),St a (i :: f :: j)->∀ (b:aa4),hp b = hp a->R (vS none 0 0) b)/\True)):ρ 165 [(.slice a i j),(.func (.func d) #[] ⟨e⟩)] w R:=rv Tryz.func165 j_ (by kernel_rfl) h
abbrev i_:FuncId:=166
def gP:bm:={ rngs:=[],loops:=[],joins:=[],blocks:=[] }
theorem gQ (h:br (Option.isNone a) (R (vS none 0 0) w) (new w (oC [] 241) λb c=>rS (fe 190 (Array.mk [vS (some (aM b)) 0 0,vS a i j])) c λa b=>∃ c d e,a = vS c d e/\R (vS c d e) b)):ρ 166 [(.slice a i j)] w R:=rv Tryz.func166 gP (by kernel_rfl) h
abbrev nE:FuncId:=167
def kY:bm:={ rngs:=[],loops:=[(1,[(7,(.one (.int .i64)))]),(3,[(4,(.one (.int .u64)))])],joins:=[],blocks:=[] }
def kg (E:aa4->aa4->Prop) (p0yield:Nat) (c0:Addr) (w:aa4) (R:Value->aa4->Prop):Prop :=  ∃ a b c,World.cell? w c0 = some (vS a b c)/\τ [(7,aB)] λc d=>c 0 w/\∀ (_:ν) e f,c e f->br (decide (e < (↑b:Int))) (idx a b e 1 λa=>∃ b,World.cell? f a = some (Value.int IntKind.u64 b)/\τ [(4,S1.one (Cs.int IntKind.u64))] λa g=>a b f/\∀ (_:ν) b h,a b h->br (b != 0) (ax (64 * e)/\vt Proofs.Tryz.prog E 168 [Value.int IntKind.u64 b] h λc d=>∃ f,c = iI f/\ax (64 * e + f)/\XR Proofs.Tryz.prog E p0yield [iI (64 * e + f)] d λc d=>∃ e,c = vB e/\br (!e) (R (vT (Array.mk [])) d) (a (l5 BinOp.and IntKind.u64 b (IntKind.wrap IntKind.u64 (b - 1))) d/\g (l5 BinOp.and IntKind.u64 b (IntKind.wrap IntKind.u64 (b - 1))) d < g b h)) (ax (e + 1)/\c (e + 1) h/\d (e + 1) h < d e f)) (R (vT (Array.mk [])) f)
theorem sf (E:aa4->aa4->Prop) (p0yield:Nat) (c0:Addr) (hE:Gx E) (w:aa4) (R:Value->aa4->Prop) (h:kg E p0yield c0 w R):vt Tryz.prog E 167 [(.func (.yield p0yield) #[] #[]),(.pointer (some c0))] w R :=
 SB aQ W1 mixed Tryz.func167 kY hE (by kernel_rfl) ((by kernel_rfl:WK Tryz.prog Ty Fn E kY Tryz.f167 [(.func (.yield p0yield) #[] #[]),(.pointer (some c0))] w R = kg E p0yield c0 w R) ▸ h)
abbrev lz:FuncId:=168
def kj:bm:={ rngs:=[],loops:=[],joins:=[],blocks:=[] }
theorem kq (h:br (A == 0) (R (iI 64) w) (ns 58/\idx (some (aM 0)) 64 (bQ IntKind.u64 (IntKind.wrap IntKind.u64 (l5 BinOp.and IntKind.u64 A (IntKind.wrap IntKind.u64 (0 - A)) * 285870213051353865)) 58) 1 λa=>∃ b,World.cell? w a = some (Value.int IntKind.u8 b)/\ax b/\R (iI b) w)):ρ 168 [(.int .u64 A)] w R:=rv Tryz.func168 kj (by kernel_rfl) h
abbrev sg:FuncId:=178
def pj:bm:={ rngs:=[],loops:=[(2,[(3,(.one (.int .i64)))])],joins:=[],blocks:=[] }
theorem pk {a:ByteArray} (h:τ [(3,aB)] λb c=>b 0 w/\∀ (_:ν) d e,b d e->br (decide (d < (↑(ByteArray.size a):Int))) (GD d (ByteArray.size a)/\br (decide ((↑(UInt8.toNat (sb a (Int.toNat d))):Int) < 32)) (R (vB false) e) (GD d (ByteArray.size a)/\br (decide (126 < (↑(UInt8.toNat (sb a (Int.toNat d))):Int))) (R (vB false) e) (GD d (ByteArray.size a)/\br ((↑(UInt8.toNat (sb a (Int.toNat d))):Int) == 39) (R (vB false) e) (ax (d + 1)/\b (d + 1) e/\c (d + 1) e < c d e)))) (br (decide (1<=(↑(ByteArray.size a):Int))) (R (vB (decide ((↑(ByteArray.size a):Int)<=16))) e) (R (vB false) e))):ρ 178 [(.string a)] w R:=rv Tryz.func178 pj (by kernel_rfl) h
abbrev si:FuncId:=179
def pn:bm:={ rngs:=[],loops:=[(2,[(3,(.one (.int .i64)))])],joins:=[(3,[]),(5,[(4,(.one .bool))])],blocks:=[] }
theorem po {a:ByteArray} (h:τ [(3,aB)] λb c=>b 0 w/\∀ (_:ν) d e,b d e->br (decide (d < (↑(ByteArray.size a):Int))) (∃ (f:lP []),(∃ (b:lP [(4,jD)]),(GD d (ByteArray.size a)/\br (decide (65<=(↑(UInt8.toNat (sb a (Int.toNat d))):Int))) (GD d (ByteArray.size a)/\br (decide ((↑(UInt8.toNat (sb a (Int.toNat d))):Int)<=90)) (b true e) (GD d (ByteArray.size a)/\br (decide (97<=(↑(UInt8.toNat (sb a (Int.toNat d))):Int))) (GD d (ByteArray.size a)/\br (decide ((↑(UInt8.toNat (sb a (Int.toNat d))):Int)<=122)) (b true e) (GD d (ByteArray.size a)/\b ((↑(UInt8.toNat (sb a (Int.toNat d))):Int) == 95) e)) (GD d (ByteArray.size a)/\b ((↑(UInt8.toNat (sb a (Int.toNat d))):Int) == 95) e))) (GD d (ByteArray.size a)/\br (decide (97<=(↑(UInt8.toNat (sb a (Int.toNat d))):Int))) (GD d (ByteArray.size a)/\br (decide ((↑(UInt8.toNat (sb a (Int.toNat d))):Int)<=122)) (b true e) (GD d (ByteArray.size a)/\b ((↑(UInt8.toNat (sb a (Int.toNat d))):Int) == 95) e)) (GD d (ByteArray.size a)/\b ((↑(UInt8.toNat (sb a (Int.toNat d))):Int) == 95) e)))/\∀ (_:ν) c e,b c e->GD d (ByteArray.size a)/\br (decide (48<=(↑(UInt8.toNat (sb a (Int.toNat d))):Int))) (GD d (ByteArray.size a)/\br (decide ((↑(UInt8.toNat (sb a (Int.toNat d))):Int)<=57)) (br (!c) (br (!decide (0 < d)) (R (vB false) e) (f e)) (f e)) (br (!c) (R (vB false) e) (f e))) (br (!c) (R (vB false) e) (f e)))/\∀ (_:ν) a,f a->ax (d + 1)/\b (d + 1) a/\c (d + 1) a < c d e) (br (decide (1<=(↑(ByteArray.size a):Int))) (R (vB (decide ((↑(ByteArray.size a):Int)<=16))) e) (R (vB false) e))):ρ 179 [(.string a)] w R:=rv Tryz.func179 pn (by kernel_rfl) h
abbrev vy:FuncId:=183
def sj:bm:={ rngs:=[],loops:=[],joins:=[],blocks:=[] }
theorem sk {a:ByteArray} {b:FuncId} {c:List Value} (h:rE 233 [Value.string a,Value.func (Fn.func b) (Array.mk []) (Array.mk c),vB true] w λa b=>∃ c,a = iI c/\R (iI c) b):ρ 183 [(.string a),(.func (.func b) #[] ⟨c⟩)] w R:=rv Tryz.func183 sj (by kernel_rfl) h
abbrev jO:FuncId:=184
def w_:bm:={ rngs:=[],loops:=[],joins:=[],blocks:=[] }
theorem xa (h:br (decide (A < 32)) (R (vB true) w) (br (decide (126 < A)) (R (vB true) w) (R (vB (A == 39)) w))):ρ 184 [(.int .i32 A)] w R:=rv Tryz.func184 w_ (by kernel_rfl) h
abbrev ja:FuncId:=185
def gT:bm:={ rngs:=[],loops:=[(2,[(8,(.one (.int .i64)))])],joins:=[],blocks:=[] }
theorem gU {d:FuncId} {e:List Value} (h:τ [(8,aB)] λb c=>b 0 w/\∀ (_:ν) f g,b f g->br (decide (f < (i:Int))) (idx a i f 1 λa=>∃ h,World.cell? g a = some (Value.string h)/\yc (Proofs.YtndaepmjkbmjmaaGreatDoor.Fn d) (rE d (Value.string h :: e) g λa d=>∃ e,a = vB e/\br e (R (iI f) d) (ax (f + 1)/\b (f + 1) d/\c (f + 1) d < c f g))) (R (iI (-1)) g)):ρ 185 [(.slice a i j),(.func (.func d) #[] ⟨e⟩)] w R:=rv Tryz.func185 gT (by kernel_rfl) h
abbrev pq:FuncId:=186
def mY:bm:={ rngs:=[],loops:=[(2,[(8,(.one (.int .i64)))])],joins:=[],blocks:=[] }
theorem mZ (h:τ [(8,aB)] λb c=>b 0 w/\∀ (_:ν) d e,b d e->br (decide (d < (i:Int))) (idx a i d 1 λa=>∃ f,World.cell? e a = some (iI f)/\br (A == f) (R (iI d) e) (ax (d + 1)/\b (d + 1) e/\c (d + 1) e < c d e)) (R (iI (-1)) e)):ρ 186 [(.slice a i j),(.int .i64 A)] w R:=rv Tryz.func186 mY (by kernel_rfl) h
abbrev jP:FuncId:=209
def jj:bm:={ rngs:=[],loops:=[],joins:=[],blocks:=[] }
theorem dA {d:FuncId} {e:List Value} (h:rE 245 [vS a i j,Value.func (Fn.func d) (Array.mk []) (Array.mk e)] w λa b=>∃ c,a = iI c/\R (vB (decide (0<=c))) b):ρ 209 [(.slice a i j),(.func (.func d) #[] ⟨e⟩)] w R:=rv Tryz.func209 jj (by kernel_rfl) h
abbrev Aa:FuncId:=213
def xb:bm:={ rngs:=[(6,[(17,(.one (.int .i64)))])],loops:=[(3,[(11,(.one (.int .i64)))])],joins:=[],blocks:=[] }
theorem xc (h:new w (oC [vP a] 118) λa c=>new c (oC [iI 0] 3) λc d=>st1 d (aM c) (iI 0) λd=>τ [(11,aB)] λe f=>e 0 d/\∀ (_:ν) d g,e d g->br (decide (d < (i:Int))) (idx b i d 1 λb=>∃ h,World.cell? g b = some (vP h)/\rE 113 [vP h] g λb h=>∃ i j,b = Value.func (Fn.func i) (Array.mk []) (Array.mk j)/\yc (Proofs.YtndaepmjkbmjmaaGreatDoor.Fn i) (∃ (b:List (List Value)),∃ (k:az),∃ (l:az),∃ (m:Nat->az),∃ (n:az),∃ (_:Nat->az),∃ (o:List az),St h (m 0 :: k :: o)/\(∀ (a:Hp),aD o a->l a)/\WJ Proofs.Tryz.prog i [] j k l b/\(∀ (a:List Value),a∈b->∃ b,a = [iI b])/\(∀ (d:Nat) (e:Int),List.get?Internal b d = some [iI e]->∀ (b:List az) (f:aa4),Ss b o->St f (m d :: b)->∃ (g:az),St f (g :: b)/\∀ (b:List az) (f:aa4),Ss b o->St f (g :: b)->∀ g,drawn f g->∃ (f:WP),f g/\∃ h,(∀ a,f a->World.cell? a (aM c) = some (iI h))/\∃ i,(∀ b,f b->World.cell? b (aM a) = some (vP i))/\new g (oC [iI e] 3) λa e=>f e/\rE 60 [vP i,vS (some (aM a)) 1 1] e λa e=>∃ g,a = iI g/\f e/\ax (h + g)/\st1 e (aM c) (iI (h + g)) λa=>St a (m (d + 1) :: b))/\(∀ (a:aa4),St a (m (List.length b) :: k :: o)->ax (d + 1)/\e (d + 1) a/\f (d + 1) a < f d g)/\(∀ (a:aa4),St a (n :: k :: o)->∀ (b:aa4),hp b = hp a->R (iI 0) b)/\True)) (∃ a,World.cell? g (aM c) = some (iI a)/\∀ (b:aa4),hp b = hp g->R (iI a) b)):ρ 213 [(.pointer a),(.slice b i j)] w R:=rv Tryz.func213 xb (by kernel_rfl) h
abbrev py:FuncId:=214
def m_:bm:={ rngs:=[],loops:=[],joins:=[],blocks:=[] }
theorem nb (h:br (Option.isNone a) (R (vS none 0 0) w) (new w (oC [] 3) λb c=>rS (fe 24 (Array.mk [vS (some (aM b)) 0 0,vS a i j])) c λa b=>∃ c d e,a = vS c d e/\R (vS c d e) b)):ρ 214 [(.slice a i j)] w R:=rv Tryz.func214 m_ (by kernel_rfl) h
abbrev vz:FuncId:=233
def sr:bm:={ rngs:=[],loops:=[(2,[])],joins:=[],blocks:=[] }
theorem sx {a:ByteArray} {b:FuncId} {c:List Value} {d:Bool} (h:bf Proofs.Tryz.prog (Instr.range 9 (Value.string a)) w λa e=>∃ f,a = vP f/\τ [] λa g=>a e/\∀ (_:ν) e,a e->bf Proofs.Tryz.prog (Instr.next (vP f) true 0) e λf h=>f = vU [vB false]/\R (iI (-1)) h\/∃ i j,f = vU [vB true,iI i,Value.int IntKind.i32 j]/\yc (Proofs.YtndaepmjkbmjmaaGreatDoor.Fn b) (rE b (Value.int IntKind.i32 j :: c) h λb c=>∃ f,b = vB f/\br (f == d) (R (iI i) c) (a c/\g c < g e))):ρ 233 [(.string a),(.func (.func b) #[] ⟨c⟩),(.bool d)] w R:=rv Tryz.func233 sr (by kernel_rfl) h
abbrev jk:FuncId:=242
def iy:bm:={ rngs:=[],loops:=[],joins:=[],blocks:=[] }
theorem iz {d:FuncId} {e:List Value} (h:rE 258 [vS a i j,Value.func (Fn.func d) (Array.mk []) (Array.mk e)] w λa b=>∃ c,a = iI c/\R (vB (decide (0<=c))) b):ρ 242 [(.slice a i j),(.func (.func d) #[] ⟨e⟩)] w R:=rv Tryz.func242 iy (by kernel_rfl) h
abbrev fv:FuncId:=245
def kv:bm:={ rngs:=[],loops:=[(2,[(8,(.one (.int .i64)))])],joins:=[],blocks:=[] }
theorem eE {d:FuncId} {e:List Value} (h:τ [(8,aB)] λb c=>b 0 w/\∀ (_:ν) f g,b f g->br (decide (f < (i:Int))) (idx a i f 1 λa=>∃ h,World.cell? g a = some (iI h)/\yc (Proofs.YtndaepmjkbmjmaaGreatDoor.Fn d) (rE d (iI h :: e) g λa d=>∃ e,a = vB e/\br e (R (iI f) d) (ax (f + 1)/\b (f + 1) d/\c (f + 1) d < c f g))) (R (iI (-1)) g)):ρ 245 [(.slice a i j),(.func (.func d) #[] ⟨e⟩)] w R:=rv Tryz.func245 kv (by kernel_rfl) h
abbrev GW:FuncId:=247
def Dh:bm:={ rngs:=[],loops:=[],joins:=[],blocks:=[] }
theorem Di (h:new w (ψ a i j b k l c m n A d o p) λa b=>χ b (aM a) λc=>rE 89 [c,iI 0] b λb c=>∃ d,b = vB d/\br (!d) (R (vB false) c) (χ c (aM a) λa=>rE 90 [a,iI 0] c λa b=>∃ c d e f,a = vU [vS c d e,vB f]/\br f (rE 259 [vS c d e] b λa b=>∃ c,a = vB c/\R (vB c) b) (R (vB false) b))):ρ 247 [φ a i j b k l c m n A d o p] w R:=rv Tryz.func247 Dh (by kernel_rfl) h
abbrev ky:FuncId:=258
def jE:bm:={ rngs:=[],loops:=[(2,[(8,(.one (.int .i64)))])],joins:=[],blocks:=[] }
theorem jF {d:FuncId} {e:List Value} (h:τ [(8,aB)] λb c=>b 0 w/\∀ (_:ν) f g,b f g->br (decide (f < (i:Int))) (idx a i f 1 λa=>∃ h i j,World.cell? g a = some (vS h i j)/\yc (Proofs.YtndaepmjkbmjmaaGreatDoor.Fn d) (rE d (vS h i j :: e) g λa d=>∃ e,a = vB e/\br e (R (iI f) d) (ax (f + 1)/\b (f + 1) d/\c (f + 1) d < c f g))) (R (iI (-1)) g)):ρ 258 [(.slice a i j),(.func (.func d) #[] ⟨e⟩)] w R:=rv Tryz.func258 jE (by kernel_rfl) h
abbrev me:FuncId:=259
def kK:bm:={ rngs:=[],loops:=[(2,[(3,(.one (.int .i64)))])],joins:=[],blocks:=[] }
theorem kL (h:ax ((i:Int) - 1)/\τ [(3,aB)] λb c=>b ((i:Int) - 1) w/\∀ (_:ν) d e,b d e->br (decide (0 < d)) (∀ f,drawn e f->∃ (g:WP),g f/\idx a i d 1 λh=>∃ j,(∀ a,g a->World.cell? a h = some (iI j))/\ax (d - 1)/\idx a i (d - 1) 1 λa=>∃ h,(∀ b,g b->World.cell? b a = some (iI h))/\rE 151 [iI j,iI h] f λa f=>∃ g,a = vB g/\br g (R (vB false) f) (ax (d - 1)/\b (d - 1) f/\c (d - 1) f < c d e)) (R (vB true) e)):ρ 259 [(.slice a i j)] w R:=rv Tryz.func259 kK (by kernel_rfl) h
end
section
variable {P:Program} {w w' : aa4} {L:List az} {b:Nat} {vs:List Value}
theorem nF {sz l c j:Nat} {a:aa3} {ad:Addr} {v:Value} {k:aa4->Prop} (h:St w (own sz a l c vs :: L)) (ha:a = some ad) (hj:j < vs.length)
  (hk:∀ w',St w' (own sz a l c (vs.set j v) :: L)->k w') (hv:aG v = true:=by rfl):st1 w (ad.add j) v k:=by
 rcases cX h with ⟨rfl,_⟩ | ⟨b,pre,cs,u,rfl,h,O,z,G⟩
 ·cases ha
 ·cases ha;rw [add_lit];refine bj h (by simp; omega) (λw' h'=>?_) hv;rw [aae _ _ ω,ZS,List.set_append_left _ _ hj] at h';refine hk w' (dS h' (by simpa using O) (by simpa using z) G)
theorem aw {a:aa3} {ad:Addr} {len i:Nat} {k:Addr->Prop} (ha:a = some ad) (hi:i < len) (hk:k (ad.add i)):idx a len (i:Int) 1 k :=
 ⟨ad,ha,ω,ω,by simpa [cE] using hk⟩
theorem gV {sz l c:Nat} {a:aa3} (h:St w (own sz a l c vs :: L)) (hl:0 < vs.length):∃ ad,a = some ad:=by
 rcases cX h with ⟨rfl,_,_,rfl⟩ | ⟨b,pre,cs,u,rfl,_⟩
 ·simp at hl
 ·exact ⟨_,rfl⟩
theorem Ck {sz l c:Nat} {a:aa3} {ad:Addr} (h:St w (own sz a l c vs :: L)) (ha:a = some ad) {j:Nat} {v:Value} (hj:vs[j]? = some v):w.cell? (ad.add j) = some v:=by
 obtain ⟨z,u,G⟩:=cr h hj;rw [ha] at u; cases u; exact G
theorem dT (h:drawn w w'):hp w' = hp w:=by unfold drawn at h; subst h; rfl
theorem St.drawn (h:St w L) (hd:Proofs.YtndaepmjkbmjmaaGreatDoor.drawn w w'):St w' L:=h.eq (dT hd)
end
def cw (ws:List Nat):List Value:=ws.map λ(n:Nat)=>Value.int .u64 (n:Int)
def mem (ws:List Nat) (k:Nat):Bool:=(ws.getD (k / 64) 0).testBit (k % 64)
structure Inv (n:Nat) (ws:List Nat) (m:Nat->Bool):Prop where
 len:ws.length = (n + 63) / 64
 le:n<=1024
 lt:∀ x∈ws,x < 2 ^ 64
 mm:∀ k,m k = mem ws k
 out:∀ k,n<=k->m k = false
def yw (p:aa3) (n:Nat) (m:Nat->Bool):az:=λh =>
 (p = none/\n = 0/\m = λ_=>false) \/
 ∃ b a c ws,p = some ⟨b,0,none⟩/\Inv n ws m/\aD [aH b [.slice a ws.length c,.int .i64 (n:Int)],own 1 a ws.length c (cw ws)] h
section
variable {w w' : aa4} {L:List az} {p:aa3} {n:Nat} {m:Nat->Bool}
theorem jQ (h:St w (yw p n m :: L)):(p = none/\n = 0/\(m = λ_=>false)/\St w L) \/
  ∃ b a c ws,p = some ⟨b,0,none⟩/\Inv n ws m/\St w (aH b [.slice a ws.length c,.int .i64 (n:Int)] :: own 1 a ws.length c (cw ws) :: L):=by
 have ht:=h.tail;obtain ⟨X,V,d,R,O,U,W⟩:=h
 rcases U with ⟨G,z,u⟩ | ⟨b,a,c,ws,G,z,u⟩
 ·exact .inl ⟨G,z,u,ht⟩
 ·exact .inr ⟨b,a,c,ws,G,z,St.flat.1 (show St w (aC [_,_] :: L) from ⟨X,V,d,R,O,u,W⟩)⟩
theorem Mn {b:Nat} {a:aa3} {c:Nat} {ws:List Nat} (hi:Inv n ws m) (h:St w (aH b [.slice a ws.length c,.int .i64 (n:Int)] :: own 1 a ws.length c (cw ws) :: L)):St w (yw (some ⟨b,0,none⟩) n m :: L) :=
 (St.flat.2 (show St w ([_,_] ++ L) from h)).head λh u=>.inr ⟨b,a,c,ws,rfl,hi,u⟩
theorem Pt (h:St w (yw p n m :: L)) {k:Nat} (hk:n<=k):m k = false:=by
 rcases jQ h with ⟨_,_,rfl,_⟩ | ⟨_,_,_,_,_,hi,_⟩
 ·rfl
 ·exact hi.out k hk
theorem SE (h:St w (yw p n m :: L)):n<=1024:=by
 rcases jQ h with ⟨_,rfl,_,_⟩ | ⟨_,_,_,_,_,hi,_⟩
 ·omega
 ·exact hi.le
end
section
variable {w:aa4} {L:List az} {a:aa3} {c:Nat} {ws:List Nat} {p:aa3} {n:Nat} {m:Nat->Bool}
theorem KM {ws:List Nat} {j:Nat} (h:j < ws.length):(cw ws)[j]? = some (.int .u64 ((ws.getD j 0:Nat):Int)):=by
 simp [cw,h]
theorem Cm {ws:List Nat} (hl:∀ x∈ws,x < 2 ^ 64) (j:Nat):ws.getD j 0 < 2 ^ 64:=by
 by_cases h:j < ws.length
 ·rw [YX,YU h]; exact hl _ (List.getElem_mem h)
 ·rw [YX,Zf ω]; simp
theorem Pu:nz 64:=by unfold nz; decide
theorem Cn {k:Nat} (h:k < 9223372036854775807):ax (k:Int):=⟨ω,ω⟩
theorem IE (h:St w (own 1 a ws.length c (cw ws) :: L)) (hlt:∀ x∈ws,x < 2 ^ 64) {k:Nat} (hk:k / 64 < ws.length) (hb:k < 4096) :
  ρ zZ [.slice a ws.length c,.int .i64 (k:Int)] w λv w'=>v = .bool (mem ws k)/\w' = w:=by
 refine wW ?_;obtain ⟨z,rfl⟩:=gV h (by simp [cw]; omega);have u:=Ck h rfl (KM hk)
 refine ⟨Pu,?_,?_⟩
 ·rw [Dd]; exact Cn ω
 ·rw [Dd,Pr]
  refine aw rfl hk ⟨_,u,Pu,?_,?_,rfl⟩
  ·show (0:Int)<=_; omega
  ·rw [Ps (Cm hlt _) (Nat.mod_lt _ ω)]; rfl
theorem mem_set {ws:List Nat} {k r:Nat} (hk:k / 64 < ws.length) (j:Nat):mem (ws.set (k / 64) r) j = if j / 64 = k / 64 then r.testBit (j % 64) else mem ws j:=by
 unfold mem;rw [YX,ZN]
 split
 ·rename_i h; rw [Y5 h.symm]; rfl
 ·rename_i h; rw [YZ (λe=>h e.symm),YX]
theorem Vf {ws:List Nat} {i r:Nat}:(cw ws).set i (.int .u64 (r:Int)) = cw (ws.set i r):=by simp [cw]
theorem IF (h:St w (own 1 a ws.length c (cw ws) :: L)) (hlt:∀ x∈ws,x < 2 ^ 64) {k:Nat} (hk:k / 64 < ws.length) (hb:k < 4096) :
  ρ z6 [.slice a ws.length c,.int .i64 (k:Int)] w λv w'=>v = .tuple #[]/\∃ ws',ws'.length = ws.length/\(∀ x∈ws',x < 2 ^ 64)/\(∀ j,mem ws' j = (mem ws j || j == k))/\St w' (own 1 a ws.length c (cw ws') :: L):=by
 refine wY ?_;intro X R;have W:=h.drawn R;obtain ⟨Y,rfl⟩:=gV h (by simp [cw]; omega);have V:=λz (e:hp z = hp w)=>Ck (h.eq e) rfl (KM hk)
 refine ⟨λz=>hp z = hp w,dT R,Pu,?_,?_⟩
 ·rw [Dd]; exact Cn ω
 ·rw [Dd,Pr]
  refine aw rfl hk ⟨_,V,Pu,?_,aw rfl hk ?_⟩
  ·show (0:Int)<=_; omega
  ·have G:k % 64 < 64:=Nat.mod_lt _ ω;rw [Pq G,SD (Cm hlt _) (Nat.pow_lt_pow_right ω G)];refine nF W rfl (by simpa [cw] using hk) λZ U=>?_;rw [Vf] at U
   refine ⟨rfl,_,σ,λx u=>?_,λj=>?_,U⟩
   ·rcases aaq u with u | rfl
    ·exact hlt x u
    ·exact Nat.or_lt_two_pow (Cm hlt _) (Nat.pow_lt_pow_right ω G)
   ·rw [mem_set hk]
    split
    ·rename_i e;rw [Nat.testBit_or,Nat.testBit_two_pow];unfold mem;rw [e];congr 1
     by_cases O:j = k
     ·subst O; simp
     ·have:¬ (k % 64 = j % 64):=ω
      simp [O,this]
    ·rename_i e;have:(j == k) = false:=by simp; intro h; exact e (by rw [h])
     simp [this]
theorem Vg (h:St w (yw p n m :: L)):ρ BE [.pointer p] w λv w'=>v = .int .i64 (n:Int)/\w' = w:=by
 refine yr ?_
 rcases jQ h with ⟨rfl,rfl,rfl,_⟩ | ⟨b,a,c,ws,rfl,hi,h⟩
 ·exact ⟨rfl,rfl⟩
 ·refine ⟨(n:Int),?_,rfl,rfl⟩;rw [aK,h.cell]; rfl
theorem Vh (hi:Inv n ws m) {k:Nat} (hk:k < n):k / 64 < ws.length:=by rw [hi.len]; omega
end
def rJ (h:Hp) (a:Addr):Option Value :=
 match h a.block with
 | some (.cells c _ _)=>if a.spot.isSome then none else c[a.off]?
 | _=>none
theorem pz {h h' : Hp} (s:sub h h') {a:Addr} {v:Value} (hc:rJ h a = some v):rJ h' a = some v:=by
 unfold rJ at *
 split at hc
 ·rename_i c _ _ he; rw [s _ _ he]; exact hc
 ·cases hc
theorem lB {w:aa4} {a:Addr} {v:Value} (hc:rJ (hp w) a = some v):w.cell? a = some v:=by
 unfold rJ at hc
 split at hc
 ·rename_i c _ _ he; unfold World.cell?; rw [oR he]; exact hc
 ·cases hc
def fo (a:aa3) (vs:List Value):az:=λh=>vs = []\/∃ ad,a = some ad/\∀ j v,vs[j]? = some v->rJ h (ad.add j) = some v
section
variable {w w' : aa4} {L:List az} {a:aa3} {vs:List Value}
theorem GX (h:St w (fo a vs :: L)) {j:Nat} {v:Value} (hj:vs[j]? = some v):∃ ad,a = some ad/\w.cell? (ad.add j) = some v:=by
 obtain ⟨V,R,d,u,O,z,U⟩:=h
 rcases z with rfl | ⟨ad,e,G⟩
 ·simp at hj
 ·exact ⟨ad,e,lB (pz u (G j v hj))⟩
theorem cP {sz l c:Nat} {h:Hp} (ha:own sz a l c vs h):fo a vs h:=by
 rcases ha with ⟨_,_,_,rfl⟩ | ⟨b,pre,cs,z,rfl,⟨e,G⟩,_⟩
 ·exact .inl rfl
 ·refine .inr ⟨_,rfl,λj v u=>?_⟩;rw [add_lit]; unfold rJ; simp only [G];have:=(YT.1 u).1;simp only [Option.isSome_none,aav,if_false,List.getElem?_toArray];rw [Y_ ω,ZS,Y8 this]; exact u
end
def iv (xs:List Int):List Value:=xs.map λx=>Value.int .i64 x
theorem Vi {xs:List Int} {j:Nat} {x:Int} (h:xs[j]? = some x):(iv xs)[j]? = some (.int .i64 x):=by simp [iv,h]
theorem bn {l j:Nat} (h:j < l):l - ((j:Int) + 1).toNat < l - (j:Int).toNat:=ω
def kZ (n:Nat) (m:Nat->Bool):Nat:=((List.range n).filter m).length
theorem KN (n:Nat) (m:Nat->Bool):kZ n m<=n:=by
 unfold kZ; exact Zq (Zt _ _) σ
theorem tY (n:Nat) (m:Nat->Bool):kZ (n + 1) m = kZ n m + (if m n then 1 else 0):=by
 unfold kZ; rw [Z1,Zs,Y0];congr 1;by_cases h:m n <;> simp [h]
theorem FJ {n:Nat} {m m' : Nat->Bool} (h:∀ k,k < n->m k = m' k):kZ n m = kZ n m':=by
 unfold kZ; congr 1; exact Z5 λk u=>h k (by simpa using u)
theorem Mo {n:Nat} {m:Nat->Bool} {k:Nat} (hk:k < n) (hm:m k = false):kZ n (λj=>m j || j == k) = kZ n m + 1:=by
  induction n with
  | zero=>omega
  | succ n ih =>
    rw [tY,tY]
    by_cases h:k = n
    · subst h
      rw [FJ (m' := m) λj hj => by have : (j == k) = false := by simp; omega
                                   simp [this]]
      simp [hm]
    · rw [ih ω]
      have:(n == k) = false:=by simp; omega
      simp only [this,Bool.or_false]; omega
def gv (n:Nat) (m:Nat->Bool) (xs:List Int):Nat->Bool:=λk=>m k || (decide (k < n) && xs.contains (k:Int))
theorem bI {xs:List Int} {j:Nat} {x:Int} (h:xs[j]? = some x):xs.take (j + 1) = xs.take j ++ [x]:=by
 rw [Y2,h]; rfl
theorem nZ (l:List Int) (x y:Int):(l ++ [x]).contains y = (l.contains y || y == x):=by
 simp only [List.contains_append,List.contains_cons,List.contains_nil,Bool.or_false]
theorem NI {n:Nat} {m:Nat->Bool} {xs:List Int} {j:Nat} {x:Nat} (h:xs[j]? = some (x:Int)) (hx:x < n):gv n m (xs.take (j + 1)) = λk=>gv n m (xs.take j) k || k == x:=by
 funext k
 simp only [gv,bI h,nZ]
 have e:((k:Int) == (x:Int)) = (k == x):=by
  rw [ZI]; simp only [aaR]; omega
 rw [e]
 by_cases u:k = x
 ·subst u; simp [hx]
 ·have:(k == x) = false:=by simp [u]
  simp [this]
theorem FK {n:Nat} {m:Nat->Bool} {xs:List Int} {j:Nat} {x:Int} (h:xs[j]? = some x) (hx:∀ k:Nat,k < n->(k:Int) = x->gv n m (xs.take j) k = true):gv n m (xs.take (j + 1)) = gv n m (xs.take j):=by
 funext k
 have G:=hx k;simp only [gv,bI h,nZ] at G ⊢
 by_cases u:k < n
 ·by_cases z:(k:Int) = x
  ·have:=G u z;simp only [u,decide_true,aaz] at this ⊢;rw [this];revert this;cases m k <;> simp;intro h; exact .inl h
  ·have:((k:Int) == x) = false:=by simp [z]
   simp [this]
 ·simp [u]
theorem IG (n:Nat) (m:Nat->Bool):gv n m [] = m:=by funext k; simp [gv]
section
variable {w:aa4} {L:List az} {a:aa3} {l c:Nat} {p:aa3} {n:Nat} {m:Nat->Bool} {xs:List Int}
theorem UE {D:az} (hD:∀ h,D h->fo a (iv xs) h) (h:St w (yw p n m :: D :: L)) (hl:xs.length = l) (hb:l<=4611686018427387904) :
  ρ tN [.pointer p,.slice a l c] w λv w'=>v = .int .i64 ((kZ n (gv n m xs):Int) - kZ n m)/\St w' (yw p n (gv n m xs) :: D :: L):=by
 refine zW ?_
 refine ⟨λn1 n2 w=>∃ j:Nat,n2 = j/\j<=l/\n1 = (kZ n (gv n m (xs.take j)):Int) - kZ n m/\St w (yw p n (gv n m (xs.take j)) :: D :: L),
  λ_ n2 _=>l - n2.toNat,⟨0,rfl,ω,by simp [IG],by simpa [IG] using h⟩,?_⟩
 rintro _ n1 n2 w1 ⟨j,rfl,hj,G,O⟩
 refine ae (λh0=>?_) λh0=>?_
 ·have h0:j < l:=by have:=YR h0; omega
  obtain ⟨x,hx⟩ : ∃ x,xs[j]? = some x:=⟨xs[j],by simp [show j < xs.length by omega]⟩;obtain ⟨ad,rfl,hc⟩:=GX (O.swap.head hD) (Vi hx);have a1:=KN n (gv n m (xs.take j));have a0:=KN n m;have hn:=SE O;have mI:ax ((j:Int) + 1):=⟨ω,ω⟩;refine aw rfl h0 ⟨x,hc,?_⟩
  have skip:(∀ k:Nat,k < n->(k:Int) = x->gv n m (xs.take j) k = true)->∀ w2,St w2 (yw p n (gv n m (xs.take j)) :: D :: L)->ax ((j:Int) + 1) /\
    (∃ j' : Nat,(j:Int) + 1 = j'/\j'<=l/\n1 = (kZ n (gv n m (xs.take j')):Int) - kZ n m/\St w2 (yw p n (gv n m (xs.take j')) :: D :: L))/\l - ((j:Int) + 1).toNat < l - (j:Int).toNat:=by
   intro Y w2 u
   refine ⟨mI,⟨j + 1,σ,ω,?_,?_⟩,bn h0⟩
   ·rw [FK hx Y]; exact G
   ·rw [FK hx Y]; exact u
  refine ae (λW=>?_) λW=>?_
  ·have W:=YR W;obtain ⟨x,rfl⟩:=Int.eq_ofNat_of_zero_le W;refine (Vg O).mono ?_;rintro _ _ ⟨rfl,rfl⟩
   refine ⟨_,rfl,ae (λR=>?_) λR=>?_⟩
   ·have R:x < n:=by have:=YR R; omega
    rcases jQ O with ⟨rfl,rfl,_⟩ | ⟨b,ab,cb,ws,rfl,hi,u⟩
    ·omega
    have hw:=Vh hi R;have V:x < 4096:=ω
    refine ⟨ab,ws.length,cb,by rw [u.cell]; rfl,?_⟩;refine (IE u.swap hi.lt hw V).mono ?_;rintro _ _ ⟨rfl,rfl⟩
    refine ⟨_,rfl,ae (λh3=>?_) λh3=>?_⟩
    ·refine ⟨ab,ws.length,cb,by rw [u.cell]; rfl,?_⟩;refine (IF u.swap hi.lt hw V).mono ?_;rintro _ w3 ⟨rfl,a3,e1,e2,e3,U⟩;have z:gv n m (xs.take j) x = false:=by rw [hi.mm]; simpa using h3
     have X:=Mo R z;have Z:=NI (m:=m) hx R
     refine ⟨rfl,⟨ω,ω⟩,mI,⟨j + 1,σ,ω,?_,?_⟩,bn h0⟩
     ·rw [Z,X,G]; omega
     ·rw [Z];rw [<- e1] at U
      refine Mn ⟨e1 ▸ hi.len,hi.le,e2,λk=>?_,λk hk=>?_⟩ (by rw [e1] at U ⊢; exact U.swap)
      ·rw [e3,hi.mm]
      ·rw [hi.out k hk]; simp; omega
    ·refine skip (λk hk he=>?_) _ O;have:k = x:=ω
     subst this;rw [hi.mm]; simpa using h3
   ·refine skip (λk hk he=>?_) _ O;have:=YS R; omega
  ·refine skip (λk hk he=>?_) _ O;have:=YS W; omega
 ·have h0:j = l:=by have:=YS h0; omega
  subst h0;rw [<- hl,Zi] at O G;exact ⟨by rw [G],O⟩
end
theorem GY (n:Nat):IntKind.u64.wrap (n:Int) = ((n % 18446744073709551616:Nat):Int):=by
 simp only [IntKind.wrap,IntKind.signed,IntKind.bits];simp
theorem GZ {x:Nat} (h0:x≠0) (hx:x < 2 ^ 64):IntKind.u64.wrap (0 - (x:Int)) = ((18446744073709551616 - x:Nat):Int):=by
 have:(0 - (x:Int)) % (18446744073709551616:Int) = ((18446744073709551616 - x:Nat):Int):=ω
 simpa [IntKind.wrap,IntKind.signed,IntKind.bits] using this
theorem Pv {T:List Nat} {i k:Nat} {f:Nat->Value} (h:T.getD i 0 = k) (hi:i < T.length):(T.map f)[i]? = some (f k):=by
 rw [YX,YU hi] at h;rw [YW,YU hi];simp only [Option.getD_some] at h;rw [h]; rfl
theorem Vj {x a:Nat} (h0:x≠0) (hx:x < 2 ^ 64) (ha:x &&& (18446744073709551616 - x) = a) :
  bQ .u64 (IntKind.u64.wrap (l5 .and .u64 (x:Int) (IntKind.u64.wrap (0 - (x:Int))) * 285870213051353865)) 58 = ((a * 285870213051353865 % 18446744073709551616 / 2 ^ 58:Nat):Int):=by
 have z:=Db (a:=x) (b:=18446744073709551616 - x) hx ω;rw [GZ h0 hx,z,ha];have u:=GY (a * 285870213051353865);rw [Int.natCast_mul] at u;have G:((285870213051353865:Nat):Int) = 285870213051353865:=rfl;rw [G] at u;rw [u];exact Dc (s:=58) ω
theorem yx {x:Nat} (hx:x < 2 ^ 64) (w:aa4) {L:List az} (h:St w (fo (some ⟨0,0,none⟩) (Lib.deBruijn64tab.map λ(k:Nat)=>Value.int .u8 (k:Int)) :: L)):ρ lz [.int .u64 (x:Int)] w λv w'=>v = .int .i64 ((Lib.ctz 64 x:Nat):Int)/\w' = w:=by
 refine kq ?_
 refine ae (λh0=>?_) λh0=>?_
 ·have:x = 0:=by simpa using h0
  subst this;exact ⟨rfl,rfl⟩
 ·have h0:x≠0:=by simpa using h0
  obtain ⟨z,O⟩:=Lib.lowest_bit 64 x h0 hx;obtain ⟨hi,u⟩:=Lib.deBruijn64_at _ O;rw [Vj h0 hx z];generalize Lib.ctz 64 x = k at O hi u ⊢;have G:(2:Nat) ^ 58 = 288230376151711744:=by decide
  rw [G];generalize 2 ^ k * 285870213051353865 % 18446744073709551616 / 288230376151711744 = i at hi u ⊢;refine ⟨show (0:Int)<=58 by decide,aw rfl hi ⟨(k:Int),?_,⟨ω,ω⟩,rfl,rfl⟩⟩;have R:=Pv (f:=λ(k:Nat)=>Value.int .u8 (k:Int)) u hi;obtain ⟨V,e,U⟩:=GX h R;cases e;exact U
theorem FL (a b:Nat) (m:Nat->Bool):kZ (a + b) m = kZ a m + kZ b (λk=>m (a + k)):=by
 unfold kZ;rw [List.range_add,Zs,Y0,List.filter_map,Y3];rfl
theorem IH {a:Nat} {m:Nat->Bool} (h:∀ k,k < a->m k = false):kZ a m = 0:=by
 unfold kZ;rw [aaj.2 λk u=>by simp [h k (by simpa using u)]]; rfl
theorem SF {n:Nat} {ws:List Nat} {m:Nat->Bool} (hi:Inv n ws m):kZ (64 * ws.length) m = kZ n m:=by
 have h:64 * ws.length = n + (64 * ws.length - n):=by rw [hi.len]; omega
 rw [h,FL,IH (a:=64 * ws.length - n) λk _=>hi.out _ ω]; omega
def Kp (s:Int):Nat:=(if 1024 < if s < 0 then 0 else s then 1024 else if s < 0 then 0 else s).toNat
theorem Vk (s:Int):(if 1024 < if s < 0 then 0 else s then (1024:Int) else if s < 0 then 0 else s) = (Kp s:Int):=by
 unfold Kp
 split <;> split <;> omega
theorem Vl (s:Int):Kp s<=1024:=by
 unfold Kp; split
 ·decide
 ·split <;> omega
theorem SG {n:Nat} (h:n<=1024):Kp (n:Int) = n:=by
 unfold Kp;rw [YZ (by rw [YZ ω]; omega),YZ ω]; simp
theorem dq (v:Value):∀ n,ir n [v] = List.replicate n v
 | 0=>rfl
 | n + 1=>by simp [ir,dq v n,aar]
theorem SH (n:Nat):cw (List.replicate n 0) = List.replicate n (.int .u64 0):=by simp [cw]
theorem Pw (n k:Nat):mem (List.replicate n 0) k = false:=by
 unfold mem;rw [YX,Z2]
 split <;> simp
theorem inv_zero {n:Nat} (h:n<=1024):Inv n (List.replicate ((n + 63) / 64) 0) (λ_=>false) :=
 ⟨σ,h,λx u=>by rw [List.mem_replicate] at u; rw [u.2]; decide,λk=>(Pw _ k).symm,λ_ _=>rfl⟩
section
variable {w:aa4} {L:List az} {a:aa3} {l c:Nat} {p:aa3} {n:Nat} {m:Nat->Bool} {xs:List Int}
theorem XV (size:Int) {D:az} (hD:∀ h,D h->fo a (iv xs) h) (h:St w (D :: L)) (hl:xs.length = l) (hb:l<=4611686018427387904) :
  ρ FI [.int .i64 size,.slice a l c] w λv w'=>∃ b,v = .pointer (some ⟨b,0,none⟩)/\St w' (yw (some ⟨b,0,none⟩) (Kp size) (gv (Kp size) (λ_=>false) xs) :: D :: L):=by
 refine ID _ _ _ _ w _ ?_;unfold De;rw [Vk];have z:=Vl size;generalize Kp size = N at *;have Y:((N:Int) + 63) = ((N + 63:Nat):Int):=ω
 rw [Y,Dd,Za];refine ⟨Cn ω,Pu,Cn ω,⟨ω,rfl,ω⟩,?_⟩;rw [dq];refine ag h λR Z W=>ag W λG X U=>?_
 have V:St X (yw (some ⟨G,0,none⟩) N (λ_=>false) :: D :: L):=by
  refine Mn (a:=some ⟨R,0,none⟩) (c:=(N + 63) / 64) (inv_zero z) ?_;have u:(List.replicate ((N + 63) / 64) 0:List Nat).length = (N + 63) / 64:=σ
  rw [u]
  refine St.swap (dz (cs:=[]) ?_ ?_ ?_ (Zc _))
  ·rw [Zm,SH]; exact U.swap
  ·simp [cw]
  ·simp [cw]
 refine (UE hD V hl hb).mono ?_;rintro _ w3 ⟨rfl,O⟩;exact ⟨_,rfl,G,rfl,O⟩
end
def WL (b:Nat) (n:Nat) (m:Nat->Bool):az:=ex λx:aa3 × Nat × List Nat=>aC [pu (Inv n x.2.2 m),aH b [.slice x.1 x.2.2.length x.2.1],own 1 x.1 x.2.2.length x.2.1 (cw x.2.2)]
theorem yy {w:aa4} {L:List az} {b n:Nat} {m:Nat->Bool}:St w (WL b n m :: L)↔∃ a c ws,Inv n ws m/\St w (aH b [.slice a ws.length c] :: own 1 a ws.length c (cw ws) :: L):=by
 unfold WL;rw [St.ex]
 constructor
 ·rintro ⟨⟨a,c,ws⟩,h⟩;have h:=St.pu.1 (St.flat.1 h);exact ⟨a,c,ws,h.1,h.2⟩
 ·rintro ⟨a,c,ws,hi,h⟩;exact ⟨⟨a,c,ws⟩,St.flat.2 (St.pu.2 ⟨hi,h⟩)⟩
theorem Vm {ws:List Nat} (h:cw ws = []):ws = []:=by simpa [cw] using h
section
variable {w:aa4} {L:List az} {a:aa3} {l c:Nat} {p:aa3} {n:Nat} {m:Nat->Bool} {xs:List Int} {ws:List Nat}
theorem SI {D:az} (hD:∀ h,D h->fo a (cw ws) h) (h:St w (D :: L)) (hb:ws.length<=1024) (hn:a = none->ws = []) :
  ρ i_ [.slice a ws.length c] w λv w'=>∃ a' c',v = .slice a' ws.length c'/\St w' (own 1 a' ws.length c' (cw ws) :: D :: L):=by
 refine gQ ?_;cases a with
 | none =>
  have z:=hn rfl;subst z;exact ⟨none,0,rfl,ay 1 h⟩
 | some ad =>
  refine ag h λb R W=>?_;have O:St R (own 1 (some ⟨b,0,none⟩) 0 0 [] :: D :: L):=dz (cs:=[]) W rfl rfl (Zc _)
  refine (jh aQ (rfl:aj Ty _ = .slice _) rfl rfl rfl O (n:=ws.length) (news:=cw ws) ?_ ?_ ω).mono ?_
  ·exact fY aQ (rfl:aj Ty _ = .slice _) (by simp [cw]) (.inr ⟨ad,rfl,λj u U=>by
    obtain ⟨_,e,V⟩:=GX (O.swap.head hD) U;cases e; exact V⟩) (λu G=>by
    simp only [cw,Zh] at G;obtain ⟨_,_,rfl⟩:=G; rfl)
  ·show (0 + ws.length) * 8<=_; omega
  ·rintro _ X ⟨a',c',rfl,z⟩;rw [ZV,Zz] at z;exact ⟨_,_,_,rfl,a',c',by rw [ZV],z⟩
end
def tZ (n:Nat) (m:Nat->Bool):List Nat:=(List.range n).filter m
theorem FM (n:Nat) (m:Nat->Bool):(tZ n m).length = kZ n m:=rfl
theorem Px {n k:Nat} {m:Nat->Bool} (hk:k < n) (hm:m k = true):(tZ n m)[kZ k m]? = some k:=by
 have e:n = k + (n - k - 1 + 1):=ω
 unfold tZ;rw [e,List.range_add,Zs,Y_ (by simp [kZ])];have:kZ k m - (List.filter m (List.range k)).length = 0:=by simp [kZ]
 rw [this,List.range_succ_eq_map,ZF,Z_];simp [hm]
theorem Py {x:Nat} (h0:x≠0) (hx:x < 2 ^ 64):Lib.ctz 64 x < 64/\x.testBit (Lib.ctz 64 x) = true/\(∀ k,k < Lib.ctz 64 x->x.testBit k = false)/\∀ k,(x &&& (x - 1)).testBit k = (x.testBit k && !(k == Lib.ctz 64 x)):=by
 have e:Lib.ctz 64 x = Lib.ctzFrom 64 x:=by unfold Lib.ctz; rw [YZ h0]
 obtain ⟨q,R,Y⟩:=Lib.ctzFrom_spec 64 x ω hx;rw [e];generalize Lib.ctzFrom 64 x = c at *;have hp:0 < 2 ^ c:=Nat.two_pow_pos c
 have G:x - 1 = 2 ^ c * (2 * q) + (2 ^ c - 1):=by
  rw [R,Nat.mul_add,Z4]; omega
 have O:∀ k,x.testBit k = if k < c then false else (2 * q + 1).testBit (k - c):=λk=>by
  rw [R];have:=Nat.testBit_two_pow_mul_add (2 * q + 1) (b:=0) (i:=c) hp k;rw [Nat.add_zero] at this;rw [this]; simp
 have X:∀ k,(x - 1).testBit k = if k < c then true else (2 * q).testBit (k - c):=λk=>by
  rw [G,Nat.testBit_two_pow_mul_add _ ω]
  split
  ·rename_i h; rw [Nat.testBit_two_pow_sub_one]; simp [h]
  ·rfl
 refine ⟨Y,?_,λk u=>?_,λk=>?_⟩
 ·rw [O,YZ ω]; simp
 ·rw [O,Y5 u]
 ·rw [Nat.testBit_and,X,O]
  by_cases u:k < c
  ·simp [u]
  ·rw [YZ u,YZ u]
   by_cases z:k = c
   ·subst z; simp
   ·have U:k - c = (k - c - 1) + 1:=ω
    have:(k == c) = false:=by simp [z]
    rw [this,U,Nat.testBit_add_one,Nat.testBit_add_one];have W:(2 * q + 1) / 2 = q:=ω
    have V:2 * q / 2 = q:=ω
    rw [W,V]; simp
def G0 (l:List Nat):List (List Value):=l.map λ(k:Nat)=>[Value.int .i64 (k:Int)]
theorem wK {a b:Nat} {m:Nat->Bool} (h:a<=b) (hf:∀ k,a<=k->k < b->m k = false):kZ b m = kZ a m:=by
 have e:b = a + (b - a):=ω
 rw [e,FL,IH (a:=b - a) λk u=>hf _ ω ω]; omega
def SJ:List Value:=Lib.deBruijn64tab.map λ(k:Nat)=>Value.int .u8 (k:Int)
def gA:az:=fo (some ⟨0,0,none⟩) SJ
theorem Vn {A:az} {w:aa4} (h:A (hp w)):St w [A]:=⟨hp w,λ_=>none,λ_=>.inr rfl,sub.refl _,λ_ _ h=>(nomatch h),h,trivial⟩
section
variable {w:aa4} {L:List az} {b:Nat} {n:Nat} {m:Nat->Bool}
theorem FN:WJ Tryz.prog nE [] [.pointer (some ⟨b,0,none⟩)] (WL b n m) gA (G0 (tZ n m)):=by
 intro l E hE J Jx L w0 h0 hQ hy
 have a9 : ∃ a c ws,Inv n ws m/\St w0 (J 0 :: aH b [.slice a ws.length c] :: own 1 a ws.length c (cw ws) :: L):=by
  obtain ⟨a,c,ws,hi,G⟩:=yy.1 h0.swap;exact ⟨a,c,ws,hi,G.H7⟩
 obtain ⟨a,c,ws,hi,a4⟩:=a9
 have back:∀ (A:az) w',St w' (A :: aH b [.slice a ws.length c] :: own 1 a ws.length c (cw ws) :: L)->St w' (A :: WL b n m :: L):=by
  intro A w' h;exact (yy.2 ⟨a,c,ws,hi,h.perm ((List.Perm.swap _ _ _).trans (List.Perm.cons _ (List.Perm.swap _ _ _)))⟩).swap
 have a6:∀ {A B C:az} {w'},St w' (A :: B :: C :: L)->St w' [gA]:=λ{A B C w'} h=>Vn (hQ _ (aY (aY (aY h))));refine sf E l ⟨b,0,none⟩ hE w0 _ ?_;refine ⟨a,ws.length,c,by rw [a4.swap.cell]; rfl,?_⟩
 refine ⟨λn1 w=>∃ j:Nat,n1 = j/\j<=ws.length/\St w (J (kZ (64 * j) m) :: aH b [.slice a ws.length c] :: own 1 a ws.length c (cw ws) :: L),λn1 _=>ws.length - n1.toNat,
  ⟨0,rfl,ω,by simpa [kZ] using a4⟩,?_⟩
 rintro _ n1 w1 ⟨j,rfl,hj,hs⟩;have b2:=hi.len;have hn:=hi.le
 refine ae (λR=>?_) λR=>?_
 ·have R:j < ws.length:=by have:=YR R; omega
  obtain ⟨ad,rfl⟩:=gV hs.H7 (by simp [cw]; omega);have hg:=Ck hs.H7 rfl (KM R);refine aw rfl R ⟨_,hg,?_⟩;have V:=Cm hi.lt j
  have z:∀ k,k < 64->m (64 * j + k) = (ws.getD j 0).testBit k:=λk hk=>by
   rw [hi.mm]; unfold mem;rw [show (64 * j + k) / 64 = j by omega,show (64 * j + k) % 64 = k by omega]
  generalize ws.getD j 0 = W at hg V z ⊢
  refine ⟨λn3 w=>∃ (r s:Nat),n3 = r/\r < 2 ^ 64/\s<=64/\(∀ k,r.testBit k = (decide (s<=k) && W.testBit k))/\St w (J (kZ (64 * j + s) m) :: aH b [.slice (some ad) ws.length c] :: own 1 (some ad) ws.length c (cw ws) :: L),λn3 _=>n3.toNat,
   ⟨W,0,rfl,V,ω,σ,by simpa using hs⟩,?_⟩
  rintro _ n3 w2 ⟨r,s,rfl,hr,b3,u,Y⟩
  refine ae (λG=>?_) λG=>?_
  ·have G:r≠0:=by simpa using G
   obtain ⟨k1,k2,k3,k4⟩:=Py G hr;have a7:ax (64 * (j:Int)):=⟨ω,ω⟩;refine ⟨a7,?_⟩;refine ((yx hr w2 (a6 Y)).YA hE).mono ?_;rintro _ _ ⟨rfl,rfl⟩;generalize Lib.ctz 64 r = k at k1 k2 k3 k4 ⊢;refine ⟨_,rfl,⟨ω,ω⟩,?_⟩
   have aI:s<=k/\W.testBit k = true:=by
    rw [u] at k2; simpa using k2
   have O:m (64 * j + k) = true:=by rw [z k k1]; exact aI.2
   have aa:64 * j + k < n:=Nat.lt_of_not_le λab=>by rw [hi.out _ ab] at O; cases O
   have U:kZ (64 * j + k) m = kZ (64 * j + s) m:=wK ω λq am a8=>by
    have Z:=k3 (q - 64 * j) ω;rw [u] at Z;have:s<=q - 64 * j:=ω
    have h4:=z (q - 64 * j) ω;rw [show 64 * j + (q - 64 * j) = q by omega] at h4;rw [h4]; simpa [this] using Z
   have b0:(G0 (tZ n m))[kZ (64 * j + s) m]? = some [.int .i64 ((64 * j + k:Nat):Int)]:=by
    unfold G0;rw [YW,<- U,Px aa O]; rfl
   have aT:(64 * (j:Int) + (k:Int)) = ((64 * j + k:Nat):Int):=ω
   rw [aT];obtain ⟨f',a0,b1,a1,y1,y2⟩:=hy _ _ b0 _ _ (λh hh=>aY (aY hh)) Y;refine ⟨f',a0,b1,a1,y1,RoundIn.mono y2 ?_⟩;rintro e w4 ⟨v,rfl,ac,hv⟩;refine ⟨v,rfl,ac,?_⟩
   have a5:kZ (64 * j + (k + 1)) m = kZ (64 * j + s) m + 1:=by
    rw [show 64 * j + (k + 1) = 64 * j + k + 1 by omega,tY,O,U]; rfl
   rcases hv with ⟨rfl,X⟩ | ⟨rfl,X⟩
   ·refine ⟨true,rfl,?_⟩
    have e1:IntKind.u64.wrap ((r:Int) - 1) = ((r - 1:Nat):Int):=by
     have:=wrap_u64 (r - 1) ω;rw [<- this]; congr 1; omega
    have e2:=Db (a:=r) (b:=r - 1) hr ω
    show (∃ r' s' : Nat,_/\_)/\_
    rw [e1,e2]
    refine ⟨⟨r &&& (r - 1),k + 1,rfl,Nat.and_lt_two_pow _ ω,ω,λq=>?_,?_⟩,?_⟩
    ·rw [k4,u]
     by_cases hq:q < k
     ·have Z:=k3 q hq;rw [u] at Z;rw [Z];have:¬ k + 1<=q:=ω
      simp [this]
     ·by_cases a3:q = k
      ·subst a3;have:¬ q + 1<=q:=ω
       simp [this]
      ·have h5:(q == k) = false:=by simp [a3]
       have h6:s<=q:=ω
       have h7:k + 1<=q:=ω
       simp [h5,h6,h7]
    ·rw [a5]; exact X
    ·show (((r &&& (r - 1):Nat):Int)).toNat < ((r:Nat):Int).toNat
     have:r &&& (r - 1)<=r - 1:=Nat.and_le_right;simp only [Za];omega
   ·refine ⟨false,rfl,?_⟩;exact .inr (back _ _ X)
  ·have G:r = 0:=by simpa using G
   subst G;refine ⟨⟨ω,ω⟩,⟨j + 1,σ,ω,?_⟩,bn R⟩
   have:kZ (64 * (j + 1)) m = kZ (64 * j + s) m:=wK ω λq am a8=>by
    have Z:=u (q - 64 * j);have h4:=z (q - 64 * j) ω;rw [show 64 * j + (q - 64 * j) = q by omega] at h4;rw [h4];have:s<=q - 64 * j:=ω
    simpa [this] using Z.symm
   rw [this]; exact Y
 ·have R:j = ws.length:=by have:=YS R; omega
  subst R;rw [SF hi,<- FM] at hs;refine .inl ?_;have:(G0 (tZ n m)).length = (tZ n m).length:=by simp [G0]
  rw [this];exact back _ _ hs
end
def pA (l:List Nat):List Value:=l.map λ(k:Nat)=>Value.int .i64 (k:Int)
theorem Pz {ks:List Nat} {i k:Nat} (h:ks[i]? = some k):pA (ks.take (i + 1)) = pA (ks.take i) ++ [.int .i64 (k:Int)]:=by
 unfold pA; rw [Y2,h]; simp
section
variable {w:aa4} {L:List az} {a:aa3} {l c:Nat} {p:aa3} {n:Nat} {m:Nat->Bool} {xs:List Int} {ws:List Nat}
theorem II {g:FuncId} {cap:List Value} {D Q:az} {ks:List Nat} {vs:List Value} (hg:Fn g = true) (hI:WJ Tryz.prog g [] cap D Q (G0 ks)) (hQ:∀ h,aD L h->Q h) (hb:l + ks.length<=1099511627776)
  (h:St w (own 1 a l c vs :: D :: L)) :
  ρ ly [.slice a l c,.func (.func g) #[] ⟨cap⟩] w λv w'=>∃ a' c',v = .slice a' (l + ks.length) c'/\St w' (own 1 a' (l + ks.length) c' (vs ++ pA ks) :: D :: L):=by
 refine kf ?_;refine ag h λb w1 h1=>bS.2 ⟨hg,?_⟩
 refine ⟨G0 ks,D,Q,λi=>ex λy:aa3 × Nat=>aC [aH b [.slice y.1 (l + i) y.2],own 1 y.1 (l + i) y.2 (vs ++ pA (ks.take i))],pu False,λ_=>pu False,L,?_,hQ,hI,?_,?_,?_,?_,trivial⟩
 ·refine St.ex.2 ⟨(a,c),St.flat.2 ?_⟩;simpa [pA] using h1
 ·intro x G;simp only [G0,Zh] at G;obtain ⟨k,_,rfl⟩:=G;exact ⟨_,rfl⟩
 ·intro i x G L' V _ O;refine ⟨_,O,λU w3 _ z=>?_⟩;obtain ⟨⟨R,c1⟩,z⟩:=St.ex.1 z;have z:=St.flat.1 z;have G:(G0 ks)[i]? = some [.int .i64 x]:=G
  obtain ⟨k,X,rfl⟩ : ∃ k,ks[i]? = some k/\x = (k:Int):=by
   unfold G0 at G;rw [YW] at G;cases hki:ks[i]? with
   | none=>rw [hki] at G; cases G
   | some k=>rw [hki] at G; simp at G; exact ⟨k,rfl,G.symm⟩
  have Z:=(YT.1 X).1;refine ⟨R,l + i,c1,by rw [z.cell]; rfl,?_⟩;refine ag z λb2 w4 W=>?_
  refine (jh aQ (rfl:aj Ty _ = .slice _) rfl rfl rfl W.H7 (n:=1) (news:=[.int .i64 (k:Int)]) ?_ ?_ ω).mono ?_
  ·refine fY aQ (rfl:aj Ty _ = .slice _) rfl (.inr ⟨_,rfl,λj u hj=>?_⟩) (λu Y=>?_)
   ·rw [aK,W.cell]; exact hj
   ·simp only [Zl] at Y; subst Y; rfl
  ·show (l + i + 1) * 8<=_; omega
  ·rintro _ w5 ⟨a',c',rfl,h5⟩;refine ⟨_,_,_,rfl,bj h5.H7 σ λw6 h6=>St.ex.2 ⟨(a',c'),St.flat.2 ?_⟩⟩;rw [Pz X,<- Y6];have h7:St w6 (aH b [.slice a' (l + i + 1) c'] :: own 1 a' (l + i + 1) c' (vs ++ pA (ks.take i) ++ [.int .i64 (k:Int)]) :: aH b2 [.int .i64 (k:Int)] :: U):=h6;exact h7.perm (List.Perm.refl _) |>.H7.tail
 ·intro V O;obtain ⟨⟨R,c1⟩,O⟩:=St.ex.1 O;have O:=St.flat.1 O;have e:(G0 ks).length = ks.length:=by simp [G0]
  rw [e,Zi] at O;refine ⟨R,_,c1,by rw [O.cell]; rfl,λw3 h3=>⟨R,c1,rfl,(O.eq h3).tail⟩⟩
 ·intro V O;exact (St.pu.1 O).1.elim
theorem NJ {g:FuncId} {cap:List Value} {D Q:az} {ks:List Nat} (hg:Fn g = true) (hI:WJ Tryz.prog g [] cap D Q (G0 ks)) (hQ:∀ h,aD L h->Q h) (hb:ks.length<=1099511627776) (h:St w (D :: L)) :
  ρ se [.func (.func g) #[] ⟨cap⟩] w λv w'=>∃ a' c',v = .slice a' ks.length c'/\St w' (own 1 a' ks.length c' (pA ks) :: D :: L):=by
 refine pf ?_;refine (II hg hI hQ (l:=0) ω (ay 1 h)).mono ?_;rintro _ w' ⟨a',c',rfl,u⟩;rw [ZV,Zz] at u;exact ⟨_,_,_,rfl,a',c',by rw [ZV],u⟩
end
theorem Vo (ks:List Nat):pA ks = iv (ks.map λ(k:Nat)=>(k:Int)):=by simp [pA,iv]
def YE:List az->List az
 | []=>[]
 | _ :: L=>L
def Mp:Nat->List az->List az
 | 0,L=>L
 | n + 1,L=>Mp n (YE L)
abbrev UF (L:List az) (n:Nat):List az:=Mp n L
theorem FO:∀ n,Mp n [] = []
 | 0=>rfl
 | n + 1=>FO n
def SK (i:Nat):List Nat->Bool
 | []=>false
 | j :: l=>Nat.beq i j || SK i l
theorem Mq (i:Nat):∀ l,SK i l = l.contains i
 | []=>rfl
 | j :: l=>by
  rw [SK,Mq i l,List.contains_cons]; congr 1; rw [ZI]; simp
def PA (L:List az):List Nat->List az->List az
 | [],T=>T
 | i :: is,T=>qm L i :: PA L is T
def XG (n:Nat):List Nat->Bool
 | []=>true
 | i :: is=>Nat.blt i n && !SK i is && XG n is
theorem Bn:∀ (n:Nat) (L:List az) (h:Hp),aD L h ->
  ∃ (f:Nat->Hp) (g:Hp),(∀ i j,i≠j->i < n->j < n->GC (f i) (f j))/\(∀ i,i < n->GC (f i) g)/\(∀ i,i < n->sub (f i) h)/\sub g h/\(∀ i,i < n->qm L i (f i))/\aD (UF L n) g
 | 0,L,h,hs=>⟨λ_=>h,h,λ_ _ _ hi=>absurd hi ω,λ_ hi=>absurd hi ω,λ_ hi=>absurd hi ω,sub.refl _,λ_ hi=>absurd hi ω,hs⟩
 | n + 1,[],h,hs=>⟨λ_ _=>none,h,λ_ _ _ _ _ _=>.inl rfl,λ_ _ _=>.inl rfl,λ_ _ _ _ h=>(nomatch h),sub.refl _,λ_ _=>trivial,by show aD (Mp n []) _; rw [FO]; trivial⟩
 | n + 1,A :: L,h,⟨h1,h2,d,s1,s2,ha,hl⟩=>by
  obtain ⟨f,g,f1,f2,f3,f4,f5,f6⟩:=Bn n L h2 hl
  refine ⟨λi=>match i with | 0=>h1 | i + 1=>f i,g,λi j hne hi hj=>?_,λi hi=>?_,λi hi=>?_,f4.trans s2,λi hi=>?_,f6⟩
  ·cases i with
   | zero=>cases j with
    | zero=>exact absurd rfl hne
    | succ j=>exact d.sub (sub.refl _) (f3 j ω)
   | succ i=>cases j with
    | zero=>exact (d.sub (sub.refl _) (f3 i ω)).symm
    | succ j=>exact f1 i j ω ω ω
  ·cases i with
   | zero=>exact d.sub (sub.refl _) f4
   | succ i=>exact f2 i ω
  ·cases i with
   | zero=>exact s1
   | succ i=>exact (f3 i ω).trans s2
  ·cases i with
   | zero=>exact ha
   | succ i=>exact f5 i ω
theorem Dj {L T:List az} {n:Nat} {f:Nat->Hp} {g h:Hp} (f1:∀ i j,i≠j->i < n->j < n->GC (f i) (f j)) (f2:∀ i,i < n->GC (f i) g) (f3:∀ i,i < n->sub (f i) h) (f4:sub g h)
  (f5:∀ i,i < n->qm L i (f i)) (f6:aD T g):∀ is:List Nat,XG n is = true->∃ u,sub u h/\aD (PA L is T) u/\∀ i,i < n->i∉is->GC (f i) u
 | [],_=>⟨g,f4,f6,λi hi _=>f2 i hi⟩
 | i :: is,hok=>by
  simp only [XG,Mq,Zd,aag,Nat.blt_eq] at hok
  obtain ⟨⟨hi,hni⟩,hok⟩:=hok
  have hni:i∉is:=by simpa using hni
  obtain ⟨u,u1,u2,u3⟩:=Dj f1 f2 f3 f4 f5 f6 is hok
  have d:=u3 i hi hni
  refine ⟨OM (f i) u,Ce (f3 i hi) u1,⟨f i,u,d,u_ _ _,va d,f5 i hi,u2⟩,λj hj hjn=>?_⟩
  simp only [Ze,not_or] at hjn
  exact (Cf (f1 i j (λe=>hjn.1 e.symm) hi hj) (u3 j hj hjn.2).symm).symm
theorem St.pick {w:aa4} {L:List az} (h:St w L) (n:Nat) (is:List Nat) (hok:XG n is = true:=by rfl):St w (PA L is (UF L n)):=by
 obtain ⟨f,g,f1,z,G,V,W,R⟩:=Bn n L _ h;obtain ⟨u,O,U,_⟩:=Dj f1 z G V W R is hok;exact fV U O
example {w:aa4} {A B C:az} {L:List az} (h:St w (A :: B :: C :: L)):St w (C :: A :: L):=h.pick 3 [2,0]
def Gr (w w' : aa4):Prop:=sub (hp w) (hp w')
theorem Gr.refl (w:aa4):Gr w w:=sub.refl _
theorem Gr.trans {a b c:aa4} (h:Gr a b) (k:Gr b c):Gr a c:=sub.trans h k
theorem Gr.of_eq {w w' : aa4} (h:hp w' = hp w):Gr w w':=by unfold Gr; rw [h]; exact sub.refl _
theorem St.gr {w w' : aa4} {L:List az} (h:St w L) (g:Gr w w'):St w' L:=fV h g
abbrev all (w:aa4):List az:=[has (hp w)]
theorem bH {h0 h:Hp} (s:sub h0 h):aD [has h0] h:=⟨h0,λ_=>none,λ_=>.inr rfl,s,λ_ _ h=>(nomatch h),sub.refl _,trivial⟩
theorem St.here {w:aa4} {h0:Hp} (s:sub h0 (hp w)):St w [Proofs.YtndaepmjkbmjmaaGreatDoor.has h0]:=bH s
theorem St.all (w:aa4):St w (Proofs.YtndaepmjkbmjmaaGreatDoor.all w):=bH (sub.refl _)
theorem Bo {L M N:List az} (hm:∀ h,aD M h->aD N h):∀ {h:Hp},aD (L ++ M) h->aD (L ++ N) h:=by
 induction L with
 | nil=>exact λh=>hm _ h
 | cons A L ih=>exact λ⟨U,O,d,z,u,G,R⟩=>⟨U,O,d,z,u,G,ih R⟩
theorem NK {L:List az} {h0:Hp} (hl:aD L h0):∀ h,aD [has h0] h->aD L h:=λh u=>fV hl (lQ u)
theorem St.on {w' : aa4} {N L:List az} {h0:Hp} (h:St w' (N ++ [Proofs.YtndaepmjkbmjmaaGreatDoor.has h0])) (hl:aD L h0):St w' (N ++ L):=Bo (NK hl) h
theorem St.nf {w' : aa4} {A:az} {L:List az} {h0:Hp} (h:St w' [A,Proofs.YtndaepmjkbmjmaaGreatDoor.has h0]) (hl:aD L h0):St w' (A :: L):=St.on (N:=[A]) h hl
theorem St.Mr {w' : aa4} {A B:az} {L:List az} {h0:Hp} (h:St w' [A,B,Proofs.YtndaepmjkbmjmaaGreatDoor.has h0]) (hl:aD L h0):St w' (A :: B :: L):=St.on (N:=[A,B]) h hl
theorem St.gone {w' : aa4} {N:List az} {h0:Hp} (h:St w' (N ++ [Proofs.YtndaepmjkbmjmaaGreatDoor.has h0])):sub h0 (hp w'):=by
 induction N with
 | nil=>exact lQ h
 | cons A N ih=>exact ih h.tail
theorem St.aW {w' : aa4} {A:az} {h0:Hp} (h:St w' [A,Proofs.YtndaepmjkbmjmaaGreatDoor.has h0]):sub h0 (hp w'):=St.gone (N:=[A]) h
theorem St.freeze {w:aa4} {A:az} {L:List az} (h:St w (A :: L)):∃ h0,aD L h0/\sub h0 (hp w)/\St w [A,Proofs.YtndaepmjkbmjmaaGreatDoor.has h0]:=by
 obtain ⟨U,z,d,G,u,O,R⟩:=h;exact ⟨z,R,u,U,z,d,G,u,O,bH (sub.refl _)⟩
theorem St.first {w:aa4} {A:az} {L:List az} (h:St w (A :: L)):∃ h1,sub h1 (hp w)/\A h1:=by
 obtain ⟨h1,O,d,u,G,z,R⟩:=h;exact ⟨h1,u,z⟩
def au (h:Hp) (a:Addr) (vs:List Value):Prop:=∀ j v,vs[j]? = some v->rJ h (a.add j) = some v
theorem au.mono {h h' : Hp} {a:Addr} {vs:List Value} (s:sub h h') (r:au h a vs):au h' a vs:=λj v u=>pz s (r j v u)
theorem au.cell {w:aa4} {h:Hp} {a:Addr} {vs:List Value} (r:au h a vs) (s:sub h (hp w)) {j:Nat} {v:Value} (hj:vs[j]? = some v):w.cell? (a.add j) = some v:=lB (pz s (r j v hj))
theorem au.cell0 {w:aa4} {h:Hp} {a:Addr} {v:Value} {vs:List Value} (r:au h a (v :: vs)) (s:sub h (hp w)):w.cell? a = some v:=by
 have:=r.cell s (j:=0) (v:=v) rfl;simpa [Addr.add] using this
theorem au.drop {h:Hp} {a:Addr} {us vs:List Value} (r:au h a (us ++ vs)):au h (a.add us.length) vs:=λj v u=>by
 rw [add_add]; exact r _ v (by rw [Y_ ω,ZS]; exact u)
theorem au.take {h:Hp} {a:Addr} {us vs:List Value} (r:au h a (us ++ vs)):au h a us:=λj v u =>
 r j v (by rw [Y8 (YT.1 u).1]; exact u)
theorem FP {w:aa4} {h:Hp} {a:Addr} (s:sub h (hp w)):∀ (vs:List Value) (i:Nat),au h (a.add i) vs->rowAt w a i vs.length = some vs
 | [],i,_=>rfl
 | v :: vs,i,r=>by
  have h1:w.cell? (a.add i) = some v:=r.cell0 s
  have h2:au h (a.add (i + 1)) vs:=by
   rw [<- add_add]; exact au.drop (us:=[v]) r
  simp only [ZC,rowAt,h1,FP s vs (i + 1) h2]
theorem au.at {w:aa4} {h:Hp} {a:Addr} {vs:List Value} {n:Nat} (r:au h a vs) (s:sub h (hp w)) (hn:vs.length = n):rowAt w a 0 n = some vs:=by
 subst hn; exact FP s vs 0 (by simpa [Addr.add] using r)
theorem qx {b:Nat} {vs:List Value} {h:Hp} (hc:aH b vs h):au h ⟨b,0,none⟩ vs:=λj v u=>by
 obtain ⟨e,z⟩:=hc
 rw [aK]; unfold rJ; simp only [z]; simpa using u
class qk (α : Type) where
 n:Nat
 rd:Hp->α->List Value->Prop
 mono:∀ {h h' : Hp} {x:α} {vs:List Value},sub h h'->rd h x vs->rd h' x vs
 len:∀ {h:Hp} {x:α} {vs:List Value},rd h x vs->vs.length = n
abbrev rd {α : Type} [qk α] (h:Hp) (x:α) (vs:List Value):Prop:=qk.rd h x vs
def bh {α : Type} [qk α] (h:Hp) (xs:List α) (a:aa3) (l:Nat):Prop :=
 xs.length = l/\∀ i x,xs[i]? = some x->∃ ad vs,a = some ad/\au h (ad.add (cE i (qk.n α))) vs/\rd h x vs
section
variable {α : Type} [qk α] {h h' : Hp} {w:aa4} {xs:List α} {a:aa3} {l:Nat}
theorem bh.mono (s:sub h h') (r:bh h xs a l):bh h' xs a l :=
 ⟨r.1,λi x z=>by obtain ⟨u,vs,R,G,O⟩:=r.2 i x z; exact ⟨u,vs,R,G.mono s,qk.mono s O⟩⟩
theorem bh.nil:bh h ([] : List α) a 0:=⟨rfl,λi x u=>by simp at u⟩
theorem bh.get (r:bh h xs a l) {i:Nat} (hi:i < l):∃ x ad vs,xs[i]? = some x/\a = some ad/\au h (ad.add (cE i (qk.n α))) vs/\rd h x vs:=by
 have u:i < xs.length:=by rw [r.1]; exact hi
 obtain ⟨ad,vs,O,z,G⟩:=r.2 i xs[i] (YU u);exact ⟨xs[i],ad,vs,YU u,O,z,G⟩
theorem bh.drop {k m:Nat} (r:bh h xs a l) (hk:k<=l) (hm:l<=m):bh h (xs.drop k) (fT a k m (qk.n α)) (l - k):=by
 refine ⟨by rw [Z9,r.1],λi x u=>?_⟩;rw [Zv] at u;have G:=(YT.1 u).1;obtain ⟨z,vs,rfl,O,R⟩:=r.2 _ x u;have U:=r.1
 refine ⟨z.add (cE k (qk.n α)),vs,?_,?_,R⟩
 ·unfold fT; rw [YZ ω]; rfl
 ·rw [add_add,aN,aN,<- Nat.add_mul,<- aN]; exact O
theorem bh.take {k:Nat} (r:bh h xs a l) (hk:k<=l):bh h (xs.take k) a k:=by
 refine ⟨by rw [Zj,r.1]; omega,λi x u=>?_⟩;rw [ZT] at u
 split at u
 ·exact r.2 i x u
 ·cases u
class t_ (α : Type) extends qk α where
 val:α->Value
 one:∀ {h:Hp} {x:α} {vs:List Value},rd h x vs↔vs = [val x]
 n1:n = 1
end
section
variable {α : Type} [t_ α] {h h' : Hp} {w:aa4} {xs:List α} {a:aa3} {l:Nat}
theorem bh.at (r:bh h xs a l) {i:Nat} {x:α} (hx:xs[i]? = some x):∃ ad,a = some ad/\∀ w,sub h (hp w)->w.cell? (ad.add i) = some (t_.val x):=by
 obtain ⟨ad,vs,G,u,z⟩:=r.2 i x hx;have:=t_.one.1 z;subst this;refine ⟨ad,G,λw s=>?_⟩;have:=u.cell0 s;rw [aN,t_.n1,Z4] at this;exact this
theorem bh.cY (r:bh h xs a l) {i:Nat} (hi:i < l):∃ x ad,xs[i]? = some x/\a = some ad/\∀ w,sub h (hp w)->w.cell? (ad.add i) = some (t_.val x):=by
 have u:i < xs.length:=by rw [r.1]; exact hi
 obtain ⟨ad,G,z⟩:=r.at (YU u);exact ⟨_,ad,YU u,G,z⟩
theorem eM (hl:xs.length = l) (hr:fo a (xs.map t_.val) h):bh h xs a l:=by
 refine ⟨hl,λi x z=>?_⟩
 rcases hr with R | ⟨G,rfl,O⟩
 ·have:xs = []:=by simpa using R
  subst this; simp at z
 ·refine ⟨G,[t_.val x],rfl,λj v u=>?_,t_.one.2 rfl⟩;cases j with
  | zero =>
   simp only [aaK,Option.some.injEq] at u;subst u;rw [aN,t_.n1,Z4];have:=O i (t_.val x) (by rw [YW,z]; rfl);simpa [add_add] using this
  | succ j=>simp at u
theorem bh.row (r:bh h xs a l):fo a (xs.map t_.val) h:=by
 cases xs with
 | nil=>exact .inl rfl
 | cons x0 xs' =>
  obtain ⟨z,vs,rfl,_⟩:=r.2 0 x0 rfl;refine .inr ⟨z,rfl,λj v u=>?_⟩;rw [YW] at u;cases hx:(x0 :: xs')[j]? with
  | none=>rw [hx] at u; cases u
  | some x =>
   rw [hx] at u; cases u;obtain ⟨G,vs,e,O,R⟩:=r.2 j x hx;cases e;have:=t_.one.1 R;subst this;have:=O 0 _ rfl;rw [aN,t_.n1,Z4] at this;simpa [add_add] using this
end
instance:t_ Int:={ n:=1,rd:=λ_ x vs=>vs = [.int .i64 x],mono:=λ_ h=>h,len:=λh=>by rw [h]; rfl,val:=λx=>.int .i64 x,one:=Iff.rfl,n1:=rfl }
instance:t_ Bool:={ n:=1,rd:=λ_ x vs=>vs = [.bool x],mono:=λ_ h=>h,len:=λh=>by rw [h]; rfl,val:=λx=>.bool x,one:=Iff.rfl,n1:=rfl }
instance:t_ ByteArray:={ n:=1,rd:=λ_ x vs=>vs = [.string x],mono:=λ_ h=>h,len:=λh=>by rw [h]; rfl,val:=λx=>.string x,one:=Iff.rfl,n1:=rfl }
instance {α : Type} [qk α] : qk (List α) :=
 { n:=1,rd:=λh xs vs=>∃ a l c,vs = [.slice a l c]/\l<=c/\bh h xs a l,mono:=λs ⟨a,l,c,h1,h3,h2⟩=>⟨a,l,c,h1,h3,h2.mono s⟩,len:=λ⟨_,_,_,h,_⟩=>by rw [h]; rfl }
def anyI:Int->Prop:=λz=>-9223372036854775808<=z/\z<=9223372036854775807
def bv (bs:List Bool):List Value:=bs.map λb=>Value.bool b
theorem eO {h:Hp} {xs:List Int} {a:aa3} {l:Nat} (hl:xs.length = l) (hr:fo a (iv xs) h):bh h xs a l:=eM hl hr
theorem mf {h:Hp} {xs:List Bool} {a:aa3} {l:Nat} (hl:xs.length = l) (hr:fo a (bv xs) h):bh h xs a l:=eM hl hr
theorem bh.iv {h:Hp} {xs:List Int} {a:aa3} {l:Nat} (r:bh h xs a l):fo a (Proofs.YtndaepmjkbmjmaaGreatDoor.iv xs) h:=r.row
theorem jl (xs:List Int):(iv xs).length = xs.length:=by simp [iv]
theorem n_ (xs:List Bool):(bv xs).length = xs.length:=by simp [bv]
theorem xd {w w' : aa4} (h:hp w' = hp w):sub (hp w) (hp w'):=Gr.of_eq h
def aV (bs:List Bool):Nat->Bool:=λk=>bs.getD k false
def mb (bs:List Bool):List Nat:=tZ bs.length (aV bs)
def dB (bs:List Bool):List Int:=(mb bs).map λ(k:Nat)=>(k:Int)
def bg (bs:List Bool):Nat:=kZ bs.length (aV bs)
def yz (n:Nat) (m:Nat->Bool):List Bool:=(List.range n).map m
def dC (bs:List Bool) (xs:List Int):List Bool:=yz bs.length (gv bs.length (aV bs) xs)
def hasB (bs:List Bool) (k:Int):Bool:=decide (0<=k) && aV bs k.toNat
def E0 (size:Int) (xs:List Int):List Bool:=dC (List.replicate (Kp size) false) xs
def cZ (bs:List Bool) (vss:List (List Bool)):List Bool:=vss.foldl (λb v=>dC b (dB v)) bs
theorem mg (n:Nat) (m:Nat->Bool):(yz n m).length = n:=by simp [yz]
theorem bR (bs:List Bool) (xs:List Int):(dC bs xs).length = bs.length:=mg _ _
theorem SL (size:Int) (xs:List Int):(E0 size xs).length = Kp size:=by simp [E0,bR]
theorem qy {bs:List Bool} {k:Nat} (h:bs.length<=k):aV bs k = false:=by
 unfold aV; rw [YX,Zf h]; rfl
theorem j3 {bs:List Bool} {k:Nat} {b:Bool} (h:bs[k]? = some b):aV bs k = b:=by
 unfold aV; rw [YX,h]; rfl
theorem yA {n:Nat} {m:Nat->Bool} (hm:∀ k,n<=k->m k = false):aV (yz n m) = m:=by
 funext k
 by_cases h:k < n
 ·exact j3 (by simp [yz,h])
 ·rw [qy (by rw [mg]; omega),hm k ω]
theorem Ms (bs:List Bool):yz bs.length (aV bs) = bs:=by
 apply ZK;intro k
 by_cases h:k < bs.length
 ·simp [yz,h,aV]
 ·rw [Zf (by rw [mg]; omega),Zf ω]
theorem ij {cs bs:List Bool} (hl:cs.length = bs.length) (h:∀ k,aV cs k = aV bs k):cs = bs:=by
 rw [<- Ms cs,<- Ms bs,hl]; congr 1; funext k; exact h k
theorem ik (bs:List Bool) (xs:List Int):aV (dC bs xs) = gv bs.length (aV bs) xs :=
 yA λk u=>by simp [gv,qy u]; omega
theorem lD (n k:Nat):aV (List.replicate n false) k = false:=by
 unfold aV; rw [YX,Z2]; split <;> rfl
theorem fZ (bs:List Bool):bg bs<=bs.length:=KN _ _
theorem qz (bs:List Bool):(dB bs).length = bg bs:=by rw [dB,Y3]; rfl
theorem Vp {bs:List Bool} {k:Nat}:k∈mb bs↔aV bs k = true:=by
 simp only [mb,tZ,ZA,Zo];refine ⟨λh=>h.2,λh=>⟨Nat.lt_of_not_le λu=>?_,h⟩⟩;rw [qy u] at h; cases h
theorem SM {bs:List Bool} {x:Int}:x∈dB bs↔hasB bs x = true:=by
 simp only [dB,Zh,Vp,hasB,Zd,Y7]
 constructor
 ·rintro ⟨k,h,rfl⟩; exact ⟨ω,h⟩
 ·rintro ⟨z,u⟩; exact ⟨_,u,ω⟩
theorem G1 {bs:List Bool} {k:Nat}:(dB bs).contains (k:Int) = aV bs k:=by
 rw [ZI,aat,SM];simp [hasB]
theorem Vq (bs:List Bool):iv (dB bs) = pA (mb bs):=by rw [dB,Vo]
theorem eR (bs vs:List Bool) (k:Nat):aV (dC bs (dB vs)) k = (aV bs k || (decide (k < bs.length) && aV vs k)):=by
 rw [ik,gv,G1]
theorem xf (vss:List (List Bool)):∀ bs,(cZ bs vss).length = bs.length:=by
 induction vss with
 | nil=>exact λ_=>rfl
 | cons v l ih=>exact λbs=>(ih _).trans (bR _ _)
theorem NL (vss:List (List Bool)):∀ (bs:List Bool) (k:Nat),aV (cZ bs vss) k = (aV bs k || (decide (k < bs.length) && vss.any λv=>aV v k)):=by
 induction vss with
 | nil=>intro bs k; simp [cZ]
 | cons v l ih =>
  intro bs k
  show aV (cZ (dC bs (dB v)) l) k = _
  rw [ih,bR,eR,List.any_cons];cases aV bs k <;> cases decide (k < bs.length) <;> simp
theorem IJ {vss:List (List Bool)} {bs v:List Bool} {j:Nat} (h:vss[j]? = some v):cZ bs (vss.take (j + 1)) = dC (cZ bs (vss.take j)) (dB v):=by
 unfold cZ; rw [Y2,h,List.foldl_append]; rfl
theorem NM {bs:List Bool} {xs:List Int} {j:Nat} {x:Int} (h:xs[j]? = some x):dC (dC bs (xs.take j)) [x] = dC bs (xs.take (j + 1)):=by
 refine ij (by simp [bR]) λk=>?_;rw [ik,ik,ik];simp only [gv,bR,bI h,nZ,List.contains_cons,List.contains_nil,Bool.or_false];cases aV bs k <;> cases decide (k < bs.length) <;> simp
theorem PB {n:Nat} {m m' : Nat->Bool} (h:∀ k,m k = true->m' k = true):kZ n m<=kZ n m':=by
 unfold kZ;rw [<- List.countP_eq_length_filter,<- List.countP_eq_length_filter];exact List.countP_mono_left λk _=>h k
theorem pB (bs:List Bool) (xs:List Int):bg bs<=bg (dC bs xs):=by
 unfold bg; rw [bR,ik];exact PB λk h=>by simp [gv,h]
def fp (p:aa3) (bs:List Bool):az:=yw p bs.length (aV bs)
def pC (h:Hp) (p:aa3) (bs:List Bool):Prop :=
 (p = none/\bs = [])\/∃ b a c ws,p = some ⟨b,0,none⟩/\Inv bs.length ws (aV bs)/\au h ⟨b,0,none⟩ [.slice a (List.length ws) c,.int .i64 (bs.length:Int)]/\fo a (cw ws) h
theorem fo.mono {h h' : Hp} {a:aa3} {vs:List Value} (s:sub h h') (r:fo a vs h):fo a vs h':=by
 rcases r with r | ⟨z,e,G⟩
 ·exact .inl r
 ·exact .inr ⟨z,e,λj v u=>pz s (G j v u)⟩
theorem pC.mono {h h' : Hp} {p:aa3} {bs:List Bool} (s:sub h h') (r:pC h p bs):pC h' p bs:=by
 rcases r with r | ⟨b,a,c,ws,O,z,G,u⟩
 ·exact .inl r
 ·exact .inr ⟨b,a,c,ws,O,z,G.mono s,u.mono s⟩
theorem G2 {h:Hp} {p:aa3} {bs:List Bool} (ho:fp p bs h):pC h p bs:=by
 rcases ho with ⟨z,u,_⟩ | ⟨b,a,c,ws,z,u,U⟩
 ·exact .inl ⟨z,Y9 u⟩
 ·obtain ⟨g1,X,d,V,O,R,Y,Z,d',G,s4,W,_⟩:=U;exact .inr ⟨b,a,c,ws,z,u,(qx R).mono V,(cP W).mono (G.trans O)⟩
theorem St.pC {w:aa4} {L:List az} {p:aa3} {bs:List Bool} (h:St w (fp p bs :: L)):pC (hp w) p bs:=by
 obtain ⟨z,s,u⟩:=h.first;exact (G2 u).mono s
theorem pC.le {h:Hp} {p:aa3} {bs:List Bool} (r:Proofs.YtndaepmjkbmjmaaGreatDoor.pC h p bs):bs.length<=1024:=by
 rcases r with ⟨_,rfl⟩ | ⟨b,a,c,ws,_,u,_⟩
 ·simp
 ·exact u.le
theorem PC {w:aa4} {L:List az} {p:aa3} {n:Nat} {m:Nat->Bool} (h:St w (yw p n m :: L)):St w (fp p (yz n m) :: L):=by
 unfold fp; rw [mg,yA λk u=>Pt h u]; exact h
instance:t_ (aa3):={ n:=1,rd:=λ_ x vs=>vs = [.pointer x],mono:=λ_ h=>h,len:=λh=>by rw [h]; rfl,val:=λx=>.pointer x,one:=Iff.rfl,n1:=rfl }
section
variable {w:aa4} {L:List az} {a:aa3} {l c:Nat} {p q:aa3} {bs cs:List Bool} {xs:List Int} {ws:List Nat}
theorem PD (h:St w (fp p bs :: L)) (hx:∀ h,aD L h->bh h xs a l) (hb:l<=4611686018427387904) :
  ρ tN [.pointer p,.slice a l c] w λv w'=>v = .int .i64 ((bg (dC bs xs):Int) - bg bs)/\St w' (fp p (dC bs xs) :: L):=by
 obtain ⟨h0,z,R,O⟩:=h.freeze;have hx:=hx h0 z;refine (UE (D:=has h0) (L:=[]) (λh G=>hx.iv.mono G) O hx.1 hb).mono ?_;rintro _ w' ⟨rfl,u⟩
 refine ⟨?_,?_⟩
 ·simp only [bg,bR,ik]
 ·have u:=PC u;exact u.nf z
theorem Vr (size:Int) (hx:bh (hp w) xs a l) (hb:l<=4611686018427387904) :
  ρ FI [.int .i64 size,.slice a l c] w λv w'=>∃ b,v = .pointer (some ⟨b,0,none⟩)/\St w' (fp (some ⟨b,0,none⟩) (E0 size xs) :: all w):=by
 refine (XV size (D:=has (hp w)) (L:=[]) (λh z=>hx.iv.mono z) (St.all w) hx.1 hb).mono ?_;rintro _ w' ⟨b,rfl,u⟩;refine ⟨b,rfl,?_⟩;have u:=PC u
 have e:yz (Kp size) (gv (Kp size) (λ_=>false) xs) = E0 size xs:=by
  unfold E0 dC;rw [Z7];congr 2
  funext k; exact (lD _ k).symm
 rw [e] at u;exact u
theorem UG (h:pC (hp w) p bs):ρ Dg [.pointer p] w λv w'=>∃ b,v = .func (.func nE) #[] #[.pointer (some ⟨b,0,none⟩)]/\St w' (WL b bs.length (aV bs) :: all w):=by
 refine z8 ?_;refine ag (St.all w) λb Y z=>?_
 rcases h with ⟨rfl,rfl⟩ | ⟨b2,a,c,ws,rfl,hi,G,u⟩
 ·refine ⟨b,rfl,yy.2 ⟨none,0,[],inv_zero (Y4 _),?_⟩⟩;exact (ay 1 z).swap
 ·have O:ws.length<=1024:=by rw [hi.len]; have:=hi.le; omega
  refine ⟨a,ws.length,c,G.cell0 z.aW,?_⟩
  refine (SI (D:=has (hp w)) (λh X=>u.mono X) z.swap O (λe=>?_)).mono ?_
  ·subst e
   rcases u with u | ⟨_,u,_⟩
   ·exact Vm u
   ·cases u
  rintro _ Z ⟨V,U,rfl,R⟩;refine ⟨_,_,_,rfl,?_⟩;refine bj R.H7 σ λw3 W=>?_;exact ⟨b,rfl,yy.2 ⟨V,U,ws,hi,W⟩⟩
theorem FQ (h:pC (hp w) p bs) (ht:gA (hp w)):ρ wT [.pointer p] w λv w'=>∃ a' c',v = .slice a' (bg bs) c'/\St w' (own 1 a' (bg bs) c' (iv (dB bs)) :: all w):=by
 refine tP ?_;have V:=h.le;have R:=fZ bs;refine (UG h).mono ?_;rintro _ O ⟨b,rfl,G⟩;refine ⟨_,_,rfl,?_⟩;refine (NJ (rfl:Fn _ = true) FN (λh u=>fo.mono (lQ u) ht) (by rw [FM]; show bg bs<=_; omega) G).mono ?_;rintro _ U ⟨a',c',rfl,z⟩;refine ⟨_,_,_,rfl,a',c',rfl,?_⟩;rw [Vq];exact z.swap.tail
theorem G3 (h:St w (own 1 a l c (iv xs) :: L)):bh (hp w) xs a l:=by
 have u:=jg h;obtain ⟨G,s,z⟩:=h.first;exact (eO (by simpa [iv] using u) (cP z)).mono s
end
theorem vd {bs cs:List Bool} (h:∀ k,aV cs k = true->aV bs k = true):dC bs (dB cs) = bs:=by
 refine ij (bR _ _) λk=>?_;rw [eR]
 cases hk:aV cs k
 ·simp
 ·simp [h k hk]
theorem E1 (bs:List Bool) (vss:List (List Bool)) (k:Nat) (h:aV bs k = true):aV (cZ bs vss) k = true:=by
 rw [NL,h]; rfl
theorem KO (vss:List (List Bool)):∀ bs,bg bs<=bg (cZ bs vss):=by
 induction vss with
 | nil=>exact λ_=>Zc _
 | cons v l ih=>exact λbs=>Zq (pB bs (dB v)) (ih _)
theorem Mt {ks:List Nat} {i:Nat} {us:List Value} (h:(G0 ks)[i]? = some us):∃ k,ks[i]? = some k/\us = [.int .i64 (k:Int)]:=by
 unfold G0 at h;rw [YW] at h;cases hk:ks[i]? with
 | none=>rw [hk] at h; cases h
 | some k=>rw [hk] at h; cases h; exact ⟨k,rfl,rfl⟩
theorem SN (ks:List Nat):(G0 ks).length = ks.length:=by simp [G0]
theorem SO {bs:List Bool} {i k:Nat} (h:(mb bs)[i]? = some k):(dB bs)[i]? = some (k:Int):=by simp [dB,h]
theorem mh {L:List az} {A:az}:∀ {h:Hp},A∈L->aD L h->∃ h1,sub h1 h/\A h1:=by
 induction L with
 | nil=>intro h u; simp at u
 | cons B L ih =>
  rintro h u ⟨h1,X,d,R,O,U,W⟩
  rcases Ze.1 u with rfl | u
  ·exact ⟨h1,R,U⟩
  ·obtain ⟨V,G,z⟩:=ih u W;exact ⟨V,G.trans O,z⟩
section
variable {w:aa4} {L:List az} {a:aa3} {l c:Nat} {p q:aa3} {bs cs:List Bool} {xs:List Int} {os:List (aa3)} {vss:List (List Bool)}
theorem Mu (h:St w (fp p bs :: L)) (hx:∀ h,aD L h->bh h os a l) (hv:vss.length = os.length) (ho:∀ h,aD L h->∀ (i:Nat) q v,os[i]? = some q->vss[i]? = some v->pC h q v\/(q = p/\v = bs))
  (ht:∀ h,aD L h->gA h) (hb:l<=4611686018427387904) :
  ρ Aa [.pointer p,.slice a l c] w λv w'=>v = .int .i64 ((bg (cZ bs vss):Int) - bg bs)/\St w' (fp p (cZ bs vss) :: L):=by
 obtain ⟨h0,Y,_,O⟩:=h.freeze;have hx:=hx h0 Y;have ho:=ho h0 Y;have ht:gA h0:=ht h0 Y;have hn:=h.pC.le;have done:∀ w',St w' (fp p (cZ bs vss) :: [has h0])->St w' (fp p (cZ bs vss) :: L):=λw' h=>h.nf Y;clear h Y;refine xc ?_;refine ag O λb1 w1 O=>ag O λb2 w2 O=>bj O σ λw3 O=>?_
 have cb:∀ j,bg (cZ bs (vss.take j))<=1024:=λj=>by
  have:=fZ (cZ bs (vss.take j)); rw [xf] at this; omega
 refine ⟨λn1 w=>∃ j:Nat,n1 = j/\j<=l/\St w [aH b2 [.int .i64 ((bg (cZ bs (vss.take j)):Int) - bg bs)],aH b1 [.pointer p],fp p (cZ bs (vss.take j)),has h0],λn1 _=>l - n1.toNat,
  ⟨0,rfl,ω,?_⟩,?_⟩
 ·show St w3 [aH b2 [.int .i64 ((bg bs:Int) - bg bs)],_,_,_]
  rw [Int.sub_self]; exact O
 rintro _ n1 w4 ⟨j,rfl,hj,W⟩
 refine ae (λu=>?_) λu=>?_
 ·have u:j < l:=by have:=YR u; omega
  obtain ⟨q,ad,hq,rfl,hc⟩:=hx.cY u;have Z:sub h0 (hp w4):=(W.pick 4 [3]).has;refine aw rfl u ⟨q,hc _ Z,?_⟩;obtain ⟨v,a1⟩ : ∃ v,vss[j]? = some v:=⟨vss[j]'(by rw [hv,hx.1]; omega),YU _⟩;have hU:=IJ (bs:=bs) a1;have a6:(cZ bs (vss.take j)).length = bs.length:=xf _ _;have a8:=cb j;have a3:=cb (j + 1);have c0:=KO (vss.take j) bs;have c1:=pB (cZ bs (vss.take j)) (dB v);rw [<- hU] at c1
  obtain ⟨z,a7,a0⟩ : ∃ z,pC (hp w4) q z/\dC (cZ bs (vss.take j)) (dB z) = cZ bs (vss.take (j + 1)):=by
   rcases ho j q v hq a1 with hr | ⟨rfl,rfl⟩
   ·exact ⟨v,hr.mono Z,hU.symm⟩
   ·refine ⟨cZ v (vss.take j),(W.pick 4 [2]).pC,?_⟩;rw [hU,vd λ_ h=>h,vd λk hk=>E1 _ _ _ hk]
  rw [<- a0] at c1 a3;generalize hU0:cZ bs (vss.take j) = U at *;refine (UG a7).mono ?_;rintro _ w5 ⟨b3,rfl,h5⟩;have R:=h5.nf W;refine ⟨_,_,rfl,bS.2 ⟨rfl,?_⟩⟩
  refine ⟨G0 (mb z),WL b3 z.length (aV z),gA,λi=>aC [aH b2 [.int .i64 ((bg (dC U ((dB z).take i)):Int) - bg bs)],aH b1 [.pointer p],fp p (dC U ((dB z).take i))],pu False,λ_=>pu False,[has h0],?_,(λh hh=>fo.mono (lQ hh) ht),FN,?_,?_,?_,?_,trivial⟩
  ·have h7:=R.pick 5 [1,2,3,0,4];have e:dC U [] = U:=ij (bR _ _) λk=>by rw [ik]; simp [gv]
   show St w5 [aC [aH b2 [.int .i64 ((bg (dC U []):Int) - bg bs)],_,fp p (dC U [])],_,_]
   rw [e];exact (St.flat.2 (show St w5 ([_,_,_] ++ [_,_]) from h7))
  ·intro x hx;obtain ⟨i,hi,rfl⟩:=List.mem_iff_getElem.1 hx;obtain ⟨k,_,e⟩:=Mt (YU hi);exact ⟨_,e⟩
  ·intro i x hx L' w6 _ a4;obtain ⟨k,hk,e⟩:=Mt hx;cases e;refine ⟨_,a4,λab w7 _ a5 w8 hd=>?_⟩;have V:=St.flat.1 (a5.drawn hd);refine ⟨λw=>w.cell? ⟨b2,0,none⟩ = some (.int .i64 ((bg (dC U ((dB z).take i)):Int) - bg bs))/\w.cell? ⟨b1,0,none⟩ = some (.pointer p),⟨V.cell 0,V.swap.cell 0⟩,_,λw h=>h.1,_,λw h=>h.2,?_⟩;refine ag V λb4 w9 h9=>⟨⟨h9.swap.cell 0,h9.H7.cell 0⟩,?_⟩
   refine (PD (xs:=[(k:Int)]) (l:=1) (h9.pick 4 [3,0,1,2]) (λh hh=>?_) ω).mono ?_
   ·obtain ⟨O,_,_,s1,_,⟨e,he⟩,_⟩:=hh;exact (eO (xs:=[(k:Int)]) rfl (.inr ⟨_,rfl,qx ⟨e,he⟩⟩)).mono s1
   ·rintro _ a9 ⟨rfl,G⟩;rw [NM (SO hk)] at G ⊢;have k1:=pB U ((dB z).take i);have k2:=fZ (dC U ((dB z).take i));have k3:=fZ (dC U ((dB z).take (i + 1)));rw [bR] at k2 k3;refine ⟨_,rfl,⟨(G.pick 4 [2]).cell 0,(G.pick 4 [3]).cell 0⟩,⟨ω,ω⟩,?_⟩;refine bj (G.pick 4 [2,3,0]) σ λaa X=>St.flat.2 ?_;have e:((bg (dC U ((dB z).take i)):Int) - bg bs + ((bg (dC U ((dB z).take (i + 1))):Int) - bg (dC U ((dB z).take i)))) = (bg (dC U ((dB z).take (i + 1))):Int) - bg bs:=ω
    rw [e] at X;exact X
  ·intro w6 R;refine ⟨⟨ω,ω⟩,⟨j + 1,σ,ω,?_⟩,bn u⟩;have e:(dB z).take (G0 (mb z)).length = dB z:=Zb (by rw [SN,qz]; exact Zc _);dsimp only at R;rw [e,a0] at R;exact (show St w6 [_,_,_,_,_] from St.flat.1 R).pick 5 [0,1,2,4]
  ·intro w6 R;exact (St.pu.1 R).1.elim
 ·have u:j = l:=by have:=YS u; omega
  subst u;rw [<- hx.1,<- hv,Zi] at W;refine ⟨_,W.cell 0,λw5 h5=>⟨rfl,done _ ?_⟩⟩;exact (W.eq h5).pick 4 [2,3]
end
section
theorem aq {a:aa3} {ad:Addr} {len i sz:Nat} {k:Addr->Prop} (ha:a = some ad) (hi:i < len) (hk:k (ad.add (cE i sz))):idx a len (i:Int) sz k :=
 ⟨ad,ha,ω,ω,by simpa using hk⟩
section
variable {P:Program} {w w' : aa4} {L:List az} {b:Nat} {us vs:List Value} {e e' : TypeId} {A B C D:az}
theorem aL {Ty:TypeId->Option dg} (hT:dP P Ty) {t tx ty:TypeId} {i:dg} {z:Value} (hk:aj Ty t = .slice e) (hkx:aj Ty tx = .slice e') (hi:Ty e = some i) (hz:i.zero = some z) (hzs:(cellsOf z).length = i.size)
  {a:aa3} {l c:Nat} (h:St w (aH b vs :: own i.size a l c us :: L)) (hv:vs.length = i.size) (h1:∀ u∈vs,aG u = true) (hb:(l + 1) * i.bytes<=140737488355328) (h63:l < 9223372036854775807) :
  bf P (Builtin.append_ (Array.mk [t,tx]) ty (Array.mk [.slice a l c,.slice (some ⟨b,0,none⟩) 1 1])) w λv w'=>∃ a' c',v = .slice a' (l + 1) c'/\St w' (own i.size a' (l + 1) c' (us ++ vs) :: aH b vs :: L):=by
 refine jh hT hk hi hz hzs h.swap (n:=1) (news:=vs) ?_ hb ω;refine fY hT hkx ω (.inr ⟨_,rfl,λj u G=>?_⟩) h1;rw [aK,h.cell]; exact G
end
theorem St.row {w:aa4} {L:List az} {b:Nat} {vs:List Value} (h:St w (aH b vs :: L)):au (hp w) ⟨b,0,none⟩ vs:=by
 obtain ⟨z,s,u⟩:=h.first;exact (qx u).mono s
theorem G4 {bs:List Bool} {j:Nat} (h:j < bs.length) (b:Bool) (k:Nat):aV (bs.set j b) k = if k = j then b else aV bs k:=by
 unfold aV;rw [YX,ZN]
 by_cases e:k = j
 ·subst e; simp [h]
 ·rw [YZ (λh=>e h.symm),YZ e,YX]
theorem vC {c:Bool} {a b:Prop} (h:c = true) (ha:a):br c a b:=by subst h; exact ha
theorem yB {c:Bool} {a b:Prop} (h:c = false) (hb:b):br c a b:=by subst h; exact hb
theorem dm {L:List az}:∀ {h:Hp} (i:Nat),i < L.length->aD L h->∃ h1,sub h1 h/\qm L i h1:=by
 induction L with
 | nil=>intro h i hi; simp at hi
 | cons A L ih =>
  rintro h i hi ⟨h1,W,d,O,G,R,U⟩;cases i with
  | zero=>exact ⟨h1,O,R⟩
  | succ i =>
   obtain ⟨V,z,u⟩:=ih i (by simpa using hi) U;exact ⟨V,z.trans G,u⟩
def yC:List az->Nat
 | []=>0
 | _ :: L=>yC L + 1
theorem il:∀ L,yC L = L.length
 | []=>rfl
 | _ :: L=>by simp [yC,il L]
theorem aR {L:List az} {h h0:Hp} (i:Nat) (hl:aD L h) (e:qm L i = has h0:=by rfl) (hi:Nat.blt i (yC L) = true:=by rfl):sub h0 h:=by
 obtain ⟨z,s,u⟩:=dm i (by simpa [il] using hi) hl;rw [e] at u;exact sub.trans u s
theorem St.l {w:aa4} {L:List az} (h:St w L):aD L (hp w):=h
theorem Vs {bs:List Bool} {k:Nat} (h:aV bs k = true):k < bs.length:=Nat.lt_of_not_le λu=>by rw [qy u] at h; cases h
section
variable {A B C:List Bool} {N:Nat} (hA:A.length = N) (hB:B.length = N) (hC:C.length = N)
include hA hB hC
end
theorem KP {M:List az}:∀ {i:Nat} {A:az},M[i]? = some A->M.Perm (A :: M.eraseIdx i):=by
 induction M with
 | nil=>intro i A h; simp at h
 | cons B M ih =>
  intro i A h;cases i with
  | zero=>simp at h; subst h; exact List.Perm.refl _
  | succ i=>exact (List.Perm.cons B (ih (by simpa using h))).trans (List.Perm.swap _ _ _)
theorem PE {M:List az} {B:az}:∀ {i:Nat} {A:az},M[i]? = some A->(M.set i B).Perm (B :: M.eraseIdx i):=by
 induction M with
 | nil=>intro i A h; simp at h
 | cons C M ih =>
  intro i A h;cases i with
  | zero=>exact List.Perm.refl _
  | succ i=>exact (List.Perm.cons C (ih (A:=A) (by simpa using h))).trans (List.Perm.swap _ _ _)
section
variable {w:aa4} {L M:List az} {A B:az} {i:Nat}
theorem St.out (h:St w (aC M :: L)) (hi:M[i]? = some A):St w (A :: aC (M.eraseIdx i) :: L):=by
 have u:St w (M.eraseIdx i ++ A :: L):=(St.flat.1 h).perm (((KP hi).append_right L).trans ZQ.symm);exact (St.flat.2 u).swap
theorem St.back (h:St w (B :: aC (M.eraseIdx i) :: L)) (hi:M[i]? = some A):St w (aC (M.set i B) :: L):=by
 have u:=St.flat.1 h.swap;exact St.flat.2 (u.perm (ZQ.trans ((PE hi).symm.append_right L)))
theorem St.snoc (h:St w (A :: aC M :: L)):St w (aC (M ++ [A]) :: L):=by
 have u:=St.flat.1 h.swap;exact St.flat.2 (by rw [Y6]; exact u)
end
theorem Mv {α β : Type} (f:α->β->az) {ps:List α} {vs:List β} {i:Nat} {p:α} {v' : β} (hp:ps[i]? = some p):(List.zipWith f ps vs).set i (f p v') = List.zipWith f ps (vs.set i v'):=by
 apply ZK;intro k;rw [ZN,aau,aau,ZN,List.length_zipWith]
 by_cases u:i = k
 ·subst u;rw [Y5 rfl,Y5 rfl,hp];have:=(YT.1 hp).1
  by_cases z:i < vs.length
  ·simp [z]; omega
  ·simp [z]; omega
 ·rw [YZ u,YZ u]
def bk (p:Nat):aa3:=some ⟨p,0,none⟩
def pv (os:List (aa3)):List Value:=os.map λo=>Value.pointer o
def jL (ps:List Nat) (vss:List (List Bool)):List az:=List.zipWith (λp v=>fp (bk p) v) ps vss
theorem XW {L:List az} {h:Hp} {ps:List Nat} {vss:List (List Bool)} {k m p:Nat} {v:List Bool} (i:Nat) (hl:aD L h) (hp:ps[k]? = some p) (hv:vss[k]? = some v) (hk:k≠m) (e:qm L i = aC ((jL ps vss).eraseIdx m):=by rfl) (hi:Nat.blt i (yC L) = true:=by rfl):pC h (bk p) v:=by
 obtain ⟨R,s,u⟩:=dm i (by simpa [il] using hi) hl;rw [e] at u;obtain ⟨O,z,G⟩:=mh (A:=fp (bk p) v) (List.mem_eraseIdx_iff_getElem?.2 ⟨k,hk,by unfold jL; rw [aau,hp,hv]⟩) u;exact (G2 G).mono (z.trans s)
theorem Vt {L:List az} {h:Hp} {a:aa3} {l c:Nat} {os:List (aa3)} (i:Nat) (hl:aD L h) (e:qm L i = own 1 a l c (pv os):=by rfl) (hi:Nat.blt i (yC L) = true:=by rfl):os.length = l->bh h os a l:=λz=>by
 obtain ⟨G,s,u⟩:=dm i (by simpa [il] using hi) hl
 rw [e] at u
 exact (eM z (cP u)).mono s
theorem ah {L:List az} {h:Hp} {b:Nat} {vs:List Value} (i:Nat) (hl:aD L h) (e:qm L i = aH b vs:=by rfl) (hi:Nat.blt i (yC L) = true:=by rfl):au h ⟨b,0,none⟩ vs:=by
 obtain ⟨z,s,u⟩:=dm i (by simpa [il] using hi) hl;rw [e] at u;exact (qx u).mono s
open MapKept
class MVal (κ : Type) where
 val:κ->Value
 inj:∀ a b:κ,val a = val b->a = b
class yD (κ : Type) [DecidableEq κ] extends MVal κ where
 kd:TypeDesc
 now:∀ a b:κ,Instr.sameNow kd (val a) (val b) = some (decide (a = b))
 key:∀ a,IsKey kd (val a)
 bits:∀ a,Instr.sameBits 10000 (val a) (val a) = true
instance:yD Int:={ kd:=.int .i64,val:=λx=>.int .i64 x,inj:=λa b h=>by injection h,now:=λa b=>by simp [Instr.sameNow]; rfl,key:=λ_=>rfl,bits:=λa=>by simp [Instr.sameBits] }
instance:yD ByteArray:={ kd:=.string,val:=λx=>.string x,inj:=λa b h=>by injection h,now:=λa b=>by simp only [Instr.sameNow,Option.some.injEq]; rw [ZI,Y7]; exact bytes_beq a b,key:=λ_=>trivial,bits:=λa=>by simp only [Instr.sameBits]; exact (bytes_beq a a).2 rfl }
section
variable {κ : Type} [DecidableEq κ] {P:Program} {w:aa4} {L:List az}
def assoc (k:κ):List (κ × Value)->Option Value
 | []=>none
 | (a,v) :: m=>if k = a then some v else assoc k m
def bU (k:κ) (v:Value):List (κ × Value)->List (κ × Value)
 | []=>[(k,v)]
 | (a,u) :: m=>if k = a then (k,v) :: m else (a,u) :: bU k v m
theorem dU (k a:κ) (v:Value):∀ m,assoc a (bU k v m) = if a = k then some v else assoc a m
 | []=>by simp [bU,assoc]
 | (b,u) :: m=>by
  unfold bU
  by_cases h:k = b
  ·subst h
   by_cases ha:a = k
   ·simp [assoc,ha]
   ·simp [assoc,ha]
  ·rw [YZ h]
   by_cases hab:a = b
   ·subst hab
    simp [assoc,aaw h]
   ·simp [assoc,hab,dU k a v m]
theorem Dk (k:κ) (v:Value):∀ m,(bU k v m).length = if (assoc k m).isSome then m.length else m.length + 1
 | []=>rfl
 | (b,u) :: m=>by
  unfold bU assoc
  by_cases h:k = b
  ·simp [h]
  ·simp only [YZ h,ZC,Dk k v m]
   split <;> rfl
variable [MVal κ]
structure wL (es:Array MapEntry) (clock:Nat) (m:List (κ × Value)):Prop where
 eq:es.toList.map (λe=>(e.key,e.val)) = m.map λx=>(MVal.val x.1,x.2)
 nd:(es.toList.map (·.born)).Nodup
 lt:∀ e∈es.toList,e.born < clock
def mapA (b:Nat) (m:List (κ × Value)):az:=λh=>∃ es clock,h b = some (.map es clock)/\wL es clock m
theorem j4 {b:Nat} {m:List (κ × Value)}:St w (mapA b m :: L)↔∃ es clock,wL es clock m/\St w (blk b (.map es clock) :: L) :=
 ⟨λ⟨V,O,d,z,u,⟨es,cl,G,U⟩,R⟩=>⟨es,cl,U,V,O,d,z,u,G,R⟩,λ⟨es,cl,U,V,O,d,z,u,G,R⟩=>⟨V,O,d,z,u,⟨es,cl,G,U⟩,R⟩⟩
theorem dV {b:Nat} (h:St w (blk b (.map #[] 0) :: L)):St w (mapA b ([] : List (κ × Value)) :: L):=j4.2 ⟨_,_,⟨rfl,σ,σ⟩,h⟩
structure W2 (k:κ) (m:List (κ × Value)) (r:Option (Nat × Value)):Prop where
 eq:(r.map (·.2)) = assoc k m
 at' : ∀ j v,r = some (j,v)->j < m.length/\(m[j]?).map (·.1) = some k/\∀ u,bU k u m = m.set j (k,u)
 no:r = none->∀ u,bU k u m = m ++ [(k,u)]
structure ua (P:Program) (kt:TypeId) (κ : Type) [DecidableEq κ] [MVal κ] : Prop where
 check:∀ (w:aa4) (em:Bool) (k:κ),(Instr.checkKey em 10000 kt (MVal.val k)).run P w = .ok () w
 find:∀ (w:aa4) (k:κ) (es:List MapEntry) (m:List (κ × Value)),es.map (λe=>(e.key,e.val)) = m.map (λx=>(MVal.val x.1,x.2))->∃ r,(Instr.findKey kt (MVal.val k) es).run P w = .ok r w/\W2 k m r
 bits:∀ k:κ,Instr.sameBits 10000 (MVal.val k) (MVal.val k) = true
end
section
variable {κ : Type} [DecidableEq κ] {P:Program} {w:aa4} {L:List az}
theorem Dl [yD κ] (k:κ):∀ (es:List MapEntry) (m:List (κ × Value)) (i:Nat),es.map (λe=>(e.key,e.val)) = m.map (λx=>(MVal.val x.1,x.2)) ->
  ∃ r,Instr.findNow (yD.kd κ) (MVal.val k) es i = some r/\(r.map (·.2)) = assoc k m/\(∀ j v,r = some (j,v)->i<=j/\j < i + m.length/\(m[j - i]?).map (·.1) = some k/\∀ u,bU k u m = m.set (j - i) (k,u))/\(r = none->∀ u,bU k u m = m ++ [(k,u)])
 | [],[],i,_=>⟨none,rfl,rfl,λj v h=>(by cases h),λ_ u=>rfl⟩
 | [],_ :: _,i,h=>by simp at h
 | _ :: _,[],i,h=>by simp at h
 | e :: es,(a,v) :: m,i,h=>by
  simp only [ZF,List.cons.injEq,Prod.mk.injEq] at h
  obtain ⟨⟨h1,h2⟩,h3⟩:=h
  unfold Instr.findNow
  rw [h1,yD.now]
  by_cases hk:k = a
  ·subst hk
   refine ⟨some (i,e.val),σ,by simp [assoc,h2],λj u hj=>?_,λhn=>by cases hn⟩
   cases hj
   simp [bU]
  ·obtain ⟨r,q1,q2,q3,q4⟩:=Dl k es m (i + 1) h3
   refine ⟨r,by simp [hk,q1],by simp [assoc,hk,q2],λj u hj=>?_,λhn u=>by simp [bU,hk,q4 hn u]⟩
   obtain ⟨p1,p2,p3,p4⟩:=q3 j u hj
   have e1:j - i = (j - (i + 1)) + 1:=ω
   refine ⟨ω,by simp; omega,by rw [e1]; simpa using p3,λu=>by rw [e1]; simp [bU,hk,p4 u]⟩
theorem ua.Dm [yD κ] {kt:TypeId} (hkt:P.underlying kt = some (yD.kd κ)):ua P kt κ where
 check:=λw W k=>run_checkKey (P:=P) (w:=w) hkt (yD.key k) W 9999
 find:=λw k es m V=>by
  obtain ⟨r,O,U,X,R⟩:=Dl k es m 0 V
  refine ⟨r,run_findKey (P:=P) (w:=w) hkt O,U,λj v G=>?_,R⟩
  obtain ⟨_,Y,z,u⟩:=X j v G
  rw [Nat.sub_zero] at z u
  exact ⟨ω,z,u⟩
 bits:=yD.bits
variable [MVal κ]
variable {Ty:TypeId->Option dg}
theorem yE {d:TypeDesc} {k e:TypeId} (h:Kd.map k e = fb d):d = .map k e:=by cases d <;> simp [fb] at h; obtain ⟨rfl,rfl⟩:=h; rfl
theorem nH (hT:dP P Ty) {t kt et:TypeId} {i:dg} {z:Value} (hk:aj Ty t = .map kt et) (hkt:ua P kt κ) (hi:Ty et = some i) (hz:i.zero = some z) {b:Nat} {m:List (κ × Value)} (h:St w (mapA b m :: L)) (k:κ) :
  bf P (Instr.lookup t (.map (some b)) (MVal.val k) false) w λv w'=>v = (assoc k m).getD z/\w' = w:=by
 obtain ⟨d,O,u⟩:=db hT hk σ;rw [yE u] at O;obtain ⟨es,cl,⟨X,_,_⟩,h⟩:=j4.1 h;obtain ⟨r,hf,W,_,_⟩:=hkt.find w k es.toList m X;obtain ⟨U,Z,R⟩:=oV hT hi;have G:(zeroValue et).run P w = .ok z w:=j9 R.inf (by rw [<- R.zero,hz]);refine ⟨_,w,?_,Ev.refl w,rfl,rfl⟩;have V:=h.get;have Y:=λe=>hkt.check w e k;unfold Instr.lookup;simp only [Sem.run_bind,aZ O,Result.andThen_ok,run_getObj_map w b es cl V,Sem.run_pure,Y,hf];rw [<- W];cases r with
 | none=>simp [G]
 | some x=>simp
theorem nI (hT:dP P Ty) {t kt et:TypeId} (hk:aj Ty t = .map kt et) (hkt:ua P kt κ) {b:Nat} {m:List (κ × Value)} (h:St w (mapA b m :: L)) (k:κ) (v:Value) :
  bf P (Instr.mapUpdate t (.map (some b)) (MVal.val k) v) w λ_ w'=>St w' (mapA b (bU k v m) :: L):=by
 obtain ⟨d,hd,a0⟩:=db hT hk σ;rw [yE a0] at hd;obtain ⟨es,cl,⟨X,W,O⟩,h⟩:=j4.1 h;obtain ⟨r,hf,q2,q3,q4⟩:=hkt.find w k es.toList m X;have Z:=h.get;have hc:=λe=>hkt.check w e k;have a3:es.size = m.length:=by have:=congrArg List.length X; simpa using this
 have ev:∀ o:Array MapEntry × Nat,Ev w { w with heap:=w.heap.setIfInBounds b (.map o.1 o.2) }:=λo=>by
  refine ⟨rfl,rfl,rfl,σ,?_,?_⟩ <;>
  ·intro x d G;rw [aad]; exact G;intro e; subst e; rw [Z] at G; cases G
 cases r with
 | none =>
  refine ⟨(),_,?_,ev (es.push { key:=MVal.val k,val:=v,born:=cl },cl + 1),j4.2 ⟨_,_,?_,h.setObj _⟩⟩
  ·unfold Instr.mapUpdate;simp only [Sem.run_bind,aZ hd,Result.andThen_ok,run_getObj_map w b es cl Z,hc,hf];exact run_setObj_map _ Z
  ·refine ⟨by rw [q4 rfl v]; simp [X],?_,?_⟩
   ·rw [Array.toList_push,Zg,ZE];refine ⟨W,σ,λa ha b hb e=>?_⟩;obtain ⟨x,G,rfl⟩:=Zh.1 ha;have:=O x G;simp at hb; omega
   ·intro e z;rw [Array.toList_push,YY,Zl] at z
    rcases z with z | rfl
    ·have:=O e z; omega
    ·exact Nat.lt_succ_self _
 | some x =>
  obtain ⟨j,u⟩:=x;obtain ⟨p2,Y,p4⟩:=q3 j u rfl;have hj:j < es.size:=ω
  have U:((es[j]?).map (·.key)).getD (MVal.val k) = MVal.val k:=by
   have R:=congrArg (λl=>l[j]?) X;simp only [YW] at R;cases hm:m[j]? with
   | none=>rw [hm] at Y; cases Y
   | some y =>
    rw [hm] at Y R;simp only [ZY,Option.some.injEq] at Y;have a1:j < es.toList.length:=by simpa using hj
    rw [YU a1] at R;simp only [ZY,Option.some.injEq,Prod.mk.injEq] at R;simp [hj];have:=R.1;rw [Y] at this;simpa using this
  refine ⟨(),_,?_,ev (es.modify j λe=>{ e with key:=MVal.val k,val:=v },cl),j4.2 ⟨_,_,?_,h.setObj _⟩⟩
  ·unfold Instr.mapUpdate;simp only [Sem.run_bind,aZ hd,Result.andThen_ok,run_getObj_map w b es cl Z,hc,hf,U,Instr.keyThatStays,hkt.bits,if_true,Sem.run_pure];exact run_setObj_map _ Z
  ·refine ⟨?_,?_,?_⟩
   rotate_left
   ·have:(es.modify j λe=>{ e with key:=MVal.val k,val:=v }).toList.map (·.born) = es.toList.map (·.born):=by
     apply ZK;intro i;simp only [YW,ZD,ZW]
     split
     ·cases es[i]? <;> rfl
     ·rfl
    rw [this]; exact W
   ·intro e z;obtain ⟨i,hi⟩:=Zr z;rw [ZD,ZW] at hi
    split at hi
    ·cases G:es[i]? with
     | none=>rw [G] at hi; cases hi
     | some x=>rw [G] at hi; cases hi; exact O x (by rw [<- ZD] at G; exact YV G)
    ·rw [<- ZD] at hi; exact O e (YV hi)
   rw [p4 v];apply ZK;intro i;have R:=congrArg (λl=>l[i]?) X;simp only [YW,ZD] at R;simp only [YW,ZD,ZW,ZN]
   by_cases V:j = i
   ·subst V;simp [hj,p2] <;> omega
   ·simp [V,R]
theorem SP (hT:dP P Ty) {t kt et ty:TypeId} (hk:aj Ty t = .map kt et) {b:Nat} {m:List (κ × Value)} (h:St w (mapA b m :: L)):(Builtin.len_ #[t] ty #[.map (some b)]).run P w = .ok (.int .i64 (m.length:Int)) w:=by
 obtain ⟨d,G,z⟩:=db hT hk σ;rw [yE z] at G;obtain ⟨es,cl,⟨R,_,_⟩,h⟩:=j4.1 h;have u:es.size = m.length:=by have:=congrArg List.length R; simpa using this
 have O:=h.get;simp [Builtin.len_,run_underlying G,run_getObj_map w b es cl O,u,goInt]
end
section
variable {κ : Type} [DecidableEq κ] [yD κ] {P:Program} {w:aa4} {L:List az} {Ty:TypeId->Option dg}
theorem cF (hT:dP P Ty) {t kt et:TypeId} {i:dg} {z:Value} (hk:aj Ty t = .map kt et) (hkt:P.underlying kt = some (yD.kd κ)) (hi:Ty et = some i) (hz:i.zero = some z) {b:Nat} {m:List (κ × Value)} (h:St w (mapA b m :: L)) (k:κ) :
  bf P (Instr.lookup t (.map (some b)) (MVal.val k) false) w λv w'=>v = (assoc k m).getD z/\w' = w:=nH hT hk (ua.Dm hkt) hi hz h k
theorem dr (hT:dP P Ty) {t kt et:TypeId} (hk:aj Ty t = .map kt et) (hkt:P.underlying kt = some (yD.kd κ)) {b:Nat} {m:List (κ × Value)} (h:St w (mapA b m :: L)) (k:κ) (v:Value) :
  bf P (Instr.mapUpdate t (.map (some b)) (MVal.val k) v) w λ_ w'=>St w' (mapA b (bU k v m) :: L):=nI hT hk (ua.Dm hkt) h k v
end
def gB (s:ByteArray) (i:Nat):Nat:=(sb s i).toNat
theorem Vu (s:ByteArray) (i:Nat):gB s i < 256:=(sb s i).toNat_lt
theorem Vv {s:ByteArray} {i:Nat} (h:i < s.size):sb s i = s[i]'h:=by
 unfold sb;have:i < s.data.size:=h;rw [Array.getElem?_eq_getElem this]; rfl
theorem toList_data (s:ByteArray):s.toList = s.data.toList:=by rw [ByteArray.toList_eq]
theorem yF (x y:ByteArray):(x.toList == y.toList) = decide (x = y):=by
 rw [ZI,aaR,Y7,toList_data,toList_data];exact ⟨λh=>WideShapes.bytes_inj h,λh=>by rw [h]⟩
theorem IK (x:ByteArray):(x.toList == ByteArray.toList (ByteArray.mk (Array.mk []))) = decide (x.size = 0):=by
 rw [yF,ZI,Y7,Y7]
 constructor
 ·rintro rfl; rfl
 ·intro h;refine WideShapes.bytes_inj ?_;have:x.data.toList.length = 0:=by simpa using h
  rw [Y9 this]
def HY (c:Nat):Bool:=decide (32<=c) && decide (c<=126) && !decide (c = 39)
def dO (s:ByteArray):Bool:=decide (1<=s.size) && decide (s.size<=16) && (List.range s.size).all λi=>HY (gB s i)
def KQ (i c:Nat):Bool:=decide (c = 95) || (decide (65<=c) && decide (c<=90)) || (decide (97<=c) && decide (c<=122)) || (decide (i≠0) && decide (48<=c) && decide (c<=57))
def dD (s:ByteArray):Bool:=decide (1<=s.size) && decide (s.size<=16) && (List.range s.size).all λi=>KQ i (gB s i)
theorem ve {n:Nat} {p:Nat->Bool}:(List.range n).all p = true↔∀ i,i < n->p i = true:=by
 simp
theorem NN (s:ByteArray) (pos:Nat) (h:pos < s.size) (hb:128<=(s[pos]'h).toNat):128<=(Utf8.decode s pos).1:=by
 have e:s.get! (pos + 0) = s[pos]'h:=by
  show s.get! pos = _
  simp [ByteArray.get!,getElem!_pos,h];rfl
 have z:128<=(s.get! (pos + 0)).toNat:=by rw [e]; exact hb
 have u:∀ k,(s.get! (pos + k)).toNat < 256:=λk=>(s.get! (pos + k)).toNat_lt;have h0:=u 0; have R:=u 1; have G:=u 2; have O:=u 3;simp only [Utf8.decode]
 repeat' split
 all_goals simp_all [Utf8.runeError]
 all_goals omega
theorem wrap_u8 (n:Nat) (h:n < 256):IntKind.u8.wrap (n:Int) = n:=by
 have:(n:Int) % (256:Int) = n:=Int.emod_eq_of_lt ω ω;simp [IntKind.wrap,IntKind.signed,IntKind.bits,this]
theorem PF {a b:Nat} (ha:a < 256) (hb:b < 256):l5 .or .u8 (a:Int) (b:Int) = ((a ||| b:Nat):Int):=by
 show IntKind.u8.wrap (((BitVec.ofInt 8 (a:Int)) ||| (BitVec.ofInt 8 (b:Int))).toNat:Int) = _
 have e:∀ n:Nat,BitVec.ofInt 8 (n:Int) = BitVec.ofNat 8 n:=λn=>by apply BitVec.eq_of_toNat_eq; simp
 rw [e,e,BitVec.toNat_or,BitVec.toNat_ofNat,BitVec.toNat_ofNat,Nat.mod_eq_of_lt ha,Nat.mod_eq_of_lt hb];exact wrap_u8 _ (Nat.or_lt_two_pow (n:=8) ha hb)
theorem XX:∀ c:Fin 256,(decide (97<=(c.val ||| 32)) && decide ((c.val ||| 32)<=122)) = ((decide (65<=c.val) && decide (c.val<=90)) || (decide (97<=c.val) && decide (c.val<=122))):=by decide +kernel
instance instRepList1 {α : Type} [qk α] : qk (List α):=inferInstance
def Mw (xs:List Int):Prop:=∀ i x y,xs[i]? = some x->xs[i + 1]? = some y->x<=y
end
section
variable {w:aa4} {L:List az} {a:aa3} {l c:Nat} {s:ByteArray} {ss:List ByteArray} {xs:List Int}
theorem NO (r:Int):ρ jO [.int .i32 r] w λv w'=>v = .bool (decide (r < 32) || decide (126 < r) || (r == 39))/\w' = w:=by
 refine xa ?_;refine ae (λh=>⟨by rw [h]; rfl,rfl⟩) λh=>ae (λu=>⟨by rw [h,u]; rfl,rfl⟩) λu=>⟨by rw [h,u]; rfl,rfl⟩
theorem IL (hs:s.size<=4611686018427387904):ρ vy [.string s,.func (.func jO) #[] #[]] w λv w'=>(∃ n:Int,v = .int .i64 n/\(decide (n < 0) = (List.range s.size).all λi=>HY (gB s i)))/\Gr w w':=by
 refine sk ?_
 have key:ρ vz [.string s,.func (.func jO) #[] #[],.bool true] w λv w'=>(∃ n:Int,v = .int .i64 n/\(decide (n < 0) = (List.range s.size).all λi=>HY (gB s i)))/\Gr w w':=by
  refine sx ?_;have h0:=St.all w;refine ⟨_,_,run_range_string w 9 s Tryz.underlying9,Ev.push _ _,_,rfl,?_⟩;have h1:=h0.push (.stringIter s 0);generalize w.heap.size = b at h1;refine ⟨λw'=>∃ p,p<=s.size/\(∀ i,i < p->HY (gB s i) = true)/\St w' (blk b (.stringIter s p) :: all w),λw'=>s.size - w'.iterPos b,⟨0,ω,λi hi=>ω,h1⟩,?_⟩;rintro _ G ⟨p,hp,O,Y⟩;have W:=Y.get
  by_cases u:p < s.size
  ·have a0:Ev G (G.iterAt b s (p + (Utf8.decode s p).2)):=by
    refine ⟨rfl,rfl,rfl,by simp [World.iterAt],?_,?_⟩ <;>
    ·intro x d hx;simp only [World.iterAt];rw [aad]; exact hx;intro e; subst e; rw [W] at hx; cases hx
   refine ⟨_,_,Lib.run_next_any_at G b s p _ W u,a0,.inr ⟨_,_,rfl,bS.2 ⟨rfl,(NO _).mono ?_⟩⟩⟩;have V:St (G.iterAt b s (p + (Utf8.decode s p).2)) (blk b (.stringIter s (p + (Utf8.decode s p).2)) :: all w):=Y.setObj _;rintro _ _ ⟨rfl,rfl⟩;refine ⟨_,rfl,?_⟩;have z:gB s p = (s[p]'u).toNat:=by unfold gB; rw [Vv u]
   refine ae (λR=>?_) λR=>?_
   ·refine ⟨⟨_,rfl,?_⟩,V.tail.has⟩
    have:HY (gB s p) = false:=by
     by_cases U:(s[p]'u).toNat < 128
     ·rw [decode_ascii s p u U] at R;unfold HY;rw [z];simp at R ⊢;omega
     ·unfold HY; rw [z]; simp; omega
    have Z:(List.range s.size).all (λi=>HY (gB s i)) = false:=by
     rw [List.all_eq_false]; exact ⟨p,by simpa using u,by simp [this]⟩
    rw [Z]; simp
   ·have U:(s[p]'u).toNat < 128:=by
     refine Nat.lt_of_not_le λU=>?_;have:=NN s p u U;simp at R; omega
    rw [decode_ascii s p u U] at V R ⊢
    have X:HY (gB s p) = true:=by
     unfold HY; rw [z]; simp at R ⊢; omega
    refine ⟨⟨p + 1,u,λi hi=>?_,V⟩,?_⟩
    ·by_cases e:i = p
     ·rw [e]; exact X
     ·exact O i ω
    ·have Z:World.iterPos G b = p:=by simp [World.iterPos,W]
     have e2:World.iterPos (G.iterAt b s (p + 1)) b = p + 1:=by simp [World.iterPos,V.get]
     show s.size - World.iterPos (G.iterAt b s (p + 1)) b < s.size - World.iterPos G b
     rw [Z,e2]; omega
  ·refine ⟨_,_,Lib.run_next_end_at G b s p _ W u,Ev.refl _,.inl ⟨rfl,⟨_,rfl,?_⟩,Y.tail.has⟩⟩;have:(List.range s.size).all (λi=>HY (gB s i)) = true:=ve.2 λi hi=>O i ω;rw [this]; rfl
 refine key.mono ?_;rintro _ w' ⟨⟨n,rfl,hn⟩,hg⟩;exact ⟨n,rfl,⟨n,rfl,hn⟩,hg⟩
theorem PG (hs:s.size<=4611686018427387904):ρ EX [.string s] w λv w'=>v = .bool (dO s)/\Gr w w':=by
 refine BG _ w _ ?_;unfold tW;rw [IK];unfold dO
 refine ae (λh=>?_) λh=>?_
 ·have h:1<=s.size:=by simp only [aag,ZL] at h; omega
  refine ae (λu=>?_) λu=>?_
  ·have u:s.size<=16:=by have:=YR u; omega
   refine (IL hs).mono ?_;rintro _ w' ⟨⟨n,rfl,G⟩,z⟩;exact ⟨n,rfl,by rw [G]; simp [h,u],z⟩
  ·have u:¬ s.size<=16:=by have:=YS u; omega
   exact ⟨by simp [u],Gr.refl _⟩
 ·have h:¬ 1<=s.size:=by simp only [Bool.not_eq_false',Y7] at h; omega
  exact ⟨by simp [h],Gr.refl _⟩
theorem PH (hs:s.size<=4611686018427387904):ρ EZ [.string s] w λv w'=>v = .bool (dD s)/\w' = w:=by
 refine BK _ w _ ?_;unfold tX;rw [IK];refine ⟨λn w'=>∃ j:Nat,n = j/\j<=s.size/\(∀ i,i < j->KQ i (gB s i) = true)/\w' = w,λn _=>s.size - n.toNat,⟨0,rfl,ω,λi hi=>ω,rfl⟩,?_⟩;rintro _ n w1 ⟨j,rfl,hj,G,rfl⟩
 refine ae (λh=>?_) λh=>?_
 ·have h:j < s.size:=by have:=YR h; omega
  refine ⟨⟨ω,ω⟩,?_⟩;rw [Za];have Y:=Vu s j;have W:=XX ⟨gB s j,Y⟩;have e8:l5 .or .u8 ((sb s j).toNat:Int) 32 = ((gB s j ||| 32:Nat):Int):=PF (b:=32) Y ω;rw [e8]
  show br (((gB s j:Nat):Int) != 95) _ _
  have Z:KQ j (gB s j) = true->ax ((j:Int) + 1)/\(∃ j' : Nat,(j:Int) + 1 = j'/\j'<=s.size/\(∀ i,i < j'->KQ i (gB s i) = true)/\w1 = w1)/\s.size - ((j:Int) + 1).toNat < s.size - (j:Int).toNat:=λa1=>by
   refine ⟨⟨ω,ω⟩,⟨j + 1,σ,ω,λi hi=>?_,rfl⟩,bn h⟩
   by_cases e:i = j
   ·rw [e]; exact a1
   ·exact G i ω
  have X:KQ j (gB s j) = false->Value.bool false = Value.bool (dD s)/\w1 = w1:=λa3=>by
   refine ⟨?_,rfl⟩
   have:(List.range s.size).all (λi=>KQ i (gB s i)) = false:=by
    rw [List.all_eq_false]; exact ⟨j,by simpa using h,by simp [a3]⟩
   unfold dD; rw [this]; simp
  have O:(gB s j = 95\/(97<=(gB s j ||| 32)/\(gB s j ||| 32)<=122)\/(j≠0/\48<=gB s j/\gB s j<=57))↔KQ j (gB s j) = true:=by
   have a0 : (97<=(gB s j ||| 32)/\(gB s j ||| 32)<=122)↔((65<=gB s j/\gB s j<=90)\/(97<=gB s j/\gB s j<=122)):=by
    have:=congrArg (· = true) W;simpa using this
   rw [a0];unfold KQ;simp only [ZZ,Zd,Y7];omega
  generalize gB s j ||| 32 = d at *
  have yes:(gB s j = 95\/(97<=d/\d<=122)\/(j≠0/\48<=gB s j/\gB s j<=57))->_:=λhh=>Z (O.1 hh);have no:¬ (gB s j = 95\/(97<=d/\d<=122)\/(j≠0/\48<=gB s j/\gB s j<=57))->_:=λhh=>X (by cases hq:KQ j (gB s j); rfl; exact absurd (O.2 hq) hh);clear O W e8 Z X
  refine ae (λh1=>?_) λh1=>?_
  ·have h1:gB s j≠95:=by simp at h1; omega
   refine ae (λV=>?_) λV=>?_
   ·have V:d < 97:=by have:=YR V; omega
    refine ae (λR=>no (by simp at R; omega)) λR=>ae (λz=>no (by have:((gB s j:Nat):Int) < 48:=YR z; omega)) λz=>ae (λu=>no (by have:57 < ((gB s j:Nat):Int):=YR u; omega)) λu=>yes (.inr (.inr ?_));have z:¬ ((gB s j:Nat):Int) < 48:=YS z;have u:¬ 57 < ((gB s j:Nat):Int):=YS u;simp at R; omega
   ·have V:97<=d:=by have:=YS V; omega
    refine ae (λh6=>?_) λh6=>yes (.inr (.inl ⟨V,by have:=YS h6; omega⟩));have h6:122 < d:=by have:=YR h6; omega
    refine ae (λR=>no (by simp at R; omega)) λR=>ae (λz=>no (by have:((gB s j:Nat):Int) < 48:=YR z; omega)) λz=>ae (λu=>no (by have:57 < ((gB s j:Nat):Int):=YR u; omega)) λu=>yes (.inr (.inr ?_));have z:¬ ((gB s j:Nat):Int) < 48:=YS z;have u:¬ 57 < ((gB s j:Nat):Int):=YS u;simp at R; omega
  ·exact yes (.inl (by simp at h1; omega))
 ·have h:j = s.size:=by have:=YS h; omega
  subst h;have U:=ve.2 G;unfold dD;rw [U]
  refine ae (λh=>?_) λh=>?_
  ·have h:1<=s.size:=by simp only [aag,ZL] at h; omega
   refine ⟨?_,rfl⟩;have e:decide ((s.size:Int)<=16) = decide (s.size<=16):=by rw [ZI]; simp only [Y7]; omega
   rw [e]; simp [h]
  ·have h:¬ 1<=s.size:=by simp only [Bool.not_eq_false',Y7] at h; omega
   exact ⟨by simp [h],rfl⟩
theorem KR (hx:bh (hp w) xs a l) (hb:l<=4611686018427387904) (x:Int):ρ l_ [.slice a l c,.int .i64 x] w λv w'=>v = .bool (decide (x∈xs))/\w' = w:=by
 refine kJ ?_
 have key:ρ pq [.slice a l c,.int .i64 x] w λv w'=>(∃ n:Int,v = .int .i64 n/\decide (0<=n) = decide (x∈xs))/\w' = w:=by
  refine mZ ?_;have R:=hx.1;refine ⟨λn w'=>∃ j:Nat,n = j/\j<=l/\x∉xs.take j/\w' = w,λn _=>l - n.toNat,⟨0,rfl,ω,σ,rfl⟩,?_⟩;rintro _ n V ⟨j,rfl,W,u,rfl⟩
  refine ae (λh=>?_) λh=>?_
  ·have h:j < l:=by have:=YR h; omega
   obtain ⟨y,X,G,rfl,O⟩:=hx.cY h
   refine aw rfl h ⟨y,O _ (sub.refl _),ae (λz=>?_) λz=>?_⟩
   ·have z:x = y:=by simpa using z
    subst z;exact ⟨⟨_,rfl,by rw [Zp (YV G)]; simp⟩,rfl⟩
   ·have z:x≠y:=by simpa using z
    refine ⟨⟨ω,ω⟩,⟨j + 1,σ,ω,?_,rfl⟩,bn h⟩;rw [bI G,YY];simp [u,z]
  ·have h:j = l:=by have:=YS h; omega
   subst h;rw [<- R,Zi] at u;exact ⟨⟨_,rfl,by rw [Zu u]; rfl⟩,rfl⟩
 refine key.mono ?_;rintro _ _ ⟨⟨n,rfl,U⟩,rfl⟩;exact ⟨n,rfl,by rw [U],rfl⟩
theorem SR (x:Int):ρ z_ [.int .i64 x] w λv w'=>v = .bool false/\w' = w:=mc ⟨σ,rfl⟩
theorem Vw (x y:Int):ρ BL [.int .i64 x,.int .i64 y] w λv w'=>v = .bool (decide (x < y))/\w' = w:=by
 refine yv ((SR x).mono ?_);rintro _ _ ⟨rfl,rfl⟩;exact ⟨_,rfl,yB rfl ⟨rfl,rfl⟩⟩
theorem KS (hx:bh (hp w) xs a l) (hb:l<=4611686018427387904):ρ me [.slice a l c] w λv w'=>(∃ r:Bool,v = .bool r/\(r = true↔Mw xs))/\hp w' = hp w:=by
 refine kL ?_;have hl:=hx.1
 refine ⟨⟨ω,ω⟩,λn w'=>∃ j:Nat,n = (l:Int) - 1 - j/\j<=l/\(∀ i x y,l - 1 - j<=i->xs[i]? = some x->xs[i + 1]? = some y->x<=y)/\hp w' = hp w,λn _=>n.toNat,⟨0,ω,ω,?_,rfl⟩,?_⟩
 ·intro i x y hi O u;have:=(YT.1 u).1; omega
 rintro _ n w1 ⟨j,rfl,hj,z,Z⟩
 refine ae (λh=>?_) λh=>?_
 ·have h:=YR h;have a1:j + 1 < l:=ω
  intro w2 hd;have G:=(dT hd).trans Z;have e1:((l:Int) - 1 - j) = ((l - 1 - j:Nat):Int):=ω
  have e2:(((l - 1 - j:Nat):Int) - 1) = ((l - 2 - j:Nat):Int):=ω
  rw [e1,e2];obtain ⟨x,ad,V,rfl,X⟩:=hx.cY (by omega:l - 1 - j < l);obtain ⟨y,a0,U,e3,W⟩:=hx.cY (by omega:l - 2 - j < l);cases e3;refine ⟨λw'=>hp w' = hp w,G,aw rfl ω ⟨x,λw3 Y=>X _ (xd Y),⟨ω,ω⟩,aw rfl ω ⟨y,λw3 Y=>W _ (xd Y),(Vw x y).mono ?_⟩⟩⟩;rintro _ _ ⟨rfl,rfl⟩
  refine ⟨_,rfl,ae (λR=>?_) λR=>?_⟩
  ·have R:=YR R;refine ⟨⟨false,rfl,by simp; intro hs; have:=hs (l - 2 - j) y x U (by rw [show l - 2 - j + 1 = l - 1 - j by omega]; exact V); omega⟩,G⟩
  ·have R:=YS R;refine ⟨⟨ω,ω⟩,⟨j + 1,ω,ω,λi x' y' hi O u=>?_,G⟩,by dsimp only; omega⟩
   by_cases e:i = l - 2 - j
   ·subst e;rw [U] at O;rw [show l - 2 - j + 1 = l - 1 - j by omega,V] at u;cases O; cases u; omega
   ·exact z i x' y' ω O u
 ·have h:=YS h;exact ⟨⟨true,rfl,by simp; exact λi x y O u=>z i x y (by have:=(YT.1 u).1; omega) O u⟩,Z⟩
theorem KT (hs:s.size<=4611686018427387904):ρ ji [.string s] w λv w'=>v = .bool (!dD s)/\w' = w:=by
 refine vx ((PH hs).mono ?_);rintro _ _ ⟨rfl,rfl⟩;exact ⟨_,rfl,rfl,rfl⟩
theorem BM (hx:bh (hp w) ss a l) (hb:l<=4611686018427387904) (hs:∀ s∈ss,s.size<=4611686018427387904):ρ gq [.slice a l c,.func (.func ji) #[] #[]] w λv w'=>v = .bool (!ss.all dD)/\w' = w:=by
 refine fI ?_
 have key:ρ ja [.slice a l c,.func (.func ji) #[] #[]] w λv w'=>(∃ n:Int,v = .int .i64 n/\decide (0<=n) = !ss.all dD)/\w' = w:=by
  refine gU ?_;have R:=hx.1;refine ⟨λn w'=>∃ j:Nat,n = j/\j<=l/\(ss.take j).all dD = true/\w' = w,λn _=>l - n.toNat,⟨0,rfl,ω,rfl,rfl⟩,?_⟩;rintro _ n V ⟨j,rfl,W,u,rfl⟩
  refine ae (λh=>?_) λh=>?_
  ·have h:j < l:=by have:=YR h; omega
   obtain ⟨y,X,z,rfl,G⟩:=hx.cY h;refine aw rfl h ⟨y,G _ (sub.refl _),bS.2 ⟨rfl,(KT (hs y (YV z))).mono ?_⟩⟩;rintro _ _ ⟨rfl,rfl⟩
   refine ⟨_,rfl,ae (λO=>?_) λO=>?_⟩
   ·have:ss.all dD = false:=by rw [List.all_eq_false]; exact ⟨y,YV z,by simpa using O⟩
    exact ⟨⟨_,rfl,by rw [this]; simp⟩,rfl⟩
   ·refine ⟨⟨ω,ω⟩,⟨j + 1,σ,ω,?_,rfl⟩,bn h⟩;rw [Y2,z,aaM,u];simpa using O
  ·have h:j = l:=by have:=YS h; omega
   subst h;rw [<- R,Zi] at u;exact ⟨⟨_,rfl,by rw [u]; rfl⟩,rfl⟩
 refine key.mono ?_;rintro _ _ ⟨⟨n,rfl,U⟩,rfl⟩;exact ⟨n,rfl,by rw [U],rfl⟩
theorem xg {l:List ByteArray} {x:ByteArray}:(l ++ [x]).Nodup↔l.Nodup/\x∉l:=by
 rw [ZE]
 constructor
 ·rintro ⟨u,_,R⟩; exact ⟨u,λh=>R x h x σ rfl⟩
 ·rintro ⟨u,O⟩; exact ⟨u,σ,λa G b z e=>by simp at z; subst z; subst e; exact O G⟩
theorem IM (hx:bh (hp w) ss a l) (hb:l<=4611686018427387904):ρ EY [.slice a l c] w λv w'=>v = .bool (decide ss.Nodup)/\Gr w w':=by
 refine BI ?_;have W:=hx.1;refine nD (St.all w) λb w1 h=>?_;have h:=dV (κ:=ByteArray) h
 refine ⟨λn w'=>∃ (j:Nat) (m:List (ByteArray × Value)),n = j/\j<=l/\(∀ s,(assoc s m).isSome = true↔s∈ss.take j)/\(∀ s v,assoc s m = some v->∃ k:Nat,v = .int .i64 (k:Int)/\k<=j)/\m.length<=j/\(m.length = j↔(ss.take j).Nodup)/\St w' (mapA b m :: all w),λn _=>l - n.toNat,
  ⟨0,[],rfl,ω,by simp [assoc],λs v h=>by simp [assoc] at h,σ,σ,h⟩,?_⟩
 clear h;rintro _ n w2 ⟨j,m,rfl,hj,G,O,Z,z,h⟩
 refine ae (λu=>?_) λu=>?_
 ·have u:j < l:=by have:=YR u; omega
  obtain ⟨s,ad,R,rfl,U⟩:=hx.cY u;refine aw rfl u ⟨s,U _ h.aW,(cF (κ:=ByteArray) aQ (rfl:aj Ty _ = .map _ _) Tryz.underlying9 rfl rfl h s).mono ?_⟩;rintro _ _ ⟨rfl,rfl⟩
  obtain ⟨k,V,a0⟩ : ∃ k:Nat,(assoc s m).getD (.int .i64 0) = .int .i64 (k:Int)/\k<=j:=by
   cases ha:assoc s m with
   | none=>exact ⟨0,rfl,ω⟩
   | some v=>obtain ⟨k,rfl,V⟩:=O s v ha; exact ⟨k,rfl,V⟩
  refine ⟨_,V,⟨ω,ω⟩,(dr (κ:=ByteArray) aQ (rfl:aj Ty _ = .map _ _) Tryz.underlying9 h s _).mono ?_⟩;rintro _ w4 h;have X:ss.take (j + 1) = ss.take j ++ [s]:=by rw [Y2,R]; rfl
  refine ⟨⟨ω,ω⟩,⟨j + 1,_,σ,ω,λs'=>?_,λs' v hv=>?_,?_,?_,h⟩,bn u⟩
  ·rw [dU,X,YY,<- G];by_cases e:s' = s <;> simp [e]
  ·rw [dU] at hv
   split at hv
   ·cases hv; exact ⟨k + 1,σ,ω⟩
   ·obtain ⟨k',rfl,Y⟩:=O s' v hv; exact ⟨k',rfl,ω⟩
  ·rw [Dk]; split <;> omega
  ·rw [Dk,X,xg,<- z,<- G]
   by_cases e:(assoc s m).isSome = true
   ·simp [e]; omega
   ·simp [e]
 ·have u:j = l:=by have:=YS u; omega
  subst u;refine ⟨_,SP aQ (rfl:aj Ty _ = .map _ _) h,_,rfl,?_,h.aW⟩;rw [<- W,Zi] at z;congr 1;rw [ZI,Y7,<- z,W];simp only [aaR]; omega
end
abbrev dv:TypeId:=3
abbrev bJ:=@Tryz.underlying3
abbrev PI:TypeId:=5
abbrev NP:=@Tryz.underlying5
abbrev pD:TypeId:=9
abbrev mi:=@Tryz.underlying9
abbrev PJ:TypeId:=24
abbrev kM:TypeId:=38
abbrev E2:TypeId:=51
abbrev E3:TypeId:=52
abbrev IP:TypeId:=56
abbrev ob:TypeId:=62
abbrev Dn:=@Tryz.eqGuardType62
abbrev Dp:=@Tryz.stoodInHeld62
abbrev fJ:TypeId:=83
abbrev G5:=@Tryz.eqGuardType83
abbrev G6:=@Tryz.stoodInHeld83
abbrev ub:TypeId:=95
abbrev BN:=@Tryz.stoodInHeld95
abbrev BO:TypeId:=99
abbrev bM:TypeId:=104
abbrev yG:=@Tryz.eqGuardType104
abbrev G7:=@Tryz.stoodInHeld104
abbrev G8:=@Tryz.isAgg104
abbrev G9:=@Tryz.sizeOf104
abbrev od:TypeId:=118
abbrev lE:TypeId:=184
abbrev E4:=@Tryz.eqGuardType184
abbrev E5:=@Tryz.stoodInHeld184
abbrev KU:TypeId:=201
abbrev IQ:=@Tryz.underlying201
abbrev G_:TypeId:=226
abbrev pE:FuncId:=53
abbrev f_:FuncId:=96
abbrev dW:FuncId:=97
abbrev BP:=@Tryz.func97
abbrev Dq:FuncId:=98
abbrev vD:FuncId:=99
abbrev yH:FuncId:=157
abbrev jG:=@Tryz.func230
structure jM where
 name:ByteArray
 level:Int
structure aP where
 left:Int
 right:List Int
 level:Int
structure af where
 terms:List jM
 nons:List ByteArray
 levels:List Int
 start:Int
 prods:List aP
instance:qk jM:={ n:=2,rd:=λ_ t vs=>vs = [.string t.name,.int .i64 t.level],mono:=λ_ h=>h,len:=λh=>by rw [h]; rfl }
instance:qk aP:={ n:=3,rd:=λh p vs=>∃ a l c,vs = [.int .i64 p.left,.slice a l c,.int .i64 p.level]/\l<=c/\bh h p.right a l,mono:=λs ⟨a,l,c,h1,h2,h3⟩=>⟨a,l,c,h1,h2,h3.mono s⟩,len:=λ⟨_,_,_,h,_⟩=>by rw [h]; rfl }
structure GA where
 ta:aa3
 tl:Nat
 tc:Nat
 na:aa3
 nl:Nat
 nc:Nat
 la:aa3
 ll:Nat
 lc:Nat
 s:Int
 pa:aa3
 pl:Nat
 pc:Nat
def GA.cells (x:GA):List Value:=[.slice x.ta x.tl x.tc,.slice x.na x.nl x.nc,.slice x.la x.ll x.lc,.int .i64 x.s,.slice x.pa x.pl x.pc]
structure gR (h:Hp) (g:af) (x:GA):Prop where
 t:bh h g.terms x.ta x.tl
 n:bh h g.nons x.na x.nl
 l:bh h g.levels x.la x.ll
 s:x.s = g.start
 p:bh h g.prods x.pa x.pl
 tc:x.tl<=x.tc
 nc:x.nl<=x.nc
 lc:x.ll<=x.lc
 pc:x.pl<=x.pc
theorem gR.mono {h h' : Hp} {g:af} {x:GA} (s:sub h h') (r:gR h g x):gR h' g x:=⟨r.t.mono s,r.n.mono s,r.l.mono s,r.s,r.p.mono s,r.tc,r.nc,r.lc,r.pc⟩
instance:qk af:={ n:=5,rd:=λh g vs=>∃ x:GA,vs = x.cells/\gR h g x,mono:=λs ⟨x,h1,h2⟩=>⟨x,h1,h2.mono s⟩,len:=λ⟨_,h,_⟩=>by rw [h]; rfl }
def jd (g:af):Prop:=g.terms.length<=17592186044416/\g.nons.length<=17592186044416/\g.levels.length<=17592186044416/\g.prods.length * 40<=140737488351232/\(∀ t∈g.terms,t.name.size<=140737488351232/\anyI t.level)/\(∀ s∈g.nons,s.size<=140737488351232)/\(∀ p∈g.prods,p.right.length<=17592186043904)
theorem uc {L:List az} {b:Nat}:∀ (vs us:List Value) (i:Nat) {w:aa4},i + vs.length<=us.length->St w (aH b us :: L)->St (cO w ⟨b,0,none⟩ i vs) (aH b (us.take i ++ vs ++ us.drop (i + vs.length)) :: L)
 | [],us,i,w,_,h=>by simpa [cO] using h
 | v :: vs,us,i,w,hl,h=>by
  have h1:=h.Vd i v
  have h2:=uc vs (us.set i v) (i + 1) (by simp at hl ⊢; omega) h1
  simp only [ZC] at hl
  have e:(us.set i v).take (i + 1) ++ vs ++ (us.set i v).drop (i + 1 + vs.length) = us.take i ++ v :: vs ++ us.drop (i + (vs.length + 1)):=by
   rw [List.drop_set_of_lt ω,List.take_set,Y2,aae _ _ (by simp; omega)]
   have:us[i]? = some (us[i]'ω):=YU _
   rw [this]
   have e2:i - (us.take i).length = 0:=by simp; omega
   rw [e2]
   simp
   congr 1; omega
  rw [e] at h2
  simp only [cO,aK,ZC]
  exact h2
theorem xh {w:aa4} {L:List az} {b:Nat} {us:List Value} (h:St w (aH b us :: L)):∀ (vs:List Value) (i:Nat),i + vs.length<=us.length->(∀ v∈vs,aG v = true)->j8 w ⟨b,0,none⟩ i vs
 | [],i,_,_=>trivial
 | v :: vs,i,hl,h1=>by
  simp only [ZC] at hl
  refine ⟨h1 v σ,⟨us[i]'ω,?_⟩,?_,xh h vs (i + 1) ω λu hu=>h1 u (by simp [hu])⟩
  ·rw [aK,h.cell]; exact YU _
  ·rw [aK]; exact h.frozen i none
theorem aU {w:aa4} {L:List az} {b:Nat} {us vs:List Value} {k:aa4->Prop} (h:St w (aH b us :: L)) (hl:us.length = vs.length) (h1:∀ v∈vs,aG v = true) (hk:∀ w',St w' (aH b vs :: L)->k w'):da w ⟨b,0,none⟩ vs k:=by
 refine ⟨xh h vs 0 ω h1,λw' u=>?_⟩;subst u;have z:=uc vs us 0 ω h;refine hk _ ?_;have e:us.take 0 ++ vs ++ us.drop (0 + vs.length) = vs:=by rw [List.take_zero,Zz,aab ω,Zm]
 rwa [e] at z
theorem ct {a:aa3} {len cap lo sz:Nat} {k:aa3->Nat->Nat->Prop} (h1:lo<=len) (h2:len<=cap) (hk:k (fT a lo cap sz) (len - lo) (cap - lo)):lR a len cap (some (lo:Int)) none none sz k :=
 ⟨.inl rfl,.inl rfl,⟨by show (0:Int)<=(lo:Int); omega,by show (lo:Int)<=(len:Int); omega⟩,by simpa using hk⟩
def ud (g:af) (added:Nat):Prop:=g.terms[0]? = some ⟨.empty,0⟩/\added < g.nons.length/\g.terms.length<=65/\g.nons.length<=64 + added/\g.terms.length - 1 + (g.nons.length - added)<=64 /\
 (∀ t∈g.terms.drop 1,dO t.name = true/\0<=t.level/\t.level<=g.levels.length)/\(∀ (i:Nat) v,g.levels[i]? = some v->1<=v/\v<=3/\∃ t∈g.terms.drop 1,t.level = (i:Int) + 1) /\
 ((g.terms.drop 1).map jM.name).Nodup/\(g.nons.drop added).Nodup/\∀ s∈g.nons.drop added,dD s = true
section
variable {w:aa4} {L:List az} {g:af} {x:GA}
theorem Mx (w:aa4) (xo yo:Operand) (s e:ByteArray) (n m:Int):Sem.run Tryz.prog (je .neq fJ xo yo (.agg #[.string s,.int .i64 n]) (.agg #[.string e,.int .i64 m])) w = .ok (.bool (!(decide (s = e) && (n == m)))) w:=by
 unfold je;rw [Sem.run_bind,run_eqGuard_agg w _ _ _ _ _ _ G5];simp only [Result.andThen_ok];have ht:Tryz.prog.underlying fJ = some (.struct (Tryz.prog.fieldsOf fJ)):=by kernel_rfl
 have hi:Tryz.prog.underlying dv = some (.int .i64):=bJ;have O:Tryz.prog.underlying pD = some .string:=mi;have hf : (Tryz.prog.fieldsOf fJ).toList = [{ name := "Name", type := pD, offset := 0, embedded := false, tag := "", pkgPath := "", byteOffset := 0 }, { name := "Level", type := dv, offset := 1, embedded := false, tag := "", pkgPath := "", byteOffset := 16 }] := by kernel_rfl
 have U:∀ (v u:Value) (w:aa4),(part pD #[v,u] 0).run Tryz.prog w = .ok v w:=λv u w=>by simp [part,dR O,fb,Kd.isAgg]
 have R:∀ (v u:Value) (w:aa4),(part dv #[v,u] 1).run Tryz.prog w = .ok u w:=λv u w=>by simp [part,dR hi,fb,Kd.isAgg]
 have G:∀ d w,(Op.equalIn (d + 1) pD (.string s) (.string e)).run Tryz.prog w = .ok (s.toList == e.toList) w:=λd w=>run_equalIn_string w d _ _ _ O;have z:∀ d w,(Op.equalIn (d + 1) dv (.int .i64 n) (.int .i64 m)).run Tryz.prog w = .ok (n == m) w:=λd w=>run_equalIn_int w d _ _ _ _ _ hi
 have key:(Op.equalIn (9998 + 1 + 1) fJ (.agg #[.string s,.int .i64 n]) (.agg #[.string e,.int .i64 m])).run Tryz.prog w = .ok (decide (s = e) && (n == m)) w:=by
  rw [run_equalIn_agg w (9998 + 1) fJ _ _ ht G6,hf];unfold Op.eqFields;simp only [ne_eq,String.reduceEq,not_false_eq_true,if_true,Sem.run_bind,U,Result.andThen_ok,G,yF]
  cases hq:decide (s = e)
  ·simp
  ·unfold Op.eqFields;simp only [ne_eq,String.reduceEq,not_false_eq_true,if_true,Sem.run_bind,R,Result.andThen_ok,z,Bool.not_true,aav,if_false]
   cases hn:(n == m)
   ·simp
   ·unfold Op.eqFields; simp
 rw [run_neq_struct]
 show ((Op.equalIn (9998 + 1 + 1) fJ (.agg #[.string s,.int .i64 n]) (.agg #[.string e,.int .i64 m])).run Tryz.prog w).andThen _ = _
 rw [key];rfl
end
theorem SS {w:aa4} {L:List az} {a:aa3} {l c:Nat} {ss:List ByteArray} (h:St w (own 1 a l c (ss.map λs=>Value.string s) :: L)):bh (hp w) ss a l:=by
 have u:=jg h;obtain ⟨G,s,z⟩:=h.first;exact (eM (by simpa using u) (cP z)).mono s
section
variable {w:aa4} {L:List az} {g:af} {x:GA}
theorem FR (hg:gR (hp w) g x) (hb:jd g) (added:Nat) (ha:added<=1) :
  ρ Df [.agg ⟨x.cells⟩,.int .i64 (added:Int)] w λv w'=>(∃ r:Bool,v = .bool r/\(r = true↔ud g added))/\Gr w w':=by
 refine zY ?_;refine ag (St.all w) λk1 Y h=>?_;have gw:Gr w Y:=h.aW;have hg:=hg.mono gw;have rb:au (hp Y) ⟨k1,0,none⟩ x.cells:=h.row;obtain ⟨b1,b2,b3,b4,b5,b6,b7⟩:=hb;have tl:=hg.t.1;have nl:=hg.n.1;have ll:=hg.l.1;have O:∀ w',sub (hp Y) (hp w')->Gr w w':=λw' h=>gw.trans h;have h:=St.all Y;unfold Proofs.YtndaepmjkbmjmaaGreatDoor.all at h;have c0:=λ(w' : aa4) (s:sub (hp Y) (hp w'))=>rb.cell0 (v:=.slice x.ta x.tl x.tc) s;have c1:=λ(w' : aa4) (s:sub (hp Y) (hp w'))=>rb.cell s (j:=1) (v:=.slice x.na x.nl x.nc) rfl;have c2:=λ(w' : aa4) (s:sub (hp Y) (hp w'))=>rb.cell s (j:=2) (v:=.slice x.la x.ll x.lc) rfl;generalize hp Y = H at *;have s1:sub H (hp Y):=h.has;have pre:Prop:=True
 refine ⟨λb w'=>(b = false↔(g.terms[0]? = some ⟨.empty,0⟩/\added < g.nons.length/\g.terms.length<=65/\g.nons.length<=64 + added/\g.terms.length - 1 + (g.nons.length - added)<=64))/\w' = Y,?_,?_⟩
 ·refine ⟨_,_,_,c0 _ s1,ae (λu=>⟨?_,rfl⟩) λu=>?_⟩
  ·have:g.terms = []:=Y9 (by simp at u; omega);simp [this]
  have u:0 < x.tl:=by simp at u; omega
  obtain ⟨V,ad,vs,ht1,a8,X,R⟩:=hg.t.get u;have R:vs = [.string V.name,.int .i64 V.level]:=R;subst R;have X:au H ad [.string V.name,.int .i64 V.level]:=by simpa [aN,Addr.add] using X
  have e0:(g.terms[0]? = some ⟨.empty,0⟩)↔(V.name = .empty/\V.level = 0):=by
   rw [ht1]
   constructor
   ·intro e; cases e; exact ⟨rfl,rfl⟩
   ·rintro ⟨e1,e2⟩; cases V; simp_all
  rw [e0];refine ⟨_,_,_,c0 _ s1,⟨ad,a8,ω,ω,?_⟩⟩;have ez:ad.add (cE (Int.toNat 0) 2) = ad:=by simp [aN,Addr.add]
  rw [ez]
  refine ⟨_,_,X.at s1 rfl,_,Mx _ _ _ _ _ _ _,_,rfl,ae (λG=>⟨?_,rfl⟩) λG=>?_⟩
  ·simp only [aag,Bool.and_eq_false_iff,ZL,aaA] at G;have:¬ (V.name = .empty/\V.level = 0):=λe=>G.elim (λh=>h e.1) (λh=>h e.2);simp [this]
  have G:V.name = ByteArray.mk (Array.mk [])/\V.level = 0:=by simpa using G
  have G:V.name = .empty/\V.level = 0:=G
  refine ⟨_,_,_,c1 _ s1,ae (λW=>⟨?_,rfl⟩) λW=>?_⟩
  ·have:=YR W;simp; omega
  have W:=YS W
  refine ⟨_,_,_,c0 _ s1,ae (λh4=>⟨?_,rfl⟩) λh4=>?_⟩
  ·have:=YR h4;simp; omega
  have h4:=YS h4
  refine ⟨_,_,_,c1 _ s1,⟨ω,ω⟩,ae (λh5=>⟨?_,rfl⟩) λh5=>?_⟩
  ·have:=YR h5;simp; omega
  have h5:=YS h5;refine ⟨_,_,_,c0 _ s1,⟨ω,ω⟩,_,_,_,c1 _ s1,⟨ω,ω⟩,⟨ω,ω⟩,?_,rfl⟩;rw [ZL];simp only [G,true_and,and_true];omega
 rintro _ b _ ⟨a3,rfl⟩
 refine ae (λac=>?_) λam=>?_
 ·subst ac;refine ⟨⟨false,rfl,?_⟩,O _ s1⟩
  constructor
  ·intro h; cases h
  ·rintro ⟨p1,p2,p3,p4,p5,_⟩;have:=a3.2 ⟨p1,p2,p3,p4,p5⟩;cases this
 obtain ⟨p1,p2,p3,p4,p5⟩:=a3.1 am
 have hT:1<=x.tl:=by
  have:=(YT.1 p1).1; omega
 refine nD h λa5 w3 h=>?_;have h:=dV (κ:=Int) h;refine ⟨_,_,_,c0 _ h.aW,ct (lo:=1) hT hg.tc ?_⟩;have bc:=hg.t.drop hT hg.tc;have c8:(g.terms.drop 1).length = x.tl - 1:=bc.1
 -- the terminals
 refine ⟨λo l' c' n w'=>∃ (j:Nat) (m:List (Int × Value)),n = j/\j<=x.tl - 1/\j = l'/\(∀ t∈(g.terms.drop 1).take j,dO t.name = true/\0<=t.level/\t.level<=g.levels.length)/\(∀ n:Int,assoc n m = if ∃ t∈(g.terms.drop 1).take j,t.level = n then some (.int .i64 1) else none) /\
   St w' [own 1 o j c' (((g.terms.drop 1).take j).map λt=>Value.string t.name),mapA a5 m,has H],λ_ _ _ n _=>x.tl - 1 - n.toNat,⟨0,[],rfl,ω,rfl,σ,by simp [assoc],ay 1 h⟩,?_⟩
 clear h;rintro _ aI _ b0 n2 w4 ⟨j,m,rfl,hj,rfl,a4,hm,h⟩;have s4:sub H (hp w4):=aR 2 h.l
 refine ae (λz=>?_) λz=>?_
 ·have z:j < x.tl - 1:=by have:=YR z; omega
  obtain ⟨t,ad,vs,ht1,a8,X,R⟩:=bc.get z;have R:vs = [.string t.name,.int .i64 t.level]:=R;subst R;have bl:t∈g.terms.drop 1:=YV ht1;have bC:t∈g.terms:=aac bl;obtain ⟨q1,q2⟩:=b5 t bC;have et:(g.terms.drop 1).take (j + 1) = (g.terms.drop 1).take j ++ [t]:=by rw [Y2,ht1]; rfl
  refine ⟨ad,a8,ω,ω,?_⟩;rw [Za];refine ⟨_,_,X.at s4 rfl,ag h λa6 w5 h=>aU h rfl (by simp [aG]) λw6 h=>?_⟩
  refine ⟨λb w'=>(b = false↔(dO t.name = true/\0<=t.level/\t.level<=g.levels.length))/\St w' [aH a6 [.string t.name,.int .i64 t.level],own 1 aI j b0 (((g.terms.drop 1).take j).map λt=>Value.string t.name),mapA a5 m,has H],?_,?_⟩
  ·refine ⟨_,h.cell 0,(PG ω).mono ?_⟩;rintro _ w7 ⟨rfl,bT⟩;have h:=h.gr bT
   refine ⟨_,rfl,ae (λu=>⟨?_,h⟩) λu=>?_⟩
   ·have u:dO t.name = false:=by simpa using u
    simp [u]
   have u:dO t.name = true:=by simpa using u
   have cl:w7.cell? ((⟨a6,0,none⟩ : Addr).add 1) = some (.int .i64 t.level):=h.row.cell (sub.refl _) rfl
   refine ⟨_,cl,ae (λG=>⟨?_,h⟩) λG=>?_⟩
   ·have G:=YR G;simp [u]; omega
   have G:=YS G;refine ⟨_,cl,_,_,_,c2 _ (aR 3 h.l),?_,h⟩;rw [ZL];simp only [u,true_and];omega
  ·clear h;rintro _ b4 w8 ⟨bb,h⟩
   refine ae (λac=>?_) λam=>?_
   ·subst ac;refine ⟨⟨false,rfl,?_⟩,O _ (aR 3 h.l)⟩
    constructor
    ·intro h; cases h
    ·rintro ⟨_,_,_,_,_,p6,_⟩;have:=bb.2 (p6 t bl);cases this
   have ba:=bb.1 am;refine ⟨_,h.cell 0,ag h λca w9 h=>?_⟩;refine (aL aQ (rfl:aj Ty _ = .slice _) (rfl:aj Ty _ = .slice _) rfl rfl rfl (h.pick 5 [0,2,1,3,4]) rfl (by simp [aG]) (by show (j + 1) * 16<=_; omega) ω).mono ?_;rintro _ c9 ⟨a',c',rfl,h⟩;have h:=h.pick 5 [3,0,2,4];refine ⟨_,_,_,rfl,_,(ah (b:=a6) (vs:=[.string t.name,.int .i64 t.level]) 2 h.l).cell (sub.refl _) (j:=1) rfl,?_⟩;refine (dr (κ:=Int) aQ (rfl:aj Ty _ = .map _ _) bJ h t.level (.int .i64 1)).mono ?_;rintro _ cb h
   refine ⟨⟨ω,ω⟩,⟨j + 1,bU t.level (.int .i64 1) m,σ,ω,rfl,λZ U=>?_,λn=>?_,?_⟩,by dsimp only; omega⟩
   ·rw [et,YY] at U
    rcases U with U | U
    ·exact a4 Z U
    ·simp at U; subst U; exact ba
   ·rw [dU,hm,et]
    by_cases e:n = t.level
    ·subst e;rw [Y5 rfl,Y5 ⟨t,σ,rfl⟩]
    ·rw [YZ e]
     have:(∃ Z∈(g.terms.drop 1).take j ++ [t],Z.level = n)↔∃ Z∈(g.terms.drop 1).take j,Z.level = n:=by
      constructor
      ·rintro ⟨Z,u,G⟩
       rcases YY.1 u with u | u
       ·exact ⟨Z,u,G⟩
       ·simp at u; subst u; exact absurd G.symm e
      ·rintro ⟨Z,u,G⟩; exact ⟨Z,YY.2 (.inl u),G⟩
     simp only [this]
   ·have e:(((g.terms.drop 1).take j).map λt=>Value.string t.name) ++ [.string t.name] = ((g.terms.drop 1).take (j + 1)).map λt=>Value.string t.name:=by rw [et]; simp
    rw [<- e];exact h.pick 4 [1,0,3]
 have z:j = x.tl - 1:=by have:=YS z; omega
 subst z;rw [Zb ω] at a4 hm h;refine ⟨_,_,_,c2 _ s4,λn w'=>∃ i:Nat,n = i/\i<=x.ll/\(∀ (k:Nat) v,k < i->g.levels[k]? = some v->1<=v/\v<=3/\∃ t∈g.terms.drop 1,t.level = (k:Int) + 1)/\St w' [own 1 aI (x.tl - 1) b0 ((g.terms.drop 1).map λt=>Value.string t.name),mapA a5 m,has H],λn _=>x.ll - n.toNat,⟨0,rfl,ω,λk v hk=>ω,h⟩,?_⟩;clear h s4;rintro _ n7 a7 ⟨i,rfl,hi,bd,h⟩;have a0:sub H (hp a7):=aR 2 h.l
 have aa:∀ {v:Int},g.levels[i]? = some v->¬ (1<=v/\v<=3/\∃ t∈g.terms.drop 1,t.level = (i:Int) + 1)->(∃ r:Bool,Value.bool false = .bool r/\(r = true↔ud g added))/\Gr w a7:=λ{v} hv hn=>by
  refine ⟨⟨false,rfl,?_⟩,O _ a0⟩
  constructor
  ·intro h; cases h
  ·rintro ⟨_,_,_,_,_,_,p7,_⟩;exact absurd (p7 i v hv) hn
 refine ae (λz=>?_) λz=>?_
 ·have z:i < x.ll:=by have:=YR z; omega
  obtain ⟨v,ad,a1,bG,c7⟩:=hg.l.cY z;refine ⟨ad,bG,ω,ω,?_⟩;rw [Za];refine ⟨_,c7 _ a0,ae (λu=>aa a1 (by have:=YR u; omega)) λu=>ae (λG=>aa a1 (by have:=YR G; omega)) λG=>⟨⟨ω,ω⟩,?_⟩⟩;refine (cF (κ:=Int) aQ (rfl:aj Ty _ = .map _ _) bJ rfl rfl (h.pick 3 [1]) ((i:Int) + 1)).mono ?_;rintro _ _ ⟨rfl,rfl⟩;rw [hm]
  by_cases he:∃ t∈g.terms.drop 1,t.level = (i:Int) + 1
  ·rw [Y5 he];refine ⟨_,rfl,yB rfl ⟨⟨ω,ω⟩,⟨i + 1,σ,ω,λk v' hk ab=>?_,h⟩,bn z⟩⟩
   by_cases e:k = i
   ·subst e;rw [a1] at ab; cases ab;exact ⟨by have:=YS u; omega,by have:=YS G; omega,he⟩
   ·exact bd k v' ω ab
  ·rw [YZ he];exact ⟨_,rfl,vC rfl (aa a1 (λh=>he h.2.2))⟩
 have z:i = x.ll:=by have:=YS z; omega
 subst z;have bi : ∀ (k:Nat) v,g.levels[k]? = some v->1<=v/\v<=3/\∃ t∈g.terms.drop 1,t.level = (k:Int) + 1:=λk v hv=>bd k v (by have:=(YT.1 hv).1; omega) hv;refine ⟨_,_,_,c1 _ a0,ct (lo:=added) ω hg.nc ?_⟩;have be:=hg.n.drop (k:=added) ω hg.nc;have e1:((g.terms.drop 1).map λt=>Value.string t.name) = ((g.terms.drop 1).map jM.name).map λs=>Value.string s:=by rw [aay]; rfl
 rw [e1] at h;have rt:bh (hp a7) ((g.terms.drop 1).map jM.name) aI (x.tl - 1):=SS h;refine (IM rt ω).mono ?_;rintro _ c6 ⟨rfl,c5⟩;have a9:sub H (hp c6):=a0.trans c5
 refine ⟨_,rfl,ae (λu=>?_) λu=>?_⟩
 ·have u:=YR u;refine (IM (be.mono a9) ω).mono ?_;rintro _ bA ⟨rfl,bP⟩;have aT:sub H (hp bA):=a9.trans bP
  refine ⟨_,rfl,ae (λG=>?_) λG=>?_⟩
  ·have G:=YR G;refine (BM (be.mono aT) ω (λs hs=>by have:=b6 s (aac hs); omega)).mono ?_;rintro _ _ ⟨rfl,rfl⟩;refine ⟨_,rfl,⟨_,rfl,?_⟩,O _ aT⟩;rw [Bool.not_not,aaD];exact ⟨λW=>⟨p1,p2,p3,p4,p5,a4,bi,u,G,W⟩,λ⟨_,_,_,_,_,_,_,_,_,W⟩=>W⟩
  ·have G:=YS G;refine ⟨⟨false,rfl,?_⟩,O _ aT⟩;exact ⟨λh=>(by cases h),λ⟨_,_,_,_,_,_,_,_,W,_⟩=>absurd W G⟩
 ·have u:=YS u;refine ⟨⟨false,rfl,?_⟩,O _ a9⟩;exact ⟨λh=>(by cases h),λ⟨_,_,_,_,_,_,_,W,_⟩=>absurd W u⟩
end
def pF (acc:List Int) (x:Int):List Int:=if x∈acc then acc else acc ++ [x]
def dh (l:List Int):List Int:=l.foldl pF []
theorem Bp {l:List Int} {j:Nat} {x:Int} (h:l[j]? = some x):dh (l.take (j + 1)) = pF (dh (l.take j)) x:=by
 unfold dh; rw [Y2,h,List.foldl_append]; rfl
theorem PK {acc:List Int} {x y:Int}:y∈pF acc x↔y∈acc\/y = x:=by
 unfold pF; split
 ·rename_i h; exact ⟨.inl,λh'=>h'.elim id (λe=>e ▸ h)⟩
 ·simp
theorem PL (acc:List Int) (x:Int):acc.length<=(pF acc x).length/\(pF acc x).length<=acc.length + 1:=by
 unfold pF; split <;> simp
theorem KV {acc:List Int} (x:Int) (h:acc.Nodup):(pF acc x).Nodup:=by
 unfold pF; split
 ·exact h
 ·rename_i hn;rw [ZE];exact ⟨h,σ,λa z b u e=>by simp at u; subst u; subst e; exact hn z⟩
theorem Dr (l:List Int):∀ acc,acc.Nodup->(l.foldl pF acc).Nodup/\(∀ y,y∈l.foldl pF acc↔y∈acc\/y∈l)/\(l.foldl pF acc).length<=acc.length + l.length:=by
 induction l with
 | nil=>intro acc h; exact ⟨h,σ,σ⟩
 | cons x l ih =>
  intro acc h;obtain ⟨z,u,G⟩:=ih _ (KV x h)
  refine ⟨z,λy=>?_,?_⟩
  ·show y∈l.foldl pF (pF acc x)↔_
   rw [u,PK,Ze,or_assoc]
  ·show (l.foldl pF (pF acc x)).length<=_
   have:=(PL acc x).2;simp only [ZC]; omega
theorem KW {l:List Int} {y:Int}:y∈dh l↔y∈l:=by
 have:=(Dr l [] σ).2.1 y;simpa [dh] using this
theorem xi (l:List Int):(dh l).length<=l.length:=by
 have:=(Dr l [] σ).2.2;simpa [dh] using this
def af.T (g:af):Nat:=g.terms.length
def af.N (g:af):Nat:=g.nons.length
def fw (g:af) (added:Nat) (s:Int):Prop:=1<=s/\s < g.T + g.N/\¬ ((g.T:Int)<=s/\s < g.T + added)
def mj (g:af) (added:Nat) (p:aP):Prop:=((g.T:Int) + added<=p.left/\p.left < g.T + g.N/\0<=p.level/\p.level<=g.levels.length)/\∀ s∈p.right,fw g added s
def iA (g:af) (added:Nat):List Int:=dh ((g.prods.drop added).map aP.left)
def Ab (g:af) (added:Nat):Prop:=added < g.prods.length/\g.prods.length<=96 + added/\(∀ p∈g.prods.drop added,mj g added p) /\
 ((iA g added).length:Int) = (g.N:Int) - added/\(g.T:Int) + added<=g.start/\g.start < g.T + g.N
def PM (g:af):Prop:=ud g 0/\Ab g 0/\Mw (iA g 0)
def ak (g:af):Prop:=g.nons[0]? = some .empty/\ud g 1/\Ab g 1/\∃ p,g.prods[0]? = some p/\p.left = (g.T:Int)/\p.right = [g.start]/\p.level = 0
section
variable {w:aa4} {L:List az} {g:af} {x:GA}
theorem wM (hg:gR (hp w) g x) (hb:jd g) (added:Nat) (ha:added<=1) :
  ρ wU [.agg ⟨x.cells⟩,.int .i64 (added:Int)] w λv w'=>∃ (a:aa3) (l c:Nat) (xs:List Int) (r:Bool),v = .tuple #[.slice a l c,.bool r]/\(r = true↔Ab g added)/\(r = true->xs = iA g added)/\St w' (own 1 a l c (iv xs) :: all w):=by
 refine tT ?_;refine ag (St.all w) λk1 V h=>?_;have gw:Gr w V:=h.aW;have hg:=hg.mono gw;have rb:au (hp V) ⟨k1,0,none⟩ x.cells:=h.row;obtain ⟨b1,b2,b3,b4,b5,b6,b7⟩:=hb;have tl:=hg.t.1;have nl:=hg.n.1;have ll:=hg.l.1;have pl:=hg.p.1;have R:∀ w' (A:az),St w' [A,has (hp V)]->St w' [A,has (hp w)]:=λw' A h=>h.nf (bH gw);have h:=St.all V;unfold Proofs.YtndaepmjkbmjmaaGreatDoor.all at h;have c0:=λ(w' : aa4) (s:sub (hp V) (hp w'))=>rb.cell0 (v:=.slice x.ta x.tl x.tc) s;have c1:=λ(w' : aa4) (s:sub (hp V) (hp w'))=>rb.cell s (j:=1) (v:=.slice x.na x.nl x.nc) rfl;have c2:=λ(w' : aa4) (s:sub (hp V) (hp w'))=>rb.cell s (j:=2) (v:=.slice x.la x.ll x.lc) rfl;have c3:=λ(w' : aa4) (s:sub (hp V) (hp w'))=>rb.cell s (j:=3) (v:=.int .i64 x.s) rfl;have c4:=λ(w' : aa4) (s:sub (hp V) (hp w'))=>rb.cell s (j:=4) (v:=.slice x.pa x.pl x.pc) rfl;unfold Proofs.YtndaepmjkbmjmaaGreatDoor.all;generalize hp V = H at *;have s1:sub H (hp V):=h.has;have hT:g.T = x.tl:=tl;have hN:g.N = x.nl:=nl
 have no:∀ w',sub H (hp w')->¬ Ab g added->∃ (a:aa3) (l c:Nat) (xs:List Int) (r:Bool),Value.tuple (Array.mk [.slice none 0 0,.bool false]) = .tuple #[.slice a l c,.bool r]/\(r = true↔Ab g added)/\(r = true->xs = iA g added)/\St w' [own 1 a l c (iv xs),has (hp w)]:=λw' s hn =>
  ⟨none,0,0,[],false,rfl,⟨λh=>(by cases h),λh=>absurd h hn⟩,λh=>(by cases h),R _ _ (ay 1 (bH s))⟩
 refine ⟨λb w'=>(b = false↔(added < g.prods.length/\g.prods.length<=96 + added))/\w' = V,?_,?_⟩
 ·refine ⟨_,_,_,c4 _ s1,ae (λu=>⟨?_,rfl⟩) λu=>?_⟩
  ·have:=YR u;simp; omega
  have u:=YS u;refine ⟨_,_,_,c4 _ s1,⟨ω,ω⟩,?_,rfl⟩;rw [ZL]; omega
 rintro _ b _ ⟨a0,rfl⟩
 refine ae (λa8=>?_) λa9=>?_
 ·subst a8;refine no _ s1 ?_;rintro ⟨p1,p2,_⟩;have:=a0.2 ⟨p1,p2⟩; cases this
 obtain ⟨p1,p2⟩:=a0.1 a9;refine ⟨_,_,_,c0 _ s1,_,_,_,c1 _ s1,⟨ω,ω⟩,_,_,_,c0 _ s1,⟨ω,ω⟩,_,_,_,c4 _ s1,ct (lo:=added) ω hg.pc ?_⟩;have am:=hg.p.drop (k:=added) ω hg.pc;have bC:=am.1
 refine ⟨λo l' c' n w'=>∃ j:Nat,n = j/\j<=x.pl - added/\(dh (((g.prods.drop added).map aP.left).take j)).length = l'/\(∀ p∈(g.prods.drop added).take j,mj g added p) /\
   St w' [own 1 o l' c' (iv (dh (((g.prods.drop added).map aP.left).take j))),has H],λ_ _ _ n _=>x.pl - added - n.toNat,⟨0,rfl,ω,rfl,σ,ay 1 h⟩,?_⟩
 clear h;rintro _ o8 _ c8 n1 w3 ⟨j,rfl,hj,rfl,a1,h⟩;have s3:sub H (hp w3):=aR 1 h.l;have bA:(dh (((g.prods.drop added).map aP.left).take j)).length<=j:=Zq (xi _) (by simp; omega)
 refine ae (λO=>?_) λO=>?_
 ·have O:j < x.pl - added:=by have:=YR O; omega
  obtain ⟨p,ad,vs,a5,bc,bb,ra,X,rc,rfl,bG,ab⟩:=am.get O;have a6:p∈g.prods.drop added:=YV a5;have bi:((g.prods.drop added).map aP.left)[j]? = some p.left:=by rw [YW,a5]; rfl
  have bP:=ab.1;have c6:=b7 p (aac a6);refine ⟨ad,bc,ω,ω,?_⟩;rw [Za];refine ⟨_,_,_,_,_,bb.at s3 rfl,ag h λb0 w4 h=>aU h rfl (by simp [aG]) λw5 h=>?_⟩;have W:∀ w',sub (hp w5) (hp w')->au (hp w') ⟨b0,0,none⟩ [.int .i64 p.left,.slice ra X rc,.int .i64 p.level]:=λw' s=>h.row.mono s;have s5:sub H (hp w5):=aR 2 h.l;have d0:=λ(w' : aa4) (s:sub (hp w5) (hp w'))=>(W w' s).cell0 (v:=.int .i64 p.left) (sub.refl _);have d1:=λ(w' : aa4) (s:sub (hp w5) (hp w'))=>(W w' s).cell (sub.refl _) (j:=1) (v:=.slice ra X rc) rfl;have d2:=λ(w' : aa4) (s:sub (hp w5) (hp w'))=>(W w' s).cell (sub.refl _) (j:=2) (v:=.int .i64 p.level) rfl
  refine ⟨λb w'=>(b = false↔((g.T:Int) + added<=p.left/\p.left < g.T + g.N/\0<=p.level/\p.level<=g.levels.length))/\w' = w5,?_,?_⟩
  ·refine ⟨_,d0 _ (sub.refl _),ae (λu=>⟨?_,rfl⟩) λu=>?_⟩
   ·have:=YR u;simp; omega
   have u:=YS u
   refine ⟨_,d0 _ (sub.refl _),ae (λG=>⟨?_,rfl⟩) λG=>?_⟩
   ·have:=YR G;simp; omega
   have G:=YS G
   refine ⟨_,d2 _ (sub.refl _),ae (λU=>⟨?_,rfl⟩) λU=>?_⟩
   ·have:=YR U;simp; omega
   have U:=YS U;refine ⟨_,d2 _ (sub.refl _),_,_,_,c2 _ s5,?_,rfl⟩;rw [ZL]; omega
  rintro _ b2 w6 ⟨aT,rfl⟩
  refine ae (λa8=>?_) λa9=>?_
  ·subst a8;refine no _ s5 ?_;rintro ⟨_,_,p3,_⟩;have:=aT.2 (p3 p a6).1; cases this
  have aI:=aT.1 a9;refine ⟨_,_,_,d1 _ (sub.refl _),λn w'=>∃ i:Nat,n = i/\i<=X/\(∀ (k:Nat) s,k < i->p.right[k]? = some s->fw g added s)/\w' = w6,λn _=>X - n.toNat,⟨0,rfl,ω,λk s hk=>ω,rfl⟩,?_⟩;rintro _ n8 w7 ⟨i,rfl,hi,ac,rfl⟩
  refine ae (λz=>?_) λz=>?_
  ·have z:i < X:=by have:=YR z; omega
   obtain ⟨s,c7,aa,rfl,bd⟩:=ab.cY z;have a7:¬ fw g added s->_:=λhn=>no w7 s5 (λY=>hn ((Y.2.2.1 p a6).2 s (YV aa)))
   have good:fw g added s->ax ((i:Int) + 1)/\(∃ i' : Nat,(i:Int) + 1 = i'/\i'<=X/\(∀ (k:Nat) s,k < i'->p.right[k]? = some s->fw g added s)/\w7 = w7)/\X - ((i:Int) + 1).toNat < X - (i:Int).toNat:=λbl=>by
    refine ⟨⟨ω,ω⟩,⟨i + 1,σ,ω,λk s' hk a3=>?_,rfl⟩,bn z⟩
    by_cases e:k = i
    ·subst e; rw [aa] at a3; cases a3; exact bl
    ·exact ac k s' ω a3
   refine aw rfl z ⟨s,bd _ s5,ae (λu=>a7 ?_) λu=>ae (λG=>a7 ?_) λG=>⟨_,_,_,c0 _ s5,ae (λU=>ae (λh4=>a7 ?_) λh4=>good ?_) λU=>good ?_⟩⟩
   ·have:=YR u; unfold fw; omega
   ·have:=YR G; unfold fw; omega
   ·have U:=YR U; have h4:=YR h4; unfold fw; omega
   ·have u:=YS u; have G:=YS G; have U:=YR U; have h4:=YS h4; unfold fw; omega
   ·have u:=YS u; have G:=YS G; have U:=YS U; unfold fw; omega
  have z:i = X:=by have:=YS z; omega
  subst z
  have a4:mj g added p:=⟨aI,λs hs=>by
   obtain ⟨k,hk,e⟩:=List.mem_iff_getElem.1 hs;exact ac k s ω (by rw [<- e]; exact YU hk)⟩
  have Z:∀ q∈(g.prods.drop added).take (j + 1),mj g added q:=λq Y=>by
   rw [Y2,a5] at Y
   rcases YY.1 Y with Y | Y
   ·exact a1 q Y
   ·simp at Y; subst Y; exact a4
  have et:=Bp bi;refine ⟨_,d0 _ (sub.refl _),(KR (G3 (h.pick 3 [1])) ω p.left).mono ?_⟩;rintro _ _ ⟨rfl,rfl⟩
  refine ⟨_,rfl,ae (λu=>?_) λu=>?_⟩
  ·have u:p.left∉dh (((g.prods.drop added).map aP.left).take j):=by simpa using u
   refine ⟨_,d0 _ (sub.refl _),ag h λc5 w9 h=>?_⟩;refine (aL aQ (rfl:aj Ty _ = .slice _) (rfl:aj Ty _ = .slice _) rfl rfl rfl (h.pick 4 [0,2,3]) rfl (by simp [aG]) (by show (_ + 1) * 8<=_; omega) ω).mono ?_;rintro _ bT ⟨a',c',rfl,h⟩;have e2:dh (((g.prods.drop added).map aP.left).take (j + 1)) = dh (((g.prods.drop added).map aP.left).take j) ++ [p.left]:=by rw [et]; unfold pF; rw [YZ u]
   refine ⟨_,_,_,rfl,⟨ω,ω⟩,⟨j + 1,σ,ω,by rw [e2]; simp,Z,?_⟩,by dsimp only; omega⟩;rw [e2];have e3:∀ l:List Int,iv (l ++ [p.left]) = iv l ++ [.int .i64 p.left]:=λl=>by simp [iv]
   rw [e3];exact h.pick 3 [0,2]
  ·have u:p.left∈dh (((g.prods.drop added).map aP.left).take j):=by simpa using u
   have e2:dh (((g.prods.drop added).map aP.left).take (j + 1)) = dh (((g.prods.drop added).map aP.left).take j):=by rw [et]; unfold pF; rw [Y5 u]
   refine ⟨⟨ω,ω⟩,⟨j + 1,σ,ω,by rw [e2],Z,?_⟩,by dsimp only; omega⟩;rw [e2];exact h.pick 3 [1,2]
 have O:j = x.pl - added:=by have:=YS O; omega
 subst O;have el:((g.prods.drop added).map aP.left).take (x.pl - added) = (g.prods.drop added).map aP.left:=Zb (by simp; omega);rw [el] at h bA ⊢;rw [Zb ω] at a1;intro be hd;have h:=h.drawn hd;have ba:sub H (hp be):=aR 1 h.l
 refine ⟨λw'=>sub H (hp w'),ba,_,_,_,λw' s=>c1 _ s,⟨ω,ω⟩,ae (λu=>?_) λu=>?_⟩
 ·have u:((iA g added).length:Int) = (x.nl:Int) - added:=by simpa [iA] using u
  refine ⟨_,λw' s=>c3 _ s,ae (λG=>?_) λG=>?_⟩
  ·have G:=YR G;refine ⟨_,λw' s=>c3 _ s,_,_,_,_,_,rfl,?_,λ_=>rfl,R _ _ h⟩;rw [Y7];have hs:=hg.s
   constructor
   ·intro U; exact ⟨p1,p2,a1,by rw [hN]; exact u,ω,ω⟩
   ·rintro ⟨_,_,_,_,_,q⟩; omega
  ·have G:=YS G;have hs:=hg.s;exact ⟨_,_,_,_,false,rfl,⟨λh=>(by cases h),λ⟨_,_,_,_,q,_⟩=>absurd (by omega:(g.T:Int) + added<=g.start->False) ω⟩,λh=>(by cases h),R _ _ h⟩
 ·have u:¬ ((iA g added).length:Int) = (x.nl:Int) - added:=by simpa [iA] using u
  exact ⟨_,_,_,_,false,rfl,⟨λh=>(by cases h),λ⟨_,_,_,q,_⟩=>absurd (by rw [<- hN]; exact q) u⟩,λh=>(by cases h),R _ _ h⟩
theorem SU (hg:gR (hp w) g x) (hb:jd g):ρ GW [.agg ⟨x.cells⟩] w λv w'=>(∃ r:Bool,v = .bool r/\(r = true↔PM g))/\Gr w w':=by
 refine Di ?_;refine ag (St.all w) λk1 w1 h=>?_;have gw:Gr w w1:=h.aW;have hg:=hg.mono gw;have rb:au (hp w1) ⟨k1,0,none⟩ x.cells:=h.row;refine ⟨_,_,_,_,_,_,_,_,_,_,_,_,_,rb.at (sub.refl _) rfl,(FR (x:=x) hg hb 0 ω).mono ?_⟩;rintro _ w2 ⟨⟨r,rfl,hr⟩,U⟩
 refine ⟨_,rfl,ae (λz=>?_) λz=>?_⟩
 ·have z:r = false:=by simpa using z
  subst z;exact ⟨⟨false,rfl,⟨λh=>(by cases h),λh=>absurd (hr.2 h.1) σ⟩⟩,gw.trans U⟩
 have z:r = true:=by simpa using z
 have Y:=hr.1 z;refine ⟨_,_,_,_,_,_,_,_,_,_,_,_,_,(rb.mono U).at (sub.refl _) rfl,(wM (x:=x) (hg.mono U) hb 0 ω).mono ?_⟩;rintro _ w3 ⟨a,l,c,xs,r2,rfl,O,u,h3⟩;have g3:Gr w w3:=(gw.trans U).trans h3.aW
 refine ⟨_,_,_,_,rfl,ae (λV=>?_) λV=>?_⟩
 ·have u:=u V;have G:=jg h3;have R:=O.1 V;have Z:=xi ((g.prods.drop 0).map aP.left);rw [jl,u] at G
  have a0:(iA g 0).length<=96:=by
   have:=R.2.1;simp only [Y3,Z9] at Z;unfold iA; omega
  refine (KS (G3 h3) ω).mono ?_;rintro _ w4 ⟨⟨r3,rfl,W⟩,X⟩;refine ⟨_,rfl,⟨r3,rfl,?_⟩,g3.trans (Gr.of_eq X)⟩;rw [W,u];exact ⟨λh=>⟨Y,R,h⟩,λh=>h.2.2⟩
 ·subst V;exact ⟨⟨false,rfl,⟨λh=>(by cases h),λh=>absurd (O.2 h.2.1) σ⟩⟩,g3⟩
end
structure GB (H:Hp) (k:Nat) (x:GA):Prop where
 c0:∀ {w:aa4},sub H (hp w)->w.cell? ⟨k,0,none⟩ = some (.slice x.ta x.tl x.tc)
 c1:∀ {w:aa4},sub H (hp w)->w.cell? ((⟨k,0,none⟩ : Addr).add 1) = some (.slice x.na x.nl x.nc)
 c2:∀ {w:aa4},sub H (hp w)->w.cell? ((⟨k,0,none⟩ : Addr).add 2) = some (.slice x.la x.ll x.lc)
 c3:∀ {w:aa4},sub H (hp w)->w.cell? ((⟨k,0,none⟩ : Addr).add 3) = some (.int .i64 x.s)
 c4:∀ {w:aa4},sub H (hp w)->w.cell? ((⟨k,0,none⟩ : Addr).add 4) = some (.slice x.pa x.pl x.pc)
 row:∀ {w:aa4},sub H (hp w)->rowAt w ⟨k,0,none⟩ 0 5 = some x.cells
theorem PN {H:Hp} {k:Nat} {x:GA} (r:au H ⟨k,0,none⟩ x.cells):GB H k x :=
 ⟨λs=>r.cell0 s,λs=>r.cell s (j:=1) rfl,λs=>r.cell s (j:=2) rfl,λs=>r.cell s (j:=3) rfl,λs=>r.cell s (j:=4) rfl,λs=>r.at s rfl⟩
theorem cG {w:aa4} {g:af} {x:GA} {e:TypeId} {k:Nat->aa4->Prop} (hg:gR (hp w) g x) (hk:∀ k1 w1,Gr w w1->gR (hp w1) g x->GB (hp w1) k1 x->k k1 w1):new w (.cells (Array.mk x.cells) e) k :=
 ag (St.all w) λk1 w1 h=>hk k1 w1 h.aW (hg.mono h.aW) (PN h.row)
theorem iW {a:aa3} {len sz:Nat} {k:Addr->Prop} {ad:Addr} (ha:a = some ad) (hi:0 < len) (hk:k ad):idx a len 0 sz k :=
 ⟨ad,ha,ω,ω,by simpa [aN,Addr.add] using hk⟩
theorem IU:∀ {l m:List Int},l.Nodup->(∀ x∈l,x∈m)->l.length<=m.length
 | [],m,_,_=>Y4 _
 | a :: l,m,h,hs=>by
  rw [ZR] at h
  have ham:=hs a σ
  have:=IU (l:=l) (m:=m.erase a) h.2 λx hx=>(List.mem_erase_of_ne (λe=>h.1 (by subst e; exact hx))).2 (hs x (by simp [hx]))
  rw [List.length_erase_of_mem ham] at this
  have:=List.length_pos_of_mem ham
  simp only [ZC]; omega
def Dt (g:af):Prop:=g.terms[0]? = some ⟨.empty,0⟩/\(∀ t∈g.terms.drop 1,dO t.name = true/\0<=t.level/\t.level<=g.levels.length)/\((g.terms.drop 1).map jM.name).Nodup
def yI (g:af):Prop:=∀ (i:Nat) v,g.levels[i]? = some v->1<=v/\v<=3/\∃ t∈g.terms,t.level = (i:Int) + 1
def IV (g:af) (added:Nat):Prop:=(g.nons.drop added).Nodup/\∀ s∈g.nons.drop added,dD s = true
theorem xj {g:af} {added:Nat} (h:ud g added):g.levels.length<=64:=by
 obtain ⟨_,_,O,_,_,_,G,_⟩:=h
 have:=IU (l:=(List.range g.levels.length).map λ(k:Nat)=>(k:Int) + 1) (m:=(g.terms.drop 1).map jM.level) (by
  rw [ZH,ZO];exact List.Pairwise.imp (λh e=>h ω) List.nodup_range) (λx z=>by
  obtain ⟨k,u,rfl⟩:=Zh.1 z;rw [Zo] at u;obtain ⟨_,_,t,ht,e⟩:=G k _ (YU u);exact Zh.2 ⟨t,ht,e⟩)
 simp at this; omega
theorem yJ {g:af} {added:Nat}:ud g added↔added < g.nons.length/\g.terms.length<=65/\g.nons.length<=64 + added/\g.levels.length<=64/\g.terms.length - 1 + (g.nons.length - added)<=64/\Dt g/\yI g/\IV g added:=by
 constructor
 ·intro h;have Z:=xj h;obtain ⟨z,O,X,Y,R,G,W,V,U,u⟩:=h;exact ⟨O,X,Y,Z,R,⟨z,G,V⟩,λi v hv=>by obtain ⟨a,b,t,ht,e⟩:=W i v hv; exact ⟨a,b,t,aac ht,e⟩,U,u⟩
 ·rintro ⟨O,X,Y,Z,R,⟨z,G,V⟩,W,U,u⟩;refine ⟨z,O,X,Y,R,G,λi v hv=>?_,V,U,u⟩;obtain ⟨a,b,t,ht,e⟩:=W i v hv;refine ⟨a,b,t,?_,e⟩;cases hg:g.terms with
  | nil=>rw [hg] at ht; cases ht
  | cons t0 ts =>
   rw [hg] at ht z;cases z
   rcases Ze.1 ht with rfl | ht
   ·exact absurd e (by show (0:Int)≠_; omega)
   ·exact ht
section
variable {w:aa4} {L:List az} {g:af} {x:GA} {s:ByteArray}
theorem PO (hs:s.size<=4611686018427387904):ρ sg [.string s] w λv w'=>v = .bool (dO s)/\w' = w:=by
 refine pk ?_;refine ⟨λn w'=>∃ j:Nat,n = j/\j<=s.size/\(∀ i,i < j->HY (gB s i) = true)/\w' = w,λn _=>s.size - n.toNat,⟨0,rfl,ω,λi hi=>ω,rfl⟩,?_⟩;rintro _ n X ⟨j,rfl,Y,u,rfl⟩
 refine ae (λh=>?_) λh=>?_
 ·have h:j < s.size:=by have:=YR h; omega
  have z:GD (j:Int) s.size:=⟨ω,ω⟩
  have O:HY (gB s j) = false->Value.bool false = Value.bool (dO s)/\X = X:=λW=>by
   refine ⟨?_,rfl⟩
   have:(List.range s.size).all (λi=>HY (gB s i)) = false:=by
    rw [List.all_eq_false]; exact ⟨j,by simpa using h,by simp [W]⟩
   unfold dO; rw [this]; simp
  rw [Za]
  refine ⟨z,ae (λV=>O ?_) λV=>⟨z,ae (λR=>O ?_) λR=>⟨z,ae (λU=>O ?_) λU=>?_⟩⟩⟩
  ·have V:((gB s j:Nat):Int) < 32:=YR V;unfold HY; simp; omega
  ·have R:126 < ((gB s j:Nat):Int):=YR R;unfold HY; simp; omega
  ·have U:((gB s j:Nat):Int) = 39:=eq_of_beq U;unfold HY; simp; omega
  ·have V:¬ ((gB s j:Nat):Int) < 32:=YS V;have R:¬ 126 < ((gB s j:Nat):Int):=YS R;have U:¬ ((gB s j:Nat):Int) = 39:=aaA.1 U;refine ⟨⟨ω,ω⟩,⟨j + 1,σ,ω,λi hi=>?_,rfl⟩,bn h⟩
   by_cases e:i = j
   ·subst e; unfold HY; simp; omega
   ·exact u i ω
 ·have h:j = s.size:=by have:=YS h; omega
  subst h;have G:=ve.2 u;unfold dO;rw [G]
  refine ae (λh=>⟨?_,rfl⟩) λh=>⟨?_,rfl⟩
  ·have h:1<=s.size:=by have:=YR h; omega
   have e:decide ((s.size:Int)<=16) = decide (s.size<=16):=by rw [ZI]; simp only [Y7]; omega
   rw [e]; simp [h]
  ·have h:¬ 1<=s.size:=by have:=YS h; omega
   simp [h]
theorem KX (hg:gR (hp w) g x) (hb:jd g):ρ pg [.agg ⟨x.cells⟩] w λv w'=>(∃ r:Bool,v = .bool r/\(r = true↔Dt g))/\Gr w w':=by
 refine mU ?_;refine cG hg λk1 Z gw hg B=>?_;obtain ⟨b1,b2,b3,b4,b5,b6,b7⟩:=hb;have tl:=hg.t.1;have ll:=hg.l.1;have no:∀ {w'},Gr Z w'->¬ Dt g->(∃ r:Bool,Value.bool false = .bool r/\(r = true↔Dt g))/\Gr w w':=λ{w'} gg hn=>⟨⟨false,rfl,⟨λh=>(by cases h),λh=>absurd h hn⟩⟩,gw.trans gg⟩
 have a5 : ∀ {i:Nat},i < x.tl->∃ t Y,g.terms[i]? = some t/\x.ta = some Y/\(∀ w',Gr Z w'->w'.cell? (Y.add (cE i 2)) = some (.string t.name))/\(∀ w',Gr Z w'->w'.cell? ((Y.add (cE i 2)).add 1) = some (.int .i64 t.level)):=λ{i} hi=>by
  obtain ⟨t,Y,vs,R,U,h3,h4⟩:=hg.t.get hi;have h4:vs = [.string t.name,.int .i64 t.level]:=h4;subst h4;exact ⟨t,Y,R,U,λw' s=>h3.cell0 s,λw' s=>h3.cell s (j:=1) rfl⟩
 refine ⟨λb w'=>(b = false↔g.terms[0]? = some ⟨.empty,0⟩)/\w' = Z,?_,?_⟩
 ·refine ⟨_,_,_,B.c0 (sub.refl _),ae (λR=>⟨?_,rfl⟩) λR=>?_⟩
  ·have:g.terms = []:=Y9 (by simp at R; omega);simp [this]
  have R:0 < x.tl:=by simp at R; omega
  obtain ⟨t0,Y,ht1,O,q1,q2⟩:=a5 R;have q1:Z.cell? Y = some (.string t0.name):=by simpa [aN,Addr.add] using q1 Z (Gr.refl _)
  have q2:Z.cell? (Y.add 1) = some (.int .i64 t0.level):=by
   have:=q2 Z (Gr.refl _);rw [add_add] at this;simpa [aN] using this
  refine ⟨_,_,_,B.c0 (sub.refl _),iW O R ⟨_,q1,ae (λU=>⟨?_,rfl⟩) λU=>?_⟩⟩
  ·rw [yF] at U;have U:t0.name≠ByteArray.mk (Array.mk []):=by simpa using U
   rw [ht1];simp only [reduceCtorEq,false_iff];intro e; cases e; exact U rfl
  ·rw [yF] at U;have U:t0.name = ByteArray.mk (Array.mk []):=by simpa using U
   refine ⟨_,_,_,B.c0 (sub.refl _),iW O R ⟨_,q2,?_,rfl⟩⟩;rw [ht1]
   constructor
   ·intro e;have:t0.level = 0:=by simpa using e
    cases t0; simp_all; rfl
   ·intro e; cases e; rfl
 rintro _ b w2 ⟨a0,rfl⟩
 refine ae (λa7=>?_) λa8=>?_
 ·subst a7;exact no (Gr.refl _) λh=>by have:=a0.2 h.1; cases this
 have p1:=a0.1 a8;have hT:1<=x.tl:=by have:=(YT.1 p1).1; omega
 refine ⟨λn w'=>∃ j:Nat,n = (j:Int) + 1/\j + 1<=x.tl/\(∀ t∈(g.terms.drop 1).take j,dO t.name = true/\0<=t.level/\t.level<=g.levels.length)/\(((g.terms.drop 1).take j).map jM.name).Nodup/\Gr w2 w',λn _=>x.tl - n.toNat,⟨0,rfl,ω,σ,σ,Gr.refl _⟩,?_⟩;rintro _ n w3 ⟨j,rfl,hj,a3,a4,g3⟩
 refine ⟨_,_,_,B.c0 g3,ae (λz=>?_) λz=>?_⟩
 ·have z:j + 1 < x.tl:=by have:=YR z; omega
  obtain ⟨t,Y,ht1,O,q1,q2⟩:=a5 z;have X : (g.terms.drop 1)[j]? = some t:=by rw [Zv,aaQ]; exact ht1
  have aT:=YV X;obtain ⟨u1,u2⟩:=b5 t (aac aT);have et:(g.terms.drop 1).take (j + 1) = (g.terms.drop 1).take j ++ [t]:=by rw [Y2,X]; rfl
  have ej:((j:Int) + 1) = ((j + 1:Nat):Int):=ω
  rw [ej];refine ⟨_,_,_,B.c0 g3,aq O z ⟨_,q1 _ g3,(PO ω).mono ?_⟩⟩;rintro _ w4 ⟨rfl,rfl⟩
  refine ⟨_,rfl,λb w'=>(b = false↔(dO t.name = true/\0<=t.level/\t.level<=g.levels.length))/\Gr w2 w',?_,?_⟩
  ·intro w5 hd;have g5:Gr w2 w5:=g3.trans (Gr.of_eq (dT hd))
   refine ⟨λw'=>Gr w2 w',g5,ae (λR=>⟨?_,g5⟩) λR=>?_⟩
   ·have R:dO t.name = false:=by simpa using R
    simp [R]
   have R:dO t.name = true:=by simpa using R
   refine ⟨_,_,_,λw' s=>B.c0 s,aq O z ⟨_,λw' s=>q2 _ s,ae (λU=>⟨?_,g5⟩) λU=>?_⟩⟩
   ·have U:=YR U;simp [R]; omega
   have U:=YS U;refine ⟨_,_,_,λw' s=>B.c0 s,aq O z ⟨_,λw' s=>q2 _ s,_,_,_,λw' s=>B.c2 s,?_,g5⟩⟩;rw [ZL];simp only [R,true_and]; omega
  rintro _ b3 be ⟨ac,am⟩
  refine ae (λa7=>?_) λa8=>?_
  ·subst a7;exact no am λh=>by have:=ac.2 (h.2.1 t aT); cases this
  have aa:=ac.1 a8;refine ⟨λn w'=>∃ k:Nat,n = (k:Int) + 1/\k<=j/\(∀ u∈(g.terms.drop 1).take k,u.name≠t.name)/\Gr w2 w',λn _=>x.tl - n.toNat,⟨0,rfl,ω,σ,am⟩,?_⟩;rintro _ n5 bd ⟨k,rfl,hk,aI,a9⟩
  refine ae (λG=>?_) λG=>?_
  ·have G:k < j:=by have:=YR G; omega
   obtain ⟨u,bc,b0,ab,r1,_⟩:=a5 (by omega:k + 1 < x.tl);rw [O] at ab; cases ab;have a1 : (g.terms.drop 1)[k]? = some u:=by rw [Zv,aaQ]; exact b0
   have ek:((k:Int) + 1) = ((k + 1:Nat):Int):=ω
   intro bb hd;have a6:Gr w2 bb:=a9.trans (Gr.of_eq (dT hd));rw [ek];refine ⟨λw'=>Gr w2 w',a6,_,_,_,λw' s=>B.c0 s,aq O ω ⟨_,λw' s=>r1 _ s,_,_,_,λw' s=>B.c0 s,aq O z ⟨_,λw' s=>q1 _ s,?_⟩⟩⟩;rw [yF]
   refine ae (λh=>?_) λh=>?_
   ·have h:=YR h;refine no a6 λhp=>?_;have ba:=hp.2.2;have e1:((g.terms.drop 1).map jM.name)[k]? = some t.name:=by rw [YW,a1,<- h]; rfl
    have e2:((g.terms.drop 1).map jM.name)[j]? = some t.name:=by rw [YW,X]; rfl
    have:=(List.getElem?_inj (YT.1 e1).1 ba).1 (e1.trans e2.symm);omega
   ·have h:=YS h;refine ⟨⟨ω,ω⟩,⟨k + 1,σ,ω,λu' V=>?_,a6⟩,by dsimp only; omega⟩;rw [Y2,a1] at V
    rcases YY.1 V with V | V
    ·exact aI u' V
    ·simp at V; subst V; exact h
  ·have G:k = j:=by have:=YS G; omega
   subst G
   refine ⟨⟨ω,ω⟩,⟨k + 1,σ,ω,λt' W=>?_,?_,a9⟩,by dsimp only; omega⟩
   ·rw [et] at W
    rcases YY.1 W with W | W
    ·exact a3 t' W
    ·simp at W; subst W; exact aa
   ·rw [et,Zg];exact xg.2 ⟨a4,λhm=>by obtain ⟨u,hu,e⟩:=Zh.1 hm; exact aI u hu e⟩
 ·have z:j + 1 = x.tl:=by have:=YS z; omega
  rw [Zb (by simp; omega)] at a3 a4;exact ⟨⟨true,rfl,⟨λ_=>⟨p1,a3,a4⟩,λ_=>rfl⟩⟩,gw.trans g3⟩
end
def FT (g:af) (added:Nat):Prop:=ud g added/\Ab g added
theorem KY {l:List Int} (h:0 < l.length):0 < (dh l).length:=by
 obtain ⟨x,u⟩:=List.exists_mem_of_length_pos h;exact List.length_pos_of_mem (KW.2 u)
def IW (g:af) (added:Nat):Prop:=g.nons.length<=64 + added/\g.terms.length<=65/\g.prods.length<=96 + added/\added < g.prods.length/\g.levels.length<=64
theorem IX {g:af} {added:Nat}:FT g added↔IW g added/\(g.terms.length:Int) - 1 + g.nons.length - added<=64/\Dt g/\yI g/\IV g added/\(∀ p∈g.prods.drop added,mj g added p)/\((iA g added).length:Int) = (g.N:Int) - added/\(g.T:Int) + added<=g.start/\g.start < g.T + g.N:=by
 unfold FT;rw [yJ]
 constructor
 ·rintro ⟨⟨h1,V,W,z,h5,u,U,X⟩,G,Z,Y,R,O,p6⟩;exact ⟨⟨W,V,Z,G,z⟩,ω,u,U,X,Y,R,O,p6⟩
 ·rintro ⟨⟨W,V,Z,G,z⟩,h5,u,U,X,Y,R,O,p6⟩;have a0:0 < (iA g added).length:=KY (by simp; omega);have hN:g.N = g.nons.length:=rfl;have hT:1<=g.terms.length:=by have:=(YT.1 u.1).1; omega
  exact ⟨⟨ω,V,W,z,ω,u,U,X⟩,G,Z,Y,R,O,p6⟩
section
variable {w:aa4} {L:List az} {g:af} {x:GA} {s:ByteArray}
def Vx (c:Nat):Bool:=decide (c = 95) || (decide (65<=c) && decide (c<=90)) || (decide (97<=c) && decide (c<=122))
theorem IY {i c:Nat}:KQ i c = (Vx c || (decide (i≠0) && decide (48<=c) && decide (c<=57))):=rfl
theorem PQ (hs:s.size<=4611686018427387904):ρ si [.string s] w λv w'=>v = .bool (dD s)/\w' = w:=by
 refine po ?_;refine ⟨λn w'=>∃ j:Nat,n = j/\j<=s.size/\(∀ i,i < j->KQ i (gB s i) = true)/\w' = w,λn _=>s.size - n.toNat,⟨0,rfl,ω,λi hi=>ω,rfl⟩,?_⟩;rintro _ n w1 ⟨j,rfl,hj,O,rfl⟩
 refine ae (λh=>?_) λh=>?_
 ·have h:j < s.size:=by have:=YR h; omega
  have u:GD (j:Int) s.size:=⟨ω,ω⟩;have hc:((sb s j).toNat:Int) = (gB s j:Nat):=rfl;rw [Za,hc]
  refine ⟨λw'=>KQ j (gB s j) = true/\w' = w1,⟨λb w'=>b = Vx (gB s j)/\w' = w1,⟨u,?_⟩,?_⟩,?_⟩
  ·generalize gB s j = c;have a0:((c:Int) == 95) = decide (c = 95):=by rw [ZI]; simp only [aaR,Y7]; omega
   unfold Vx;rw [a0];refine ae (λY=>⟨u,ae (λW=>⟨?_,rfl⟩) λW=>⟨u,ae (λG=>⟨u,ae (λU=>⟨?_,rfl⟩) λU=>⟨u,?_,rfl⟩⟩) λG=>⟨u,?_,rfl⟩⟩⟩) λY=>⟨u,ae (λG=>⟨u,ae (λU=>⟨?_,rfl⟩) λU=>⟨u,?_,rfl⟩⟩) λG=>⟨u,?_,rfl⟩⟩
   all_goals
    rw [ZI];simp only [ZZ,Zd,Y7,ZL,true_iff] at *;omega
  ·rintro _ b Z ⟨hb,rfl⟩;rw [IY,<- hb]
   have z:KQ j (gB s j) = false->Value.bool false = Value.bool (dD s)/\Z = Z:=λX=>by
    refine ⟨?_,rfl⟩
    have:(List.range s.size).all (λi=>KQ i (gB s i)) = false:=by
     rw [List.all_eq_false]; exact ⟨j,by simpa using h,by simp [X]⟩
    unfold dD; rw [this]; simp
   rw [IY,<- hb] at z;generalize gB s j = c at z;refine ⟨u,ae (λY=>⟨u,ae (λW=>ae (λG=>ae (λU=>z ?_) λU=>⟨?_,rfl⟩) λG=>⟨?_,rfl⟩) λW=>ae (λG=>z ?_) λG=>⟨?_,rfl⟩⟩) λY=>ae (λG=>z ?_) λG=>⟨?_,rfl⟩⟩
   all_goals cases b
   all_goals first | (cases G; done) | simp
   all_goals
    simp only [aag,Bool.not_eq_false',Y7,ZL] at *;omega
  ·rintro _ Z ⟨V,rfl⟩;refine ⟨⟨ω,ω⟩,⟨j + 1,σ,ω,λi hi=>?_,rfl⟩,by dsimp only; omega⟩
   by_cases e:i = j
   ·subst e; exact V
   ·exact O i ω
 ·have h:j = s.size:=by have:=YS h; omega
  have R : (List.range s.size).all (λi=>KQ i (gB s i)) = true:=ve.2 (by rw [<- h]; exact O);unfold dD;rw [R]
  refine ae (λh=>?_) λh=>?_
  ·have h:1<=s.size:=by have:=YR h; omega
   refine ⟨?_,rfl⟩;have e:decide ((s.size:Int)<=16) = decide (s.size<=16):=by rw [ZI]; simp only [Y7]; omega
   rw [e]; simp [h]
  ·have h:¬ 1<=s.size:=by have:=YS h; omega
   exact ⟨by simp [h],rfl⟩
theorem IZ (hg:gR (hp w) g x) (hb:jd g):ρ nW [.agg ⟨x.cells⟩] w λv w'=>(∃ r:Bool,v = .bool r/\(r = true↔yI g))/\Gr w w':=by
 refine l9 ?_;refine cG hg λk1 w1 gw hg B=>?_;obtain ⟨b1,b2,b3,b4,b5,b6,b7⟩:=hb;have tl:=hg.t.1;have ll:=hg.l.1;have no:∀ {w'},Gr w1 w'->¬ yI g->(∃ r:Bool,Value.bool false = .bool r/\(r = true↔yI g))/\Gr w w':=λ{w'} gg hn=>⟨⟨false,rfl,⟨λh=>(by cases h),λh=>absurd h hn⟩⟩,gw.trans gg⟩;refine ⟨λn w'=>∃ i:Nat,n = i/\i<=x.ll/\(∀ (k:Nat) v,k < i->g.levels[k]? = some v->1<=v/\v<=3/\∃ t∈g.terms,t.level = (k:Int) + 1)/\w' = w1,λn _=>x.ll - n.toNat,⟨0,rfl,ω,λk v hk=>ω,rfl⟩,?_⟩;rintro _ n1 w2 ⟨i,rfl,hi,X,rfl⟩
 refine ⟨_,_,_,B.c2 (sub.refl _),ae (λz=>?_) λz=>?_⟩
 ·have z:i < x.ll:=by have:=YR z; omega
  obtain ⟨v,ad,U,Z,Y⟩:=hg.l.cY z;refine ⟨λb n w'=>∃ k:Nat,n = k/\k<=x.tl/\(b = true↔∃ t∈g.terms.take k,t.level = (i:Int) + 1)/\w' = w2,λb n _=>x.tl - n.toNat,⟨0,rfl,ω,σ,rfl⟩,?_⟩;rintro _ b n2 w3 ⟨k,rfl,hk,O,rfl⟩
  refine ⟨_,_,_,B.c0 (sub.refl _),ae (λu=>?_) λu=>?_⟩
  ·have u:k < x.tl:=by have:=YR u; omega
   obtain ⟨t,a4,vs,ht1,a1,a0,V⟩:=hg.t.get u;have V:vs = [.string t.name,.int .i64 t.level]:=V;subst V;have et:g.terms.take (k + 1) = g.terms.take k ++ [t]:=by rw [Y2,ht1]; rfl
   refine ae (λG=>?_) λG=>?_
   ·subst G;refine ⟨⟨ω,ω⟩,⟨k + 1,σ,ω,?_,rfl⟩,bn u⟩;obtain ⟨t',G,R⟩:=O.1 rfl;exact ⟨λ_=>⟨t',by rw [et]; exact YY.2 (.inl G),R⟩,λ_=>rfl⟩
   ·subst G;refine ⟨_,_,_,B.c0 (sub.refl _),aq a1 u ⟨_,a0.cell (sub.refl _) (j:=1) rfl,⟨ω,ω⟩,⟨ω,ω⟩,⟨k + 1,σ,ω,?_,rfl⟩,bn u⟩⟩;rw [et]
    constructor
    ·intro h; exact ⟨t,σ,by simpa using h⟩
    ·rintro ⟨t',G,R⟩
     rcases YY.1 G with G | G
     ·have:=O.2 ⟨t',G,R⟩; cases this
     ·simp at G; subst G; simpa using R
  ·have u:k = x.tl:=by have:=YS u; omega
   rw [Zb ω] at O
   refine ae (λG=>no (Gr.refl _) λhp=>?_) λG=>?_
   ·have:=O.2 (hp i v U).2.2;rw [this] at G; cases G
   have G:b = true:=by simpa using G
   refine ⟨_,_,_,B.c2 (sub.refl _),aw Z z ⟨_,Y _ (sub.refl _),ae (λR=>no (Gr.refl _) λhp=>?_) λR=>⟨_,_,_,B.c2 (sub.refl _),aw Z z ⟨_,Y _ (sub.refl _),ae (λh3=>no (Gr.refl _) λhp=>?_) λh3=>?_⟩⟩⟩⟩
   ·have:=YR R; have:=(hp i v U).1; omega
   ·have:=YR h3; have:=(hp i v U).2.1; omega
   ·have R:=YS R;have h3:=YS h3;refine ⟨⟨ω,ω⟩,⟨i + 1,σ,ω,λk' v' a3 W=>?_,rfl⟩,bn z⟩
    by_cases e:k' = i
    ·subst e; rw [U] at W; cases W; exact ⟨ω,ω,O.1 G⟩
    ·exact X k' v' ω W
 ·have z:i = x.ll:=by have:=YS z; omega
  subst z;exact ⟨⟨true,rfl,⟨λ_ i v hv=>X i v (by have:=(YT.1 hv).1; omega) hv,λ_=>rfl⟩⟩,gw⟩
theorem NQ (hg:gR (hp w) g x) (hb:jd g) (added:Nat):ρ qq [.agg ⟨x.cells⟩,.int .i64 (added:Int)] w λv w'=>(∃ r:Bool,v = .bool r/\(r = true↔IV g added))/\Gr w w':=by
 refine nY ?_;refine cG hg λk1 w1 gw hg B=>?_;obtain ⟨b1,b2,b3,b4,b5,b6,b7⟩:=hb;have nl:=hg.n.1;have no:∀ {w'},Gr w1 w'->¬ IV g added->(∃ r:Bool,Value.bool false = .bool r/\(r = true↔IV g added))/\Gr w w':=λ{w'} gg hn=>⟨⟨false,rfl,⟨λh=>(by cases h),λh=>absurd h hn⟩⟩,gw.trans gg⟩;refine ⟨λn w'=>∃ i:Nat,n = ((added + i:Nat):Int)/\(added + i<=x.nl\/i = 0)/\((g.nons.drop added).take i).Nodup/\(∀ s∈(g.nons.drop added).take i,dD s = true)/\Gr w1 w',λn _=>x.nl - n.toNat,⟨0,rfl,.inr rfl,σ,σ,Gr.refl _⟩,?_⟩;rintro _ n1 w2 ⟨i,rfl,hi,Y,X,Z⟩
 refine ⟨_,_,_,B.c1 Z,ae (λG=>?_) λG=>?_⟩
 ·have G:added + i < x.nl:=by have:=YR G; omega
  obtain ⟨s,ad,a5,W,a0⟩:=hg.n.cY G;have V : (g.nons.drop added)[i]? = some s:=by rw [Zv]; exact a5
  have a1:=YV V;have et:(g.nons.drop added).take (i + 1) = (g.nons.drop added).take i ++ [s]:=by rw [Y2,V]; rfl
  refine ⟨_,_,_,B.c1 Z,aw W G ⟨_,a0 _ Z,(PQ (by have:=b6 s (aac a1); omega)).mono ?_⟩⟩;rintro _ w2 ⟨rfl,rfl⟩
  refine ⟨_,rfl,ae (λh1=>no Z λhp=>?_) λh1=>?_⟩
  ·rw [hp.2 s a1] at h1; cases h1
  have h1:dD s = true:=by simpa using h1
  refine ⟨λn w'=>∃ k:Nat,n = ((added + k:Nat):Int)/\k<=i/\(∀ u∈(g.nons.drop added).take k,u≠s)/\Gr w1 w',λn _=>x.nl - n.toNat,⟨0,rfl,ω,σ,Z⟩,?_⟩;rintro _ n2 w4 ⟨k,rfl,hk,a3,g4⟩
  refine ae (λz=>?_) λz=>?_
  ·have z:k < i:=by have:=YR z; omega
   obtain ⟨u,a8,a7,a4,a6⟩:=hg.n.cY (by omega:added + k < x.nl);rw [W] at a4; cases a4;have U : (g.nons.drop added)[k]? = some u:=by rw [Zv]; exact a7
   intro w5 hd;have g5:Gr w1 w5:=g4.trans (Gr.of_eq (dT hd));refine ⟨λw'=>Gr w1 w',g5,_,_,_,λw' s=>B.c1 s,aw W ω ⟨_,λw' s=>a6 _ s,_,_,_,λw' s=>B.c1 s,aw W G ⟨_,λw' s=>a0 _ s,?_⟩⟩⟩;rw [yF]
   refine ae (λh=>no g5 λhp=>?_) λh=>?_
   ·have h:=YR h;subst h;have:=(List.getElem?_inj (YT.1 U).1 hp.1).1 (U.trans V.symm);omega
   ·have h:=YS h;refine ⟨⟨ω,ω⟩,⟨k + 1,ω,ω,λu' O=>?_,g5⟩,by dsimp only; omega⟩;rw [Y2,U] at O
    rcases YY.1 O with O | O
    ·exact a3 u' O
    ·simp at O; subst O; exact h
  ·have z:k = i:=by have:=YS z; omega
   subst z
   refine ⟨⟨ω,ω⟩,⟨k + 1,ω,ω,?_,λt' R=>?_,g4⟩,by dsimp only; omega⟩
   ·rw [et]; exact xg.2 ⟨Y,λhm=>a3 s hm rfl⟩
   ·rw [et] at R
    rcases YY.1 R with R | R
    ·exact X t' R
    ·simp at R; subst R; exact h1
 ·have G:=YS G;rw [Zb (by simp; omega)] at X Y;exact ⟨⟨true,rfl,⟨λ_=>⟨Y,X⟩,λ_=>rfl⟩⟩,gw.trans Z⟩
theorem iX (hg:gR (hp w) g x) (hb:jd g):ρ qp [.agg ⟨x.cells⟩] w λv w'=>v = .int .i64 ((g.T:Int) + g.N)/\Gr w w':=by
 refine nV ?_;refine cG hg λR z gw hg B=>?_;have tl:=hg.t.1;have nl:=hg.n.1;obtain ⟨O,U,G,W,u,V,X⟩:=hb;exact ⟨_,_,_,B.c0 (sub.refl _),_,_,_,B.c1 (sub.refl _),⟨ω,ω⟩,by unfold af.T af.N; rw [tl,nl],gw⟩
theorem KZ (hg:gR (hp w) g x) (hb:jd g) (added:Nat):ρ ph [.agg ⟨x.cells⟩,.int .i64 (added:Int),.int .i64 ((g.T:Int) + added)] w λv w'=>(∃ r:Bool,v = .bool r/\(r = true↔∀ p∈g.prods.drop added,mj g added p))/\Gr w w':=by
 refine mX ?_;refine cG hg λk1 w1 gw hg B=>?_;have a7:=hb;obtain ⟨b1,b2,b3,b4,b5,b6,b7⟩:=hb;have tl:g.T = x.tl:=hg.t.1;have nl:g.N = x.nl:=hg.n.1;have ll:=hg.l.1;have pl:=hg.p.1;have no:∀ {w'},Gr w1 w'->¬ (∀ p∈g.prods.drop added,mj g added p)->(∃ r:Bool,Value.bool false = .bool r/\(r = true↔∀ p∈g.prods.drop added,mj g added p))/\Gr w w':=λ{w'} gg hn=>⟨⟨false,rfl,⟨λh=>(by cases h),λh=>absurd h hn⟩⟩,gw.trans gg⟩;refine ⟨λn w'=>∃ j:Nat,n = ((added + j:Nat):Int)/\(added + j<=x.pl\/j = 0)/\(∀ p∈(g.prods.drop added).take j,mj g added p)/\Gr w1 w',λn _=>x.pl - n.toNat,⟨0,rfl,.inr rfl,σ,Gr.refl _⟩,?_⟩;rintro _ n1 w2 ⟨j,rfl,hj,a1,g2⟩
 refine ⟨_,_,_,B.c4 g2,ae (λG=>?_) λG=>?_⟩
 ·have G:added + j < x.pl:=by have:=YR G; omega
  obtain ⟨p,ad,vs,aI,b0,aT,ra,Z,rc,rfl,bi,a8⟩:=hg.p.get G;have a0 : (g.prods.drop added)[j]? = some p:=by rw [Zv]; exact aI
  have a4:=YV a0;have bl:=a8.1;have bA:=b7 p (aac a4);refine ⟨_,_,_,B.c4 g2,aq b0 G ⟨_,_,_,_,_,aT.at g2 rfl,ag (St.all w2) λk8 w3 h=>aU h rfl (by simp [aG]) λR h=>?_⟩⟩;have Y:Gr w1 R:=g2.trans h.aW;have W:au (hp R) ⟨k8,0,none⟩ [.int .i64 p.left,.slice ra Z rc,.int .i64 p.level]:=h.row;have d0:=λ(w' : aa4) (s:Gr R w')=>W.cell0 s;have d1:=λ(w' : aa4) (s:Gr R w')=>W.cell s (j:=1) (v:=.slice ra Z rc) rfl;have d2:=λ(w' : aa4) (s:Gr R w')=>W.cell s (j:=2) (v:=.int .i64 p.level) rfl
  refine ⟨λb w'=>(b = false↔((g.T:Int) + added<=p.left/\p.left < g.T + g.N/\0<=p.level/\p.level<=g.levels.length))/\Gr R w',?_,?_⟩
  ·intro w5 hd;have g5:Gr R w5:=Gr.of_eq (dT hd)
   refine ⟨λw'=>Gr R w',g5,_,λw' s=>d0 _ s,ae (λX=>⟨?_,g5⟩) λX=>?_⟩
   ·have:=YR X;simp; omega
   have X:=YS X;refine ⟨_,λw' s=>d0 _ s,_,_,_,_,_,_,_,_,_,_,_,_,_,λw' s=>B.row (Y.trans s),(iX (x:=x) (hg.mono (Y.trans g5)) a7).mono ?_⟩;rintro _ w9 ⟨rfl,g9⟩;have g9:Gr R w9:=g5.trans g9
   refine ⟨_,rfl,λw'=>Gr R w',g9,λ_ h=>h,ae (λV=>⟨?_,g9⟩) λV=>?_⟩
   ·have:=YR V;simp; omega
   have V:=YS V
   refine ⟨_,λw' s=>d2 _ s,ae (λU=>⟨?_,g9⟩) λU=>?_⟩
   ·have:=YR U;simp; omega
   have U:=YS U;refine ⟨_,λw' s=>d2 _ s,_,_,_,λw' s=>B.c2 (Y.trans s),?_,g9⟩;rw [ZL]; omega
  rintro _ b2 bP ⟨ac,ab⟩
  refine ae (λbc=>?_) λbd=>?_
  ·subst bc;exact no (Y.trans ab) λh=>by have:=ac.2 (h p a4).1; cases this
  have aa:=ac.1 bd;refine ⟨λn w'=>∃ i:Nat,n = i/\i<=Z/\(∀ (k:Nat) s,k < i->p.right[k]? = some s->fw g added s)/\Gr R w',λn _=>Z - n.toNat,⟨0,rfl,ω,λk s hk=>ω,ab⟩,?_⟩;rintro _ n8 bG ⟨i,rfl,hi,a9,z⟩
  refine ⟨_,_,_,d1 _ z,ae (λu=>?_) λu=>?_⟩
  ·have u:i < Z:=by have:=YR u; omega
   obtain ⟨s,bC,a6,be,ba⟩:=a8.cY u;have a5:∀ {w'},Gr R w'->¬ fw g added s->_:=λ{w'} gg hn=>no (Y.trans gg) (λhq=>hn ((hq p a4).2 s (YV a6)))
   have good:∀ {w'},Gr R w'->fw g added s->ax ((i:Int) + 1)/\(∃ i' : Nat,(i:Int) + 1 = i'/\i'<=Z/\(∀ (k:Nat) s,k < i'->p.right[k]? = some s->fw g added s)/\Gr R w')/\Z - ((i:Int) + 1).toNat < Z - (i:Int).toNat:=λ{w'} gg bb=>by
    refine ⟨⟨ω,ω⟩,⟨i + 1,σ,ω,λk s' hk a3=>?_,gg⟩,bn u⟩
    by_cases e:k = i
    ·subst e; rw [a6] at a3; cases a3; exact bb
    ·exact a9 k s' ω a3
   refine ⟨_,_,_,d1 _ z,aw be u ⟨s,ba _ (Y.trans z),ae (λX=>a5 z ?_) λX=>?_⟩⟩
   ·have:=YR X; unfold fw; omega
   refine ⟨_,_,_,_,_,_,_,_,_,_,_,_,_,B.row (Y.trans z),(iX (x:=x) (hg.mono (Y.trans z)) a7).mono ?_⟩;rintro _ am ⟨rfl,O⟩;have O:Gr R am:=z.trans O
   refine ⟨_,rfl,ae (λV=>a5 O ?_) λV=>⟨_,_,_,B.c0 (Y.trans O),ae (λU=>ae (λh4=>a5 O ?_) λh4=>good O ?_) λU=>good O ?_⟩⟩
   ·have:=YR V; unfold fw; omega
   ·have U:=YR U; have h4:=YR h4; unfold fw; omega
   ·have X:=YS X; have V:=YS V; have U:=YR U; have h4:=YS h4; unfold fw; omega
   ·have X:=YS X; have V:=YS V; have U:=YS U; unfold fw; omega
  have u:i = Z:=by have:=YS u; omega
  subst u;refine ⟨⟨ω,ω⟩,⟨j + 1,ω,ω,λq hq=>?_,Y.trans z⟩,by dsimp only; omega⟩;rw [Y2,a0] at hq
  rcases YY.1 hq with hq | hq
  ·exact a1 q hq
  ·simp at hq; subst hq
   exact ⟨aa,λs hs=>by
    obtain ⟨k,hk,e⟩:=List.mem_iff_getElem.1 hs;exact a9 k s ω (by rw [<- e]; exact YU hk)⟩
 ·have G:=YS G;rw [Zb (by simp; omega)] at a1;exact ⟨⟨true,rfl,⟨λ_=>a1,λ_=>rfl⟩⟩,gw.trans g2⟩
theorem SV (hg:gR (hp w) g x) (hb:jd g) (added:Nat):ρ tU [.agg ⟨x.cells⟩,.int .i64 (added:Int)] w λv w'=>∃ a c,v = .slice a (iA g added).length c/\St w' (own 1 a (iA g added).length c (iv (iA g added)) :: all w):=by
 refine qu ?_;refine cG hg λk1 R gw hg B=>?_;obtain ⟨b1,b2,b3,b4,b5,b6,b7⟩:=hb;have pl:=hg.p.1;have V:∀ {w' : aa4} {A:az},St w' (A :: all R)->St w' (A :: all w):=λh=>h.nf (bH gw)
 refine ⟨λo l' c' n w'=>∃ j:Nat,n = ((added + j:Nat):Int)/\(added + j<=x.pl\/j = 0)/\(dh (((g.prods.drop added).map aP.left).take j)).length = l' /\
   St w' (own 1 o l' c' (iv (dh (((g.prods.drop added).map aP.left).take j))) :: all R),λ_ _ _ n _=>x.pl - n.toNat,⟨0,rfl,.inr rfl,rfl,ay 1 (St.all R)⟩,?_⟩
 rintro _ o1 _ c1 n1 w2 ⟨j,rfl,hj,rfl,h⟩;have g2:Gr R w2:=h.aW;have a8:(dh (((g.prods.drop added).map aP.left).take j)).length<=j:=Zq (xi _) (by simp; omega)
 refine ⟨_,_,_,B.c4 g2,ae (λz=>?_) λz=>?_⟩
 ·have z:added + j < x.pl:=by have:=YR z; omega
  obtain ⟨p,ad,vs,a0,Y,X,ra,rl,rc,rfl,a6,a4⟩:=hg.p.get z;have W : (g.prods.drop added)[j]? = some p:=by rw [Zv]; exact a0
  have a1:((g.prods.drop added).map aP.left)[j]? = some p.left:=by rw [YW,W]; rfl
  have et:=Bp a1;generalize hLJ:dh (((g.prods.drop added).map aP.left).take j) = LJ at *;refine ⟨λb n w'=>∃ k:Nat,n = k/\k<=LJ.length/\(b = true↔p.left∈LJ.take k)/\St w' (own 1 o1 LJ.length c1 (iv LJ) :: all R),λb n _=>LJ.length - n.toNat,⟨0,rfl,ω,σ,h⟩,?_⟩;clear h g2;rintro _ b n2 w3 ⟨k,rfl,hk,O,h⟩
  refine ae (λu=>?_) λu=>?_
  ·have u:k < LJ.length:=by have:=YR u; omega
   intro w4 hd;have h:=h.drawn hd;have g4:Gr R w4:=h.aW;obtain ⟨y,a7,a3,rfl,Z⟩:=(G3 h).cY u;have ey:LJ.take (k + 1) = LJ.take k ++ [y]:=bI a3
   refine ⟨λw'=>Gr w4 w',Gr.refl _,ae (λG=>?_) λG=>?_⟩
   ·subst G;exact ⟨⟨ω,ω⟩,⟨k + 1,σ,ω,⟨λ_=>by rw [ey]; exact YY.2 (.inl (O.1 rfl)),λ_=>rfl⟩,h⟩,bn u⟩
   ·subst G;refine aw rfl u ⟨y,λw' s=>Z _ s,_,_,_,λw' s=>B.c4 (g4.trans s),aq Y z ⟨_,λw' s=>X.cell0 (g4.trans s),⟨ω,ω⟩,⟨k + 1,σ,ω,?_,h⟩,bn u⟩⟩;rw [ey,YY];have:p.left∉LJ.take k:=λhm=>by have:=O.2 hm; cases this
    simp only [this,false_or,Zl,aaR];exact eq_comm
  ·have u:k = LJ.length:=by have:=YS u; omega
   subst u;rw [Zi] at O
   refine ae (λG=>?_) λG=>?_
   ·have G:p.left∉LJ:=λhm=>by rw [O.2 hm] at G; cases G
    refine ⟨_,_,_,B.c4 h.aW,aq Y z ⟨_,X.cell0 h.aW,ag h λa9 w8 h=>?_⟩⟩;refine (aL aQ (rfl:aj Ty _ = .slice _) (rfl:aj Ty _ = .slice _) rfl rfl rfl h rfl (by simp [aG]) (by show (_ + 1) * 8<=_; omega) ω).mono ?_;rintro _ a5 ⟨a',c',rfl,h⟩;have U:dh (((g.prods.drop added).map aP.left).take (j + 1)) = LJ ++ [p.left]:=by rw [et]; unfold pF; rw [YZ G]
    refine ⟨_,_,_,rfl,⟨ω,ω⟩,⟨j + 1,ω,ω,by rw [U]; simp,?_⟩,by dsimp only; omega⟩;rw [U];have e3:∀ l:List Int,iv (l ++ [p.left]) = iv l ++ [.int .i64 p.left]:=λl=>by simp [iv]
    rw [e3];exact h.pick 3 [0,2]
   ·have G:p.left∈LJ:=O.1 (by simpa using G);have U:dh (((g.prods.drop added).map aP.left).take (j + 1)) = LJ:=by rw [et]; unfold pF; rw [Y5 G]
    refine ⟨⟨ω,ω⟩,⟨j + 1,ω,ω,by rw [U],?_⟩,by dsimp only; omega⟩;rw [U]; exact h
 ·have z:=YS z;have el:((g.prods.drop added).map aP.left).take j = (g.prods.drop added).map aP.left:=Zb (by simp; omega);rw [el] at h ⊢;exact ⟨o1,c1,rfl,V h⟩
end
theorem Gr.drawn {w w' : aa4} (h:Proofs.YtndaepmjkbmjmaaGreatDoor.drawn w w'):Gr w w':=Gr.of_eq (dT h)
theorem K1 {g:af}:ak g↔(2<=g.nons.length/\g.nons[0]? = some .empty/\2<=g.prods.length/\∃ p,g.prods[0]? = some p/\p.left = (g.T:Int)/\p.right = [g.start]/\p.level = 0)/\FT g 1:=by
 unfold ak FT
 constructor
 ·rintro ⟨O,u,z,G⟩;have:=(yJ.1 u).1;have:=(IX.1 ⟨u,z⟩).1.2.2.2.1;exact ⟨⟨ω,O,ω,G⟩,u,z⟩
 ·rintro ⟨⟨_,O,_,G⟩,u,z⟩;exact ⟨O,u,z,G⟩
section
variable {w:aa4} {L:List az} {g:af} {x:GA} {s:ByteArray}
theorem Vy (hg:gR (hp w) g x) (hb:jd g) (added:Nat) (ha:added<=1):ρ vv [.agg ⟨x.cells⟩,.int .i64 (added:Int)] w λv w'=>(∃ r:Bool,v = .bool r/\(r = true↔FT g added))/\Gr w w':=by
 refine r_ ?_;refine cG hg λk1 w1 gw hg B=>?_;have u:=hb;obtain ⟨b1,b2,b3,b4,b5,b6,b7⟩:=hb;have tl:=hg.t.1;have nl:=hg.n.1;have ll:=hg.l.1;have pl:=hg.p.1;have hT:g.T = x.tl:=tl;have hN:g.N = x.nl:=nl;have a0:=hg.s;rw [IX];unfold IW;rw [hT,hN,tl,nl,ll,pl];generalize hP:(_/\_:Prop) = P;have no:∀ {w'},Gr w1 w'->¬ P->(∃ r:Bool,Value.bool false = .bool r/\(r = true↔P))/\Gr w w':=λ{w'} gg hn=>⟨⟨false,rfl,⟨λh=>(by cases h),λh=>absurd h hn⟩⟩,gw.trans gg⟩
 refine ⟨λb w'=>(b = false↔(x.nl<=64 + added/\x.tl<=65/\x.pl<=96 + added/\added < x.pl/\x.ll<=64))/\w' = w1,?_,?_⟩
 ·refine ⟨_,_,_,B.c1 (sub.refl _),⟨ω,ω⟩,ae (λX=>⟨?_,rfl⟩) λX=>⟨_,_,_,B.c0 (sub.refl _),ae (λR=>⟨?_,rfl⟩) λR=>⟨_,_,_,B.c4 (sub.refl _),⟨ω,ω⟩,ae (λz=>⟨?_,rfl⟩) λz=>⟨_,_,_,B.c4 (sub.refl _),⟨ω,ω⟩,ae (λh4=>⟨?_,rfl⟩) λh4=>⟨_,_,_,B.c2 (sub.refl _),?_,rfl⟩⟩⟩⟩⟩
  all_goals simp only [Y7,ZL,Bool.true_eq_false,false_iff] at *
  all_goals omega
 rintro _ b G ⟨V,rfl⟩
 refine ae (λX=>no (Gr.refl _) λhp=>?_) λX=>?_
 ·rw [<- hP] at hp;have:=V.2 hp.1;rw [X] at this; cases this
 obtain ⟨z1,z2,z3,z4,z5⟩:=V.1 X
 refine ⟨_,_,_,B.c0 (sub.refl _),⟨ω,ω⟩,_,_,_,B.c1 (sub.refl _),⟨ω,ω⟩,⟨ω,ω⟩,ae (λR=>no (Gr.refl _) λhp=>?_) λR=>?_⟩
 ·rw [<- hP] at hp;have:=YR R; have:=hp.2.1; omega
 have R:=YS R;refine ⟨_,_,_,_,_,_,_,_,_,_,_,_,_,B.row (sub.refl _),(KX (x:=x) hg u).mono ?_⟩;rintro _ w3 ⟨⟨r1,rfl,e1⟩,g3⟩
 refine ⟨_,rfl,ae (λz=>no g3 λhp=>?_) λz=>?_⟩
 ·rw [<- hP] at hp;have:=e1.2 hp.2.2.1; rw [this] at z; cases z
 have z:r1 = true:=by simpa using z
 have e1:=e1.1 z;refine ⟨_,_,_,_,_,_,_,_,_,_,_,_,_,B.row g3,(IZ (x:=x) (hg.mono g3) u).mono ?_⟩;rintro _ w4 ⟨⟨r2,rfl,e2⟩,Y⟩;have Y:Gr G w4:=g3.trans Y;refine ⟨_,rfl,_,_,_,_,_,_,_,_,_,_,_,_,_,B.row Y,(NQ (x:=x) (hg.mono Y) u added).mono ?_⟩;rintro _ w5 ⟨⟨r3,rfl,e3⟩,U⟩;have U:Gr G w5:=Y.trans U;have Z:=KZ (x:=x) (hg.mono U) u added;rw [hT] at Z;refine ⟨_,rfl,_,_,_,_,_,_,_,_,_,_,_,_,_,B.row U,_,_,_,B.c0 U,⟨ω,ω⟩,Z.mono ?_⟩;rintro _ w6 ⟨⟨r4,rfl,e4⟩,g6⟩;have g6:Gr G w6:=U.trans g6;refine ⟨_,rfl,_,_,_,_,_,_,_,_,_,_,_,_,_,B.row g6,(SV (x:=x) (hg.mono g6) u added).mono ?_⟩;rintro _ w7 ⟨a,c,rfl,h7⟩;have g7:Gr G w7:=g6.trans h7.aW;refine ⟨_,_,_,rfl,λw8 hd=>⟨λw'=>Gr G w',g7.trans (Gr.drawn hd),?_⟩⟩;have O:Gr G w8:=g7.trans (Gr.drawn hd)
 refine ae (λi1=>ae (λi2=>ae (λi3=>⟨_,_,_,λw' s=>B.c1 s,⟨ω,ω⟩,ae (λW=>⟨_,λw' s=>B.c3 s,_,_,_,λw' s=>B.c0 s,⟨ω,ω⟩,ae (λi5=>⟨_,λw' s=>B.c3 s,_,_,_,_,_,_,_,_,_,_,_,_,_,λw' s=>B.row s,(iX (x:=x) (hg.mono O) u).mono ?_⟩) λi5=>no O λhp=>?_⟩) λW=>no O λhp=>?_⟩) λi3=>no O λhp=>?_) λi2=>no O λhp=>?_) λi1=>no O λhp=>?_
 ·rintro _ w9 ⟨rfl,g9⟩;have g9:Gr G w9:=O.trans g9;refine ⟨_,rfl,g9,⟨_,rfl,?_⟩,gw.trans g9⟩;rw [<- hP,hT,hN,Y7,<- a0];have W:=eq_of_beq W;have i5:=YR i5;exact ⟨λh=>⟨⟨z1,z2,z3,z4,z5⟩,ω,e1,e2.1 i1,e3.1 i2,e4.1 i3,W,i5,h⟩,λh=>h.2.2.2.2.2.2.2.2⟩
 ·rw [<- hP,<- a0] at hp;have:=YS i5; have:=hp.2.2.2.2.2.2.2.1; omega
 ·rw [<- hP] at hp;have:=hp.2.2.2.2.2.2.1;simp only [aaA,ne_eq] at W;omega
 ·rw [<- hP] at hp;rw [e4.2 hp.2.2.2.2.2.1] at i3; cases i3
 ·rw [<- hP] at hp;rw [e3.2 hp.2.2.2.2.1] at i2; cases i2
 ·rw [<- hP] at hp;rw [e2.2 hp.2.2.2.1] at i1; cases i1
end
def im (g:af):Prop:=PM g\/ak g
theorem Vz (ad:Addr) (n:Nat):ad.add (cE 0 n) = ad:=by simp [aN,Addr.add]
section
variable {w:aa4} {L:List az} {g:af} {x:GA} {s:ByteArray}
theorem I0 (hg:gR (hp w) g x) (hb:jd g):ρ rY [.agg ⟨x.cells⟩] w λv w'=>(∃ r:Bool,v = .bool r/\(r = true↔ak g))/\Gr w w':=by
  refine oZ ?_
  refine cG hg λk1 w1 gw hg B=>?_
  have tl:=hg.t.1
  have nl:=hg.n.1
  have pl:=hg.p.1
  have hT:g.T = x.tl:=tl
  have hst:=hg.s
  rw [K1]
  generalize hP:(_/\_:Prop) = P
  have no:∀ {w'},Gr w1 w'->¬ P->(∃ r:Bool,Value.bool false = .bool r/\(r = true↔P))/\Gr w w':=λ{w'} gg hn=>⟨⟨false,rfl,⟨λh=>(by cases h),λh=>absurd h hn⟩⟩,gw.trans gg⟩
  refine ⟨λb w'=>(b = false↔(2<=g.nons.length/\g.nons[0]? = some .empty/\2<=g.prods.length))/\w' = w1,?_,?_⟩
  · refine ⟨_,_,_,B.c1 (sub.refl _),ae (λh1=>⟨?_,rfl⟩) λh1=>?_⟩
    · have:=YR h1; simp; omega
    have h1:=YS h1
    obtain ⟨s,ad,hs1,hsa,hs2⟩:=hg.n.cY (i:=0) ω
    refine ⟨_,_,_,B.c1 (sub.refl _),iW hsa ω ⟨s,hs2 _ (sub.refl _),?_⟩⟩
    rw [yF]
    change br (!decide (s = .empty)) _ _
    refine ae (λh2=>⟨?_,rfl⟩) λh2=>⟨_,_,_,B.c4 (sub.refl _),?_,rfl⟩
    · have h2:s≠.empty:=by simpa using h2
      rw [hs1]; simp [h2]
    · have h2:s = .empty:=by simpa using h2
      rw [hs1,ZL]; simp [h2]; omega
  rintro _ b w2 ⟨hb0,rfl⟩
  refine ae (λh1=>no (Gr.refl _) λhp=>?_) λh1=>?_
  · rw [<- hP] at hp
    have:=hb0.2 ⟨hp.1.1,hp.1.2.1,hp.1.2.2.1⟩
    rw [h1] at this; cases this
  obtain ⟨z1,z2,z3⟩:=hb0.1 h1
  obtain ⟨p,ad,vs,hp1,hpa,hp2,a,l,c,rfl,hlc,hp3⟩:=hg.p.get (i:=0) ω
  rw [Vz] at hp2
  refine ⟨_,_,_,B.c4 (sub.refl _),iW hpa ω ⟨_,_,_,_,_,hp2.at (sub.refl _) rfl,ag (St.all w2) λk w3 h3=>aU h3 rfl (by intro v hv; simp at hv; rcases hv with rfl | rfl | rfl <;> rfl) λw4 h4=>?_⟩⟩
  intro w5 hd
  have h5:=h4.drawn hd
  have g5:Gr w2 w5:=h5.aW
  have rb:=h5.row
  have pr:=hp3.mono g5
  have hP' : P↔((p.left = (x.tl:Int)/\l = 1/\p.right = [g.start]/\p.level = 0)/\FT g 1):=by
    rw [<- hP]
    constructor
    · rintro ⟨⟨_,_,_,q,hq,q1,q2,q3⟩,hf⟩
      rw [hp1] at hq; cases hq
      exact ⟨⟨ω,by rw [<- hp3.1,q2]; rfl,q2,q3⟩,hf⟩
    · rintro ⟨⟨q1,_,q2,q3⟩,hf⟩
      exact ⟨⟨z1,z2,z3,p,hp1,ω,q2,q3⟩,hf⟩
  refine ⟨λw'=>sub (hp w5) (hp w'),sub.refl _,_,λw' s=>rb.cell0 s,_,_,_,λw' s=>B.c0 (sub.trans g5 s),ae (λh6=>no g5 λhp=>?_) λh6=>⟨_,_,_,λw' s=>rb.cell s (j:=1) rfl,ae (λh7=>no g5 λhp=>?_) λh7=>?_⟩⟩
  · have:=(hP'.1 hp).1.1
    simp only [bne_iff_ne,ne_eq] at h6; omega
  · have:=(hP'.1 hp).1.2.1
    simp only [bne_iff_ne,ne_eq] at h7; omega
  have h6:p.left = (x.tl:Int):=by simpa using h6
  have h7 : l = 1 := by have h7 : (l : Int) = 1 := by simpa using h7
                        omega
  obtain ⟨y,ad2,hy1,hya,hy2⟩:=pr.cY (i:=0) ω
  have hr:p.right = [y]:=by
    have hl:=pr.1
    match hq:p.right,hl,hy1 with
    | [z],_,hy1=>simp at hy1; rw [hy1]
    | [],hl,_=>simp at hl; omega
    | _ :: _ :: _,hl,_=>simp at hl; omega
  refine ⟨_,_,_,λw' s=>rb.cell s (j:=1) rfl,iW hya ω ⟨y,λw' s=>hy2 _ s,_,λw' s=>B.c3 (sub.trans g5 s),ae (λh8=>no g5 λhp=>?_) λh8=>⟨_,λw' s=>rb.cell s (j:=2) rfl,ae (λh9=>no g5 λhp=>?_) λh9=>?_⟩⟩⟩
  · have:=(hP'.1 hp).1.2.2.1
    rw [hr] at this
    simp only [bne_iff_ne,ne_eq] at h8
    simp at this; omega
  · have:=(hP'.1 hp).1.2.2.2
    simp only [bne_iff_ne,ne_eq] at h9; omega
  have h8:y = x.s:=by simpa using h8
  have h9:p.level = 0:=by simpa using h9
  refine ⟨_,_,_,_,_,_,_,_,_,_,_,_,_,B.row g5,(Vy (x:=x) (hg.mono g5) hb 1 ω).mono ?_⟩
  rintro _ w6 ⟨⟨r,rfl,e⟩,g6⟩
  refine ⟨_,rfl,⟨r,rfl,?_⟩,gw.trans (g5.trans g6)⟩
  rw [hP',e]
  exact ⟨λh=>⟨⟨h6,h7,by rw [hr,h8,hst],h9⟩,h⟩,λh=>h.2⟩
theorem yK (hg:gR (hp w) g x) (hb:jd g):ρ EW [.agg ⟨x.cells⟩] w λv w'=>(∃ r:Bool,v = .bool r/\(r = true↔ak g))/\Gr w w':=by
 refine BD ?_;refine cG hg λk1 w1 gw hg B=>?_;have tl:=hg.t.1;have nl:=hg.n.1;have pl:=hg.p.1;have hT:g.T = x.tl:=tl;have aa:=hg.s;have no:∀ {w'},Gr w1 w'->¬ ak g->(∃ r:Bool,Value.bool false = .bool r/\(r = true↔ak g))/\Gr w w':=λ{w'} gg hn=>⟨⟨false,rfl,⟨λh=>(by cases h),λh=>absurd h hn⟩⟩,gw.trans gg⟩
 refine ⟨λb w'=>(b = false↔(g.nons[0]? = some .empty/\ud g 1))/\Gr w1 w',?_,?_⟩
 ·refine ⟨_,_,_,B.c1 (sub.refl _),ae (λG=>⟨?_,Gr.refl _⟩) λG=>?_⟩
  ·have G:x.nl = 0:=by have:=eq_of_beq G; omega
   have:g.nons[0]? = none:=Zf ω;rw [this]; simp
  have G:x.nl≠0:=λh=>by rw [h] at G; simp at G
  obtain ⟨s,ad,Y,ab,a9⟩:=hg.n.cY (i:=0) ω;refine ⟨_,_,_,B.c1 (sub.refl _),iW ab ω ⟨s,a9 _ (sub.refl _),?_⟩⟩;rw [yF]
  change br (!decide (s = .empty)) _ _
  refine ae (λW=>⟨?_,Gr.refl _⟩) λW=>⟨_,_,_,_,_,_,_,_,_,_,_,_,_,B.row (sub.refl _),(FR (x:=x) hg hb 1 ω).mono ?_⟩
  ·have W:s≠.empty:=by simpa using W
   rw [Y]; simp [W]
  ·have W:s = .empty:=by simpa using W
   rintro _ w2 ⟨⟨r,rfl,e⟩,X⟩;refine ⟨_,rfl,?_,X⟩;rw [Y,<- e]; simp [W]
 rintro _ b w2 ⟨a0,X⟩
 refine ae (λG=>no X λhp=>?_) λG=>?_
 ·have:=a0.2 ⟨hp.1,hp.2.1⟩;rw [G] at this; cases this
 obtain ⟨z1,z2⟩:=a0.1 G;refine ⟨_,_,_,_,_,_,_,_,_,_,_,_,_,B.row X,(wM (x:=x) (hg.mono X) hb 1 ω).mono ?_⟩;rintro _ w3 ⟨a3,l3,c3,xs,r2,rfl,a4,aI,h3⟩;have g3:Gr w1 w3:=X.trans h3.aW;refine ⟨_,_,_,_,rfl,_,_,_,B.c4 g3,λw5 hd=>?_⟩;have U:Gr w1 w5:=g3.trans (Gr.drawn hd);refine ⟨λw'=>sub (hp w5) (hp w'),sub.refl _,ae (λh4=>?_) λh4=>no U λhp=>?_⟩
 rotate_left
 ·rw [a4.2 hp.2.2.1] at h4; cases h4
 have a5:=a4.1 h4;have u:0 < x.pl:=by have:=a5.1; omega
 obtain ⟨p,ad,vs,a1,V,a6,a,l,c,rfl,am,Z⟩:=hg.p.get (i:=0) u;rw [Vz] at a6;have pr:=Z.mono U;have rb:=a6.mono U
 have O : ak g↔(p.left = (x.tl:Int)/\l = 1/\p.right = [g.start]/\p.level = 0):=by
  unfold ak
  constructor
  ·rintro ⟨_,_,_,q,hq,q1,q2,q3⟩;rw [a1] at hq; cases hq;exact ⟨ω,by rw [<- Z.1,q2]; rfl,q2,q3⟩
  ·rintro ⟨q1,_,q2,q3⟩;exact ⟨z1,z2,a5,p,a1,ω,q2,q3⟩
 refine iW V u ⟨_,λw' s=>rb.cell0 s,_,_,_,λw' s=>B.c0 (sub.trans U s),ae (λh6=>?_) λh6=>no U λhp=>?_⟩
 rotate_left
 ·have:=(O.1 hp).1;simp only [aaA,ne_eq] at h6; omega
 have h6:=eq_of_beq h6;refine iW V u ⟨_,_,_,λw' s=>rb.cell s (j:=1) rfl,ae (λh7=>?_) λh7=>no U λhp=>?_⟩
 rotate_left
 ·have:=(O.1 hp).2.1;simp only [aaA,ne_eq] at h7; omega
 have h7:l = 1:=by have:=eq_of_beq h7; omega
 obtain ⟨y,ac,R,a8,a7⟩:=pr.cY (i:=0) ω
 have hr:p.right = [y]:=by
  have hl:=pr.1
  match hq:p.right,hl,R with
  | [z],_,R=>simp at R; rw [R]
  | [],hl,_=>simp at hl; omega
  | _ :: _ :: _,hl,_=>simp at hl; omega
 refine iW V u ⟨_,_,_,λw' s=>rb.cell s (j:=1) rfl,iW a8 ω ⟨y,λw' s=>a7 _ s,_,λw' s=>B.c3 (sub.trans U s),ae (λh8=>?_) λh8=>no U λhp=>?_⟩⟩
 rotate_left
 ·have:=(O.1 hp).2.2.1;rw [hr] at this;simp only [aaA,ne_eq] at h8;simp at this; omega
 have h8:=eq_of_beq h8;refine iW V u ⟨_,λw' s=>rb.cell s (j:=2) rfl,⟨_,rfl,?_⟩,gw.trans U⟩;rw [O,aaR];exact ⟨λh=>⟨h6,h7,by rw [hr,h8,aa],h⟩,λh=>h.2.2.2⟩
end
end Go.Proofs.YtndaepmjkbmjmaaGreatDoor
