/- A part of the claim. -/
import Derived.Test.YtaoaemnefghnbaaGreatDoorG2
import Derived.Test.YtaoaemnefghnbaaGreatDoorG3
import Derived.Maps.RangeRun
import Derived.Laws.IdiomStrings
import Derived.Laws.StructEq
set_option linter.unusedVariables false
set_option linter.unusedSectionVars false
set_option maxRecDepth 100000
set_option maxHeartbeats 16000000
namespace Go.Proofs.YtaoaemnefghnbaaGreatDoor
open Tryz
section
variable{a b c:E}{i j k l m n:Nat}{A B C:Int}{w:ga}{R:ah->WP}
theorem LF(h:H w [T a i j,T b k l] 94 λa b=>H b [D,D,D,D,D,D,D,D] 106 λb c=>∃d e f g h i,rA c (Z a) 2 [T d e f,T g h i]/\iu 107 [vG [T d e f,T g h i]] c λe d=>br (!e) (bC d (Z b) [D,D,D,D,D,D,D,D] λa=>∃c d e f g h i j k l m n o p q r s t A v w x y z,rA a (Z b) 8 [T c d e,T f g h,T i j k,T l m n,T o p q,T r s t,T A v w,T x y z]/\R (vU [vG [T c d e,T f g h,T i j k,T l m n,T o p q,T r s t,T A v w,T x y z],O 1]) a) (H d [D,D,D,D,D,D,D,D] 106 λc d=>gp d (Z a) λe f g=>qT (f:Int) (f:Int) 24/\new d (Obj.cells (Array.mk (ir (Int.toNat (f:Int)) [D])) 197) λd e=>gp e (Z a) λg h i=>gT 0 e λi j e k=>bQ (e<(h:Int)) (M g h e 1 λa=>gp k a λb g h=>iC 108 [T b g h,vF 109 [],O (-1)] k λl h=>gp h (Z c) λa m n=>H h [O l] 3 λh o=>iT 24 a m n h o λm n o h=>gh h (Z c) (T m n o) λa=>gT 0 a λc h a m=>bQ (a<(g:Int)) (M b g a 2 λb=>∃g i,rA m b 2 [O g,O i]/\H m [O 0,O 0] 170 λb j=>bC j (Z b) [O g,O i] λg=>gX g (Z b) λi=>br (i !=0) (gX g (Z b) λi=>br (i !=2) (gj g λi g=>M (some (Z d)) (Int.toNat (f:Int)) e 1 λj=>gz g j λk l n=>∃j o,(∀a,g a->rA a (Z b) 2 [O j,O o])/\iC 110 [vG [O j,O o]] i λj i=>g i/\H i [O a,O j] 203 λb i=>g i/\iT 197 k l n b i λj k l i=>g i/\M (some (Z d)) (Int.toNat (f:Int)) e 1 λb=>gh i b (T j k l) λb=>gx c h a b m) (i_ g b 1 λi=>br (i !=l) (gj g λi g=>M (some (Z d)) (Int.toNat (f:Int)) e 1 λj=>gz g j λk l n=>∃j o,(∀a,g a->rA a (Z b) 2 [O j,O o])/\iC 110 [vG [O j,O o]] i λj i=>g i/\H i [O a,O j] 203 λb i=>g i/\iT 197 k l n b i λj k l i=>g i/\M (some (Z d)) (Int.toNat (f:Int)) e 1 λb=>gh i b (T j k l) λb=>gx c h a b m) (gx c h a g m))) (gx c h a g m)) (gx i j e m k)) (rE 111 [T (some (Z d)) (Int.toNat (f:Int)) (Int.toNat (f:Int))] k λd e=>∃f g h i j k l m n o,d=vU [vG [T f g h,T i j k,T l m n],O o]/\bC e (Addr.add (Z c) 1) [T f g h,T i j k,T l m n] λd=>hU d a 1 λe f g=>M e f 0 1 λe=>gp d e λf g h=>qT (g:Int) (g:Int) 24/\new d (Obj.cells (Array.mk (ir (Int.toNat (g:Int)) [D])) 197) λd e=>gT 0 e λf h e i=>bQ (e<(↑(Int.toNat (g:Int)):Int)) (H i [O 0] 3 λb j=>gh j (Z b) (O e) λj=>hU j a 1 λk l m=>iC 112 [T k l m,vF 113 [u (some (Z b))],O (-1)] j λl k=>hU k c 4 λj m n=>H k [O l] 3 λk o=>iT 24 j m n k o λm n o k=>gh k (Addr.add (Z c) 4) (T m n o) λc=>hU c a 1 λj k m=>gT 0 c λa m c n=>bQ (c<(k:Int)) (M j k c 1 λe=>gp n e λf h i=>gX n (Z b) λe=>M f h e 1 λe=>gX n e λi=>bQ (0<=i) (gX n (Z b) λe=>M f h e 1 λe=>gX n e λi=>br (i !=l) (gj n λe i=>gy i (Z b) λj=>gy i (Z b) λk=>M (some (Z d)) (Int.toNat (g:Int)) k 1 λk=>gz i k λl o p=>gy i (Z b) λk=>M f h k 1 λb=>gy i b λf=>H e [O c,O f] 203 λb e=>i e/\iT 197 l o p b e λf h k e=>i e/\M (some (Z d)) (Int.toNat (g:Int)) j 1 λb=>gh e b (T f h k) λb=>gx a m c b n) (gx a m c n n)) (gx a m c n n)) (gx f h e n i)) (rE 111 [T (some (Z d)) (Int.toNat (g:Int)) (Int.toNat (g:Int))] i λa d=>∃e f g h i j k l m n,a=vU [vG [T e f g,T h i j,T k l m],O n]/\bC d (Addr.add (Z c) 5) [T e f g,T h i j,T k l m] λa=>∃d e f g h i j k l m n o p q r s t A v w x y z C,rA a (Z c) 8 [T d e f,T g h i,T j k l,T m n o,T p q r,T s t A,T v w x,T y z C]/\bC a (Z b) [T d e f,T g h i,T j k l,T m n o,T p q r,T s t A,T v w x,T y z C] λa=>∃c d e f g h i j k l m n o p q r s t F v w x y z,rA a (Z b) 8 [T c d e,T f g h,T i j k,T l m n,T o p q,T r s t,T F v w,T x y z]/\R (vU [vG [T c d e,T f g h,T i j k,T l m n,T o p q,T r s t,T F v w,T x y z],O 0]) a)))):ρ 44 [(.agg #[T a i j,T b k l])] w R:=rv func44 h ⟨[(6,[(26,aP)]),(11,[(41,aP)]),(20,[(89,aP)]),(25,[(105,aP)])],[],[],[]⟩
theorem JN(h:H w [T a i j,T b k l] 94 λa b=>gp b (Z a) λc d e=>H b [O 0] 3 λb c=>gh c (Z b) (O (d:Int)) λc=>∃(d:lP [(22,mR)]),(gX c (Z b) λe=>bQ (e<1) (d true c) (gX c (Z b) λe=>bQ (256<e) (d true c) (hU c a 1 λe f g=>gX c (Z b) λa=>d ((f:Int) !=a) c)))/\∀(_:ν) c e,d c e->br c (R (J false) e) (gj e λc d=>gz d (Z a) λe f g=>M e f 0 1 λe=>gz d e λf g h=>jo d a 1 λe f h=>M e f 0 1 λe=>gz d e λf h i=>∃(d:lP [(42,mR)]),bQ ((if(h:Int)<(g:Int) then(h:Int) else(g:Int))<1) (d true c) (d (decide (65<if(g:Int)<(h:Int) then(h:Int) else(g:Int))) c)/\∀(_:ν) c e,d c e->br c (R (J false) e) (gX e (Z b) λc=>gT 0 e λd f e i=>bQ (e<c) (∃(c:lP [(64,mR)]),(gp i (Z a) λb d f=>M b d e 1 λb=>gp i b λd f j=>br ((f:Int) !=(g:Int)) (c true i) (hU i a 1 λb d f=>M b d e 1 λa=>gp i a λb d e=>c ((d:Int) !=(h:Int)) i))/\∀(_:ν) g h,c g h->br g (R (J false) h) (gp h (Z a) λc g j=>M c g e 1 λc=>gp h c λg j k=>iu 203 [T g j k,vF 204 [u (some (Z b))]] h λh g=>br h (R (J false) g) (hU g a 1 λc h j=>M c h e 1 λa=>gp g a λc h j=>iu 126 [T c h j,vF 206 [u (some (Z b))]] g λc b=>br c (R (J false) b) (gx d f e b i)))) (R (J true) i)))):ρ 107 [(.agg #[T a i j,T b k l])] w R:=rv func107 h ⟨[(8,[(44,aP)])],[(3,[(22,mR)]),(6,[(42,mR)]),(11,[(64,mR)])],[],[]⟩
theorem nW{d:aM}{e:Ay}(h:new w (Obj.map (Array.mk []) 0) λb c=>gT 0 c λf g c h=>bQ (c<(i:Int)) (M a i c 2 λa=>∃i j,rA h a 2 [O i,O j]/\H h [O 0,O 0] 170 λa k=>bC k (Z a) [O i,O j] λi=>∃j k,rA i (Z a) 2 [O j,O k]/\p9 (Fn d) (sR d (vG [O j,O k]::e) i λe i d=>br i (bg prog (Instr.lookup 276 (Value.map (some b)) (O e) false) d λa d=>∃i,a=O i/\K (i+1)/\bg prog (Instr.mapUpdate 276 (Value.map (some b)) (O e) (O (i+1))) d λ(_:Unit)(a:ga)=>gx f g c a h) (gx f g c d h))) (bg prog (Instr.range 276 (Value.map (some b))) h λa c=>∃d,a=u d/\gT A c λa e c f=>bg prog (Instr.next (u d) false 0) f λg h=>g=vU [J false]/\R (O c) h\/∃i j,g=vU [J true,O i,j]/\bg prog (Instr.entry (u d)) h λd g=>∃h i,d=vU [O h,O i]/\bg prog (Instr.lookup 276 (Value.map (some b)) (O c) false) g λd g=>∃j,d=O j/\bQ (j<i) (nA a e h g c f) (bg prog (Instr.lookup 276 (Value.map (some b)) (O c) false) g λb d=>∃g,b=O g/\br (i==g) (bQ (h<c) (nA a e h d c f) (nA a e c d c f)) (nA a e c d c f)))):ρ 108 [T a i j,(.func (.func d) #[] ⟨e⟩),O A] w R:=rv func108 h ⟨[(4,[(19,aP)]),(11,[(8,aP)])],[],[],[]⟩
abbrev zf:aM:=109
theorem FJ(h:H w [O A,O B] 170 λa b=>gj b λc b=>jr b a 1 λd=>gy b (Z a) λe=>R (vU [O d,J (e==2)]) c):ρ 109 [(.agg #[O A,O B])] w R:=rv func109 h
abbrev G1:aM:=110
theorem LH(h:H w [O A,O B] 170 λa b=>gX b (Z a) λc=>br (c==1) (i_ b a 1 λc=>K (1+c)/\R (O (1+c)) b) (br (c==2) (i_ b a 1 λc=>K (-1-c)/\R (O (-1-c)) b) (br (c==3) (R (O (-1)) b) (R (O 0) b)))):ρ 110 [(.agg #[O A,O B])] w R:=rv func110 h
theorem Og(h:H w [T a i j] 221 λa b=>H b [D,D,D] 104 λb c=>∃(d:lP [(15,mR)]),(gp c (Z a) λb e f=>bQ (256<(e:Int)) (d true c) (gp c (Z a) λb e f=>iu 207 [T b e f,vF 208 []] c λc b=>d c b))/\∀(_:ν) c e,d c e->br c (bC e (Z b) [D,D,D] λa=>∃c d e f g h i j k,rA a (Z b) 3 [T c d e,T f g h,T i j k]/\R (vU [vG [T c d e,T f g h,T i j k],O 1]) a) (gp e (Z a) λc d f=>qT (d:Int) (d:Int) 8/\new e (Obj.cells (Array.mk (ir (Int.toNat (d:Int)) [O 0])) 3) λc e=>gT 0 e λf g e h=>bQ (e<(↑(Int.toNat (d:Int)):Int)) (M (some (Z c)) (Int.toNat (d:Int)) e 1 λa=>gh h a (O e) λa=>gx f g e a h) (rE 210 [T (some (Z c)) (Int.toNat (d:Int)) (Int.toNat (d:Int)),vF 211 [u (some (Z a))]] h λe f=>e=vU []/\gp f (Z a) λe g h=>qT (g:Int) (g:Int) 8/\new f (Obj.cells (Array.mk (ir (Int.toNat (g:Int)) [O 0])) 3) λe f=>H f [T (some (Z e)) (Int.toNat (g:Int)) (Int.toNat (g:Int)),D,D] 366 λe f=>gT 0 f λg h f i=>bQ (f<(↑(Int.toNat (d:Int)):Int)) (M (some (Z c)) (Int.toNat (d:Int)) f 1 λb=>gX i b λc=>gp i (Z a) λb d j=>M b d c 1 λb=>gp i b λd j k=>bQ (0<(j:Int)) (gp i (Z a) λb d j=>M b d c 1 λa=>gp i a λb d j=>rE 212 [u (some (Z e)),O c,T b d j] i λa b=>a=vU []/\gx g h f b i) (gx g h f i i)) (∃a c d f g h j k l,rA i (Z e) 3 [T a c d,T f g h,T j k l]/\bC i (Z b) [T a c d,T f g h,T j k l] λa=>∃c d e f g h i j k,rA a (Z b) 3 [T c d e,T f g h,T i j k]/\R (vU [vG [T c d e,T f g h,T i j k],O 0]) a)))):ρ 111 [T a i j] w R:=rv func111 h ⟨[(5,[(22,aP)]),(12,[(41,aP)])],[(2,[(15,mR)])],[],[]⟩
theorem wb{d:aM}{e:Ay}(h:new w (Obj.map (Array.mk []) 0) λb c=>gT 0 c λf g c h=>bQ (c<(i:Int)) (M a i c 1 λa=>gp h a λi j k=>p9 (Fn d) (sR d (T i j k::e) h λe i d=>br i (bg prog (Instr.lookup 276 (Value.map (some b)) (O e) false) d λa d=>∃i,a=O i/\K (i+1)/\bg prog (Instr.mapUpdate 276 (Value.map (some b)) (O e) (O (i+1))) d λ(_:Unit)(a:ga)=>gx f g c a h) (gx f g c d h))) (bg prog (Instr.range 276 (Value.map (some b))) h λa c=>∃d,a=u d/\gT A c λa e c f=>bg prog (Instr.next (u d) false 0) f λg h=>g=vU [J false]/\R (O c) h\/∃i j,g=vU [J true,O i,j]/\bg prog (Instr.entry (u d)) h λd g=>∃h i,d=vU [O h,O i]/\bg prog (Instr.lookup 276 (Value.map (some b)) (O c) false) g λd g=>∃j,d=O j/\bQ (j<i) (nA a e h g c f) (bg prog (Instr.lookup 276 (Value.map (some b)) (O c) false) g λb d=>∃g,b=O g/\br (i==g) (bQ (h<c) (nA a e h d c f) (nA a e c d c f)) (nA a e c d c f)))):ρ 112 [T a i j,(.func (.func d) #[] ⟨e⟩),O A] w R:=rv func112 h ⟨[(4,[(19,aP)]),(11,[(8,aP)])],[],[],[]⟩
abbrev zh:aM:=113
theorem FL{d:vP}(h:gj w λb c=>gy c d λe=>M a i e 1 λe=>gy c e λf=>gy c d λe=>M a i e 1 λa=>gy c a λd=>R (vU [O f,J (decide (0<=d))]) b):ρ 113 [T a i j,(.pointer (some d))] w R:=rv func113 h
theorem DV{c:vP}(h:H w [O A,O B] 170 λa b=>∃d e,rA b (Z a) 2 [O d,O e]/\gX b c λa=>iu 205 [vG [O d,O e],O a] b λc b=>R (J !c) b):ρ 204 [(.agg #[O A,O B]),(.pointer (some c))] w R:=rv func204 h
theorem Oi(h:H w [O A,O B] 170 λa b=>gX b (Z a) λc=>br (c==1) (i_ b a 1 λc=>bQ (0<=c) (i_ b a 1 λc=>R (J (decide (c<C))) b) (R (J false) b)) (br (c==2) (i_ b a 1 λc=>bQ (1<=c) (i_ b a 1 λc=>R (J (decide (c<=96))) b) (R (J false) b)) (gX b (Z a) λc=>bQ (0<=c) (gX b (Z a) λc=>bQ (c<=4) (i_ b a 1 λc=>R (J (c==0)) b) (R (J false) b)) (R (J false) b)))):ρ 205 [(.agg #[O A,O B]),O C] w R:=rv func205 h
theorem DX{b:vP}(h:bQ (A< -1) (R (J true) w) (gX w b λa=>R (J (decide (a<=A))) w)):ρ 206 [O A,(.pointer (some b))] w R:=rv func206 h
theorem fR{d:aM}{e:Ay}(h:iC 293 [T a i j,vF d e] w λc b=>R (J (decide (0<=c))) b):ρ 207 [T a i j,(.func (.func d) #[] ⟨e⟩)] w R:=rv func207 h
theorem HL(h:iu 209 [T a i j] w λc b=>R (J !c) b):ρ 208 [T a i j] w R:=rv func208 h
abbrev LK:aM:=211
theorem HN{c:vP}(h:gj w λa b=>gz b c λd e f=>M d e B 1 λd=>gz b d λe f g=>gz b c λd e g=>M d e A 1 λc=>gz b c λd e g=>K ((f:Int)-(e:Int))/\R (O ((f:Int)-(e:Int))) a):ρ 211 [O A,O B,(.pointer (some c))] w R:=rv func211 h
theorem DZ(h:gT 0 w λc d e f=>iu 295 [u a,O e,T b i j] f λj h=>br (!j) (gx c d e h f) (nn a λc=>gp h c λd f g=>M d f A 1 λc=>gh h c (O e) λc=>gT 0 c λd f c g=>bQ (c<(i:Int)) (M b i c 2 λb=>∃h i,rA g b 2 [O h,O i]/\H g [O 0,O 0] 203 λb j=>bC j (Z b) [O h,O i] λh=>τ [] λi j=>i h/\∀(_:ν) h,i h->gj h λk l=>nn a λm=>gz l (m.add 2) λn o p=>gy l (Z b) λm=>K (e+m)/\bQ ((o:Int)<=e+m) (nn a λb=>gp k (b.add 2) λc d e=>H k [O (-1)] 3 λb f=>iT 24 c d e b f λd e f c=>nn a λb=>gh c (b.add 2) (T d e f) λb=>nn a λc=>gp b (c.add 1) λd e f=>H b [O 0] 3 λb c=>iT 24 d e f b c λd e f c=>nn a λa=>gh c (a.add 1) (T d e f) λa=>i a/\j a<j h) (gj k λh i=>nn a λj=>gz i (j.add 2) λk l m=>gy i (Z b) λj=>K (e+j)/\nn a λa=>gz i (a.add 1) λm n o=>gy i (Z b) λa=>K (e+a)/\jr i b 1 λo=>M k l (e+j) 1 λb=>gh h b (O A) λb=>i b/\M m n (e+a) 1 λa=>gh b a (O o) λa=>gx d f c a g)) (R (vU []) g))):ρ 212 [.pointer a,O A,T b i j] w R:=rv func212 h ⟨[(1,[(6,aP)]),(5,[(26,aP)]),(7,[])],[],[],[]⟩
theorem gK{d:aM}{e:Ay}(h:gT 0 w λb c f g=>bQ (f<(i:Int)) (M a i f 1 λa=>∃h i j,World.cell? g a=some (T h i j)/\p9 (Fn d) (iu d (T h i j::e) g λe d=>br e (R (O f) d) (gx b c f d g))) (R (O (-1)) g)):ρ 293 [T a i j,(.func (.func d) #[] ⟨e⟩)] w R:=rv func293 h ⟨[(2,[(8,aP)])],[],[],[]⟩
theorem Cy(h:H w [u a] 364 λa c=>H c [O A] 3 λc d=>iu 354 [T b i j,vF 355 [u (some (Z c)),u (some (Z a))]] d λc b=>R (J !c) b):ρ 295 [.pointer a,O A,T b i j] w R:=rv func295 h
theorem gq{d:aM}{e:Ay}(h:iC 386 [T a i j,vF d e] w λc b=>R (J (decide (0<=c))) b):ρ 354 [T a i j,(.func (.func d) #[] ⟨e⟩)] w R:=rv func354 h
theorem xE{c:vP}{d:vP}(h:H w [O A,O B] 203 λa b=>gj b λe b=>gy b c λf=>gy b (Z a) λg=>K (f+g)/\jc b d λh=>nn h λh=>gz b (h.add 2) λi j k=>bQ (f+g<(j:Int)) (jc b d λf=>nn f λd=>gz b (d.add 2) λf g h=>gy b c λd=>gy b (Z a) λc=>K (d+c)/\M f g (d+c) 1 λa=>gy b a λc=>R (J (decide (0<=c))) e) (R (J false) e)):ρ 355 [(.agg #[O A,O B]),(.pointer (some c)),(.pointer (some d))] w R:=rv func355 h
theorem iy{d:aM}{e:Ay}(h:gT 0 w λb c f g=>bQ (f<(i:Int)) (M a i f 2 λa=>∃h i,iA g a 0 2=some [O h,O i]/\p9 (Fn d) (iu d (vG [O h,O i]::e) g λe d=>br e (R (O f) d) (gx b c f d g))) (R (O (-1)) g)):ρ 386 [T a i j,(.func (.func d) #[] ⟨e⟩)] w R:=rv func386 h ⟨[(2,[(8,aP)])],[],[],[]⟩
theorem HQ{a:E}{b c:Nat}{d:E}{e f:Nat}{g:E}{i j:Nat}{k:E}{l m:Nat}{n:E}{o p:Nat}{q:E}{s t:Nat}{A:E}{v x:Nat}{y:E}{z C:Nat}{r F:Int}{w:ga}{R:ah->WP}(h:H w [T a b c,T d e f,T g i j,T k l m,T n o p,T q s t,T A v x,T y z C] 106 λa b=>H b [O 0,O 0] 170 λb c=>∃d e f g h i j k l,rA c (Addr.add (Z a) 1) 3 [T d e f,T g h i,T j k l]/\sR 425 [vG [T d e f,T g h i,T j k l],O r,O F] c λe f d=>∃(c:lP []),(∃(g:lP [(17,mR)]),br f (g (decide (0<e)) d) (g false d)/\∀(_:ν) d h,g d h->br d (K (e-1)/\bC h (Z b) [O 1,O (e-1)] λa=>∃c d,rA a (Z b) 2 [O c,O d]/\R (vG [O c,O d]) a) (∃(d:lP [(26,mR)]),br f (d (decide (e< -1)) h) (d false h)/\∀(_:ν) g h,d g h->br g (K (-1-e)/\bC h (Z b) [O 2,O (-1-e)] λa=>∃c d,rA a (Z b) 2 [O c,O d]/\R (vG [O c,O d]) a) (∃(d:lP [(35,mR)]),br f (d (decide (e<0)) h) (d false h)/\∀(_:ν) e g,d e g->br e (bC g (Z b) [O 3,O 0] λa=>∃c d,rA a (Z b) 2 [O c,O d]/\R (vG [O c,O d]) a) (br f (bC g (Z b) [O 4,O 0] λa=>∃c d,rA a (Z b) 2 [O c,O d]/\R (vG [O c,O d]) a) (bQ (0<=r) (gp g (Z a) λd e f=>bQ (r<(e:Int)) (gp g (Z a) λd e f=>M d e r 1 λd=>gX g d λe=>bQ (0<e) (gp g (Z a) λc d e=>M c d r 1 λa=>gX g a λc=>bC g (Z b) [O 2,O c] λa=>∃c d,rA a (Z b) 2 [O c,O d]/\R (vG [O c,O d]) a) (c g)) (c g)) (c g))))))/\∀(_:ν) a,c a->bC a (Z b) [O 0,O 0] λa=>∃c d,rA a (Z b) 2 [O c,O d]/\R (vG [O c,O d]) a):ρ 423 [(.agg #[T a b c,T d e f,T g i j,T k l m,T n o p,T q s t,T A v x,T y z C]),O r,O F] w R:=rv func423 h ⟨[],[(12,[]),(3,[(17,mR)]),(5,[(26,mR)]),(7,[(35,mR)])],[],[]⟩
theorem LN{a:E}{b c:Nat}{d:E}{e f:Nat}{g:E}{i j:Nat}{k:E}{l m:Nat}{n:E}{o p:Nat}{q:E}{s t:Nat}{A:E}{v x:Nat}{y:E}{z C:Nat}{F r:Int}{w:ga}{R:ah->WP}(h:H w [T a b c,T d e f,T g i j,T k l m,T n o p,T q s t,T A v x,T y z C] 106 λa b=>∃c d e f g h i j k,rA b (Addr.add (Z a) 5) 3 [T c d e,T f g h,T i j k]/\sR 425 [vG [T c d e,T f g h,T i j k],O r,O F] b λd e c=>br e (R (O d) c) (bQ (0<=r) (hU c a 4 λb d e=>bQ (r<(d:Int)) (hU c a 4 λb d e=>M b d r 1 λa=>gX c a λb=>R (O b) c) (R (O (-1)) c)) (R (O (-1)) c))):ρ 424 [(.agg #[T a b c,T d e f,T g i j,T k l m,T n o p,T q s t,T A v x,T y z C]),O F,O r] w R:=rv func424 h
theorem QO(h:H w [T a i j,T b k l,T c m n] 104 λa b=>∃(c:lP [(22,mR)]),bQ (A<0) (c true b) (gp b (Z a) λd e f=>bQ ((e:Int)<=A) (c true b) (c (decide (B<0)) b))/\∀(_:ν) b d,c b d->br b (R (vU [O 0,J false]) d) (gj d λb c=>gz c (Z a) λd e f=>M d e A 1 λd=>gy c d λe=>jo c a 1 λd f g=>jo c a 2 λd g h=>∃(c:lP [(59,mR)]),bQ (e<0) (c true b) (bQ ((if(g:Int)<(f:Int) then(g:Int) else(f:Int))<e) (c true b) (K ((if(g:Int)<(f:Int) then(g:Int) else(f:Int))-e)/\bQ ((if(g:Int)<(f:Int) then(g:Int) else(f:Int))-e<=B) (c true b) (hU b a 2 λd f g=>K (e+B)/\M d f (e+B) 1 λa=>gX b a λd=>c (d !=A) b)))/\∀(_:ν) b d,c b d->br b (R (vU [O 0,J false]) d) (hU d a 1 λb c f=>K (e+B)/\M b c (e+B) 1 λa=>gX d a λb=>R (vU [O b,J true]) d))):ρ 425 [(.agg #[T a i j,T b k l,T c m n]),O A,O B] w R:=rv func425 h ⟨[],[(2,[(22,mR)]),(5,[(59,mR)])],[],[]⟩
end
structure gk where
 bs:Az
 vs:Az
 os:Az
def Oj(r:gk)(row place:Int):Bool:=decide (row<0)||(decide ((r.bs.length:Int)<=row)||decide (place<0))
def Ol(r:gk):Nat:=min r.vs.length r.os.length
def FN(r:gk)(row:Int):Int:=r.bs.getD row.toNat 0
def LO(r:gk)(row place:Int):Bool:=decide (FN r row<0)||(decide ((Ol r:Int)<FN r row)||(decide ((Ol r:Int)-FN r row<=place)||decide (r.os.getD (FN r row+place).toNat 0≠row)))
def atR(r:gk)(row place:Int):Option Int:=if Oj r row place||LO r row place then none else some (r.vs.getD (FN r row+place).toNat 0)
def Hr:Option Int->ah
 |some x=>.tuple #[.int .i64 x,.bool true]
 |none=>.tuple #[.int .i64 0,.bool false]
structure rI(h:Hp)(r:gk)(a:E)(b:Nat)(d:E)(e:Nat)(g:E)(i:Nat):Prop where
 rb:bf h r.bs a b
 rv:bf h r.vs d e
 ro:bf h r.os g i
 lv:e<=1000000
 lo:i<=1000000
 bd:∀x∈r.vs,-1000000<=x/\x<=1000000
theorem rI.mono{h h':Hp}{r:gk}{a:E}{b:Nat}{d:E}{e:Nat}{g:E}{i:Nat}(s:sub h h')(p:rI h r a b d e g i):rI h' r a b d e g i:=⟨p.rb.mono s,p.rv.mono s,p.ro.mono s,p.lv,p.lo,p.bd⟩
theorem qq{h:Hp}{xs:Az}{a:E}{l:Nat}(r:bf h xs a l){i:Nat}(hi:i<l):∃b,a=some b/\∀w,sub h (hp w)->w.cell? (b.add i)=some (O (xs.getD i 0)):=by
 obtain⟨g,b⟩:∃c,xs[i]? =some c:=⟨_,gn (by rw[r.1];exact hi)⟩;obtain⟨c,d,e⟩:=r.at b;refine⟨c,d,λw f=>?_⟩;rw[e w f,jX,b];rfl
section
variable{w:ga}{r:gk}{a d g:E}{b c e f i j:Nat}
theorem y6(p:rI (hp w) r a b d e g i)(row m:Int):ρ 425 [.agg #[T a b c,T d e f,T g i j],O row,O m] w λh k=>h=Hr (atR r row m)/\Gr w k:=by
 have v:=p.rb.1;have ev:=p.rv.1;have x:=p.ro.1;have I:(if(i:Int)<(e:Int) then(i:Int) else(e:Int))=(Ol r:Int):=by unfold Ol;rw[ev,x];split<;>omega
 have a2:Ol r<=e/\Ol r<=i:=by unfold Ol;rw[ev,x];omega
 have a3:=p.lv;refine QO<|ag (W.all w) λa4 y s=>?_;have z:Gr w y:=s.aS
 refine⟨λh k=>k=y/\h=Oj r row m,?_,?_⟩
 ·refine ae (λh=>⟨rfl,by simp[Oj,gZ h]⟩) λk=>⟨_,_,_,s.cell 0,ae (λh=>⟨rfl,?_⟩) λh=>⟨rfl,?_⟩⟩
  ·have:=gZ h;simp[Oj,v,this]
  ·have l:=hY k;have n:=hY h;unfold Oj;rw[v,jM l,jM n];rfl
 rintro _ _ a5⟨rfl,rfl⟩
 refine ae (λk=>?_) λk=>λt L=>?_
 ·refine⟨?_,z⟩;unfold atR;rw[k];rfl
 have A:=aW L;have n:=s.eq A;have o:Gr w t:=z.trans<|Gr.of_eq A;have C:=k;unfold Oj at k;simp only[Bool.or_eq_false_iff,tQ] at k;obtain⟨a6,a7,a8⟩:=k;obtain⟨h,rfl⟩:∃l:Nat,row=l:=⟨row.toNat,U⟩;obtain⟨q,rfl⟩:∃l:Nat,m=l:=⟨m.toNat,U⟩;obtain⟨a9,rfl,N⟩:=qq p.rb (i:=h) U;have P:r.bs.getD h 0=FN r (h:Int):=rfl;refine⟨λl=>hp l=hp t,rfl,_,_,_,λl e=>(by rw[cO e];exact n.cell 0:World.cell? l _=_),au rfl U ⟨_,λl e=>N l (by rw[e];exact o),_,_,_,λl e=>(by rw[ak,cO e];exact n.cell 1:World.cell? l _=_),_,_,_,λl e=>(by rw[ak,cO e];exact n.cell 2:World.cell? l _=_),?_⟩⟩
 try dsimp only
 rw[I,P]
 refine⟨λl F=>F=t/\l=LO r (h:Int) (q:Int),?_,?_⟩
 ·refine ae (λl=>⟨rfl,by simp[LO,gZ l]⟩) λF=>ae (λl=>⟨rfl,by simp[LO,gZ l]⟩) λQ=>?_;have R:=hY F;have S:=hY Q;refine⟨ξ,ae (λl=>⟨rfl,by simp[LO,gZ l]⟩) λX=>?_⟩;have Y:=hY X;obtain⟨a0,l⟩:∃a1:Nat,FN r (h:Int)+(q:Int)=a1:=⟨(FN r (h:Int)+(q:Int)).toNat,U⟩;obtain⟨aa,rfl,a1⟩:=qq p.ro (i:=a0) U;refine⟨_,_,_,by rw[ak];exact n.cell 2,ξ,?_⟩;rw[l];refine au rfl U ⟨_,a1 _ o,rfl,?_⟩;unfold LO;rw[l,jM R,jM S,jM Y];simp only[Bool.false_or,je];rw[lG];simp
 rintro _ _ X⟨rfl,rfl⟩
 refine ae (λl=>?_) λl=>?_
 ·refine⟨?_,o⟩;unfold atR;rw[C,l];rfl
 ·have Q:=l;unfold LO at l;simp only[Bool.or_eq_false_iff,tQ] at l;obtain⟨Y,a0,a1,aa⟩:=l;obtain⟨R,F⟩:∃S:Nat,FN r (h:Int)+(q:Int)=S:=⟨(FN r (h:Int)+(q:Int)).toNat,U⟩;obtain⟨ab,rfl,S⟩:=qq p.rv (i:=R) U;refine⟨_,_,_,by rw[ak];exact n.cell 1,ξ,?_⟩;rw[F];refine au rfl U ⟨_,S _ o,?_,o⟩;unfold atR;rw[C,Q,F,je];rfl
end
section
open MapKept
section
variable{κ:Type}[DecidableEq κ][jj κ]{P:iI}{Ty:aC->Option dL}{w:ga}{L:List aG}{b r:Nat}{m:List (κ×ah)}{ks:List κ}
structure uN(es:Array MapEntry)(seen:Array Nat)(m:List (κ×ah))(ks:List κ):Prop where
 perm:(ks.map jj.val++(leftOf es seen).toList.map (·.key)).Perm (m.map λx=>jj.val x.1)
def uR(b r:Nat)(m:List (κ×ah))(ks:List κ):aG:=ex λ(x:Array MapEntry×Nat×Array Nat)=>aT [pu (BC x.1 x.2.1 m/\uN x.1 x.2.2 m ks),blk b (.map x.1 x.2.1),blk r (.mapIter (some b) x.2.1 x.2.2 x.2.1)]
def Om(b r:Nat)(m:List (κ×ah))(ks:List κ)(k:κ)(u:ah):aG:=ex λ(x:Array MapEntry×Nat×Array Nat×MapEntry)=>
 aT [pu (BC x.1 x.2.1 m/\uN x.1 (x.2.2.1.push x.2.2.2.born) m ks/\x.2.2.2∈x.1.toList/\x.2.2.2.key=jj.val k/\x.2.2.2.val=u),blk b (.map x.1 x.2.1),blk r (.mapIter (some b) x.2.1 (x.2.2.1.push x.2.2.2.born) x.2.1)]
theorem Ah:W w (uR b r m ks::L)↔∃es a c,BC es a m/\uN es c m ks/\W w (blk b (.map es a)::blk r (.mapIter (some b) a c a)::L):=by
 constructor
 ·intro a;obtain⟨⟨es,c,d⟩,e⟩:=W.ex.1 a
  grind[W.pu,W.flat]
 ·rintro⟨es,a,c,d,e,f⟩;exact W.ex.2 ⟨⟨es,a,c⟩,W.flat.2<|W.pu.2 ⟨⟨d,e⟩,f⟩⟩
theorem Cz{k:κ}{c:ah}:W w (Om b r m ks k c::L)↔∃es a,∃(d:Array Nat)(e:MapEntry),BC es a m/\uN es (d.push e.born) m ks/\e∈es.toList/\e.key=jj.val k/\e.val=c/\W w (blk b (.map es a)::blk r (.mapIter (some b) a (d.push e.born) a)::L):=by
 constructor
 ·intro a;obtain⟨⟨es,d,f,e⟩,g⟩:=W.ex.1 a
  grind[W.pu,W.flat]
 ·rintro⟨es,a,d,e,f,g,h,i,j,l⟩;exact W.ex.2 ⟨⟨es,a,d,e⟩,W.flat.2<|W.pu.2 ⟨⟨f,g,h,i,j⟩,l⟩⟩
theorem MG{k:κ}{a:ah}(h:W w (Om b r m ks k a::L)):W w (uR b r m ks::L):=by grind[seen,Cz,Ah]
theorem MH(h:W w (uR b r m ks::L)):W w (hZ b m::L):=by
 obtain⟨a,c,f,d,g,e⟩:=Ah.1 h;exact nu.2 ⟨a,c,d,e.swap.tail⟩
theorem MI(i:fb P Ty){t d e:aC}(j:ai Ty t=.map d e)(h:W w (hZ b m::L)):
  bg P (Instr.range t (.map (some b))) w λa c=>∃r,a=.pointer (some ⟨r,0,none⟩)/\W c (uR b r m ([]:List κ)::L):=by
 obtain⟨o,f,k⟩:=dR i j V;rw[Dr k] at f;obtain⟨a,c,g,h⟩:=nu.1 h
 refine⟨_,_,run_range_map w t d e b a c f h.get,Ev.push w _,_,rfl,Ah.2 ⟨a,c,#[],g,⟨?_⟩,?_⟩⟩
 ·have l:leftOf a #[]=a:=by simp[leftOf]
  rw[l];have:=congrArg (List.map Prod.fst) g.eq;simp only[nQ] at this;have p:a.toList.map (·.key)=m.map λn=>jj.val n.1:=this
  simp_all
 ·exact(h.push<|.mapIter (some b) c #[] c).swap
theorem QP(e:MapEntry):∀(l:List MapEntry),(l.map (·.born)).Nodup->e∈l->l.Perm (e::l.filter λx=>decide (x.born≠e.born))
 |x::l,hn,he=>by
  have hn':x.born∉l.map (·.born)/\(l.map (·.born)).Nodup:=kN.1 hn
  rcases jb.1 he with rfl|h
  ·have:l.filter (λx=>decide (x.born≠e.born))=l:=List.filter_eq_self.2 λx hx=>η
   rw[List.filter_cons,gv V,this]
  ·have hx:x.born≠e.born:=λe'=>hn'.1 G
   rw[List.filter_cons,gD η]
   exact(List.Perm.cons x (QP e l hn'.2 h)).trans (.swap _ _ _)
theorem W.setIter{b:Option Nat}{s c:Nat}{d:Array Nat}(h:W w (blk r (.mapIter b s d c)::L)){a:ga}(e:a=w\/a=w.drew)(o:Obj)(i:Pw o=true:=by rfl):Ev w (ChangeMaps.setBlock a r o)/\W (ChangeMaps.setBlock a r o) (blk r o::L):=by
 have f:W a (blk r (.mapIter b s d c)::L):=by
  rcases e with rfl|rfl
  ·omega
  ·exact h.same rfl
 have j:Ev w a:=by
  rcases e with rfl|rfl
  ·exact Ev.refl _
  ·exact Ev.drew _ _
 refine⟨j.trans ⟨rfl,rfl,rfl,by simp[ChangeMaps.setBlock],?_,?_⟩,f.setObj o i⟩<;>
 ·intro l m g;unfold ChangeMaps.setBlock;rw[Array.getElem?_setIfInBounds_ne];exact g;intro k;subst k;rw[f.get] at g;grind
theorem Ht{es:Array MapEntry}{a:Nat}{e:MapEntry}(h:BC es a m)(b:e∈es.toList):∃k,(k,e.val)∈m/\e.key=jj.val k:=by
 have:(e.key,e.val)∈es.toList.map λe=>(e.key,e.val):=iz.2 ⟨e,b,rfl⟩;rw[h.eq] at this
 grind
theorem Hv{a c:κ}(h:jj.val a=jj.val c):a=c:=jj.inj a c h
theorem QQ{α β:Type}{f:α->β}(hf:∀a c,f a=f c->a=c):∀{l l':List α},(l.map f).Perm (l'.map f)->l.Perm l'
 |[],[],_=>.refl _
 |[],_::_,h=>η
 |a::l,l',h=>by
  have hm:f a∈l'.map f:=h.subset V
  obtain⟨x,hx,e⟩:=iz.1 hm
  have:=hf _ _ e
  subst this
  obtain⟨s,t,rfl⟩:=List.append_of_mem hx
  have h2:(f x::l.map f).Perm (f x::(s++t).map f):=h.trans V
  exact(List.Perm.cons x (QQ hf ((List.perm_cons _).1 h2))).trans lh.symm
theorem QR{ty:aC}(h:W w (uR b r m ks::L)):bg P (Instr.next (.pointer (some ⟨r,0,none⟩)) false ty) w λc d=>
  (c=.tuple #[J false]/\ks.Perm (m.map Prod.fst)/\W d (hZ b m::L))\/
  ∃(k:κ)(a:ah),(k,a)∈m/\c=.tuple #[J true,jj.val k,a]/\ks.length<m.length/\W d (Om b r m (ks++[k]) k a::L):=by
 have o:=MH h;obtain⟨a,e,c,f,j,g⟩:=Ah.1 h
 rcases run_next_at (P:=P) w ty r b e e c a e g.swap.get g.get f.lt (gP _) with⟨C,i⟩|⟨d,p,F,q,i⟩
 ·refine⟨_,_,i,Ev.refl _,.inl ⟨rfl,?_,o⟩⟩;have l:=j.perm;have n:(leftOf a c).toList=[]:=j2 U;rw[n,List.map_nil,jK] at l;have t:(m.map λs=>jj.val (κ:=κ) s.1)=(m.map Prod.fst).map jj.val:=V
  grind[QQ,Hv]
 ·have l:d∈a.toList:=by simp_all[leftOf]
  obtain⟨k,s,t⟩:=Ht f l;obtain⟨v,x⟩:=W.setIter (g.swap) q (.mapIter (some b) e (c.push d.born) e)
  have y:((leftOf a c).toList.map (·.born)).Nodup:=by
   refine f.nd.sublist ?_;simp[leftOf,List.Sublist.map,List.filter_sublist]
  have n:=QP d _ y p
  have z:(leftOf a c).toList.filter (λA=>decide (A.born≠d.born))=(leftOf a<|c.push d.born).toList:=by
   unfold leftOf;rw[Array.toList_filter,Array.toList_filter,List.filter_filter]
   grind
  rw[z] at n;have hp:=j.perm
  have A:(jj.val k::(leftOf a<|c.push d.born).toList.map (·.key)).Perm ((leftOf a c).toList.map (·.key)):=by
   have:=(n.map (·.key)).symm
   simp_all
  refine⟨_,_,i,v,.inr ⟨k,d.val,s,G,?_,Cz.2 ⟨a,e,c,d,f,⟨?_⟩,l,t,rfl,x.swap⟩⟩⟩
  ·have:=hp.length_eq
   grind
  ·refine List.Perm.trans ?_ hp
   simp_all[List.map_nil,List.Perm.append_left]
theorem MJ{k:κ}{a:ah}(h:W w (Om b r m ks k a::L)):bg P (Instr.entry (.pointer (some ⟨r,0,none⟩))) w λe f=>e=.tuple #[jj.val k,a]/\f=w:=by
 obtain⟨g,c,i,j,l,q,n,o,p,d⟩:=Cz.1 h;have:=run_entry_at (P:=P) w r b c i g c j d.swap.get d.get n l.nd;rw[o,p] at this;exact⟨_,_,this,Ev.refl _,rfl,rfl⟩
end
section
variable{κ α:Type}[DecidableEq κ]{w:ga}{L:List aG}{b sz:Nat}{f:List α->Ay}{s t:κ}
abbrev Lq(α:Type):=(E×Nat)×List α
def cf(q:Lq α):ah:=T q.1.1 q.2.length q.1.2
def bU(sz:Nat)(f:List α->Ay)(q:Lq α):aG:=own sz q.1.1 q.2.length q.1.2 (f q.2)
def mV(ps:List (κ×Lq α)):List (κ×ah):=ps.map λq=>(q.1,cf q.2)
def mO(sz:Nat)(f:List α->Ay)(ps:List (κ×Lq α)):List aG:=ps.map λq=>bU sz f q.2
def gf(s:κ):List (κ×Lq α)->Option (Lq α)
 |[]=>none
 |(a,q)::m=>if s=a then some q else gf s m
def kQ(s:κ)(ps:List (κ×Lq α)):List α:=match gf s ps with|some q=>q.2|none=>[]
def qt(s:κ)(q:Lq α):List (κ×Lq α)->List (κ×Lq α)
 |[]=>[(s,q)]
 |(a,u)::m=>if s=a then(s,q)::m else(a,u)::qt s q m
theorem jW:∀ps:List (κ×Lq α),iV s (mV ps)=(gf s ps).map cf
 |[]=>rfl
 |(a,q)::m=>by
  show(if s=a then some (cf q) else iV s (mV m))=_
  unfold gf
  split
  ·rfl
  ·exact jW m
theorem Zy(q:Lq α):∀ps:List (κ×Lq α),mV (qt s q ps)=c_ s (cf q) (mV ps)
 |[]=>rfl
 |(a,u)::m=>by
  unfold qt
  show _=(if s=a then(s,cf q)::mV m else(a,cf u)::c_ s (cf q) (mV m))
  split
  ·rfl
  ·rw[<-Zy q m];rfl
theorem QS(q:Lq α):∀ps:List (κ×Lq α),gf t (qt s q ps)=if t=s then some q else gf t ps
 |[]=>by rfl
 |(a,u)::m=>by
  unfold qt
  by_cases h:s=a
  ·simp_all[gf]
  ·rw[gv h]
   unfold gf
   rw[QS q m]
   grind
theorem nX(q:Lq α)(ps:List (κ×Lq α)):kQ t (qt s q ps)=if t=s then q.2 else kQ t ps:=by grind[kQ,QS]
theorem FO(q:Lq α):∀ps:List (κ×Lq α),(qt s q ps).map Prod.fst=if s∈ps.map Prod.fst then ps.map Prod.fst else ps.map Prod.fst++[s]
 |[]=>by rfl
 |(a,u)::m=>by
  unfold qt
  by_cases h:s=a
  ·simp_all
  ·rw[gv h,kn,FO q m]
   grind
theorem On(q:Lq α){ps:List (κ×Lq α)}(h:(ps.map Prod.fst).Nodup):((qt s q ps).map Prod.fst).Nodup:=by grind[FO,List.nodup_append]
theorem JO{q:Lq α}:∀{ps:List (κ×Lq α)},gf s ps=some q->(s,q)∈ps
 |[],h=>by cases h
 |(a,u)::m,h=>by
  unfold gf at h
  split at h
  ·simp_all
  ·exact ou _ (JO h)
theorem Zz{ps:List (κ×Lq α)}:(gf s ps).isSome=true↔s∈ps.map Prod.fst:=by
 induction ps with
 |nil=>simp[gf]
 |cons a b c=>
  obtain⟨d,e⟩:=a;unfold gf
  grind
theorem QT(sz:Nat)(f:List α->Ay)(s:κ):∀ps:List (κ×Lq α),
  (∃q M,gf s ps=some q/\(mO sz f ps).Perm (bU sz f q::M)/\∀q',(mO sz f (qt s q' ps)).Perm (bU sz f q'::M))\/(gf s ps=none/\∀q',(mO sz f (qt s q' ps)).Perm (bU sz f q'::mO sz f ps))
 |[]=>.inr ⟨rfl,λq'=>.refl _⟩
 |(a,u)::m=>by
  by_cases h:s=a
  ·refine .inl ⟨u,mO sz f m,by grind[gf],.refl _,λq'=>?_⟩
   simp only[qt,h,if_true];rfl
  ·rcases QT sz f s m with⟨q,M,h1,h2,h3⟩|⟨h1,h2⟩
   ·refine .inl ⟨q,bU sz f u::M,by simp_all[gf],(List.Perm.cons _ h2).trans (.swap _ _ _),λq'=>?_⟩
    simp only[qt,h,if_false]
    exact(List.Perm.cons _ (h3 q')).trans (.swap _ _ _)
   ·refine .inr ⟨by simp_all[gf],λq'=>?_⟩
    simp only[qt,h,if_false]
    exact(List.Perm.cons _ (h2 q')).trans (.swap _ _ _)
theorem we(i:f []=[]){ps:List (κ×Lq α)}(h:W w (aT (mO sz f ps)::L))(s:κ):∃(q:Lq α)(M:List aG),(iV s (mV ps)).getD (D)=cf q/\q.2=kQ s ps/\W w (bU sz f q::aT M::L)/\
  ∀(w':ga)(L':List aG)(a:Lq α),W w' (bU sz f a::aT M::L')->W w' (aT (mO sz f (qt s a ps))::L'):=by
 have b:∀(M:List aG)(a:Lq α),(mO sz f<|qt s a ps).Perm (bU sz f a::M)->∀(w':ga)(L':List aG),W w' (bU sz f a::aT M::L')->W w' (aT (mO sz f<|qt s a ps)::L'):=λM a hp w' L' h=>by
  have c:=W.flat.1 h.swap;have d:W w' ((bU sz f a::M)++L'):=c.perm lh;exact W.flat.2 (d.perm<|hp.symm.append_right _)
 rcases QT sz f s ps with⟨q,M,c,a,e⟩|⟨c,a⟩
 ·refine⟨q,M,by simp_all[jW],by simp_all[kQ],?_,λw' L' d=>b M d (e d) w' L'⟩;have d:=(W.flat.1 h).perm (a.append_right _);have g:W w (M++(bU sz f q::L)):=d.perm lh.symm;exact(W.flat.2 g).swap
 ·refine⟨((none,0),[]),mO sz f ps,by rw[jW,c];rfl,by simp_all[kQ],?_,λw' L' d=>b _ d (a d) w' L'⟩
  simp_all[bU,aH]
theorem JP:∀{L:List aG}{i:Nat}(h:i<L.length),tX L i=L[i]
 |[],i,h=>G
 |A::L,0,_=>rfl
 |A::L,i+1,h=>by
  show tX L i=_
  rw[JP (L:=L) η];rfl
theorem U7{ps:List (κ×Lq α)}{h:Hp}(b:aL (aT (mO sz f ps)::L) h){q:Lq α}(c:gf s ps=some q):∃a,sub a h/\bU sz f q a:=by
 have d:=pZ.1 b;have e:bU sz f q∈mO sz f ps:=iz.2 ⟨(s,q),JO c,rfl⟩;obtain⟨a,g⟩:=jR e;have k:=(gJ.1 g).1;obtain⟨l,m,i⟩:=dN a G d;have j:tX (mO sz f ps++L) a=bU sz f q:=by grind[JP,List.length_append,List.getElem_append_left,List.getElem?_eq_some_iff]
 rw[j] at i
 grind
end
section
variable{κ:Type}[DecidableEq κ][jj κ]{P:iI}{Ty:aC->Option dL}{w:ga}{b:Nat}{m:List (κ×ah)}{h:Hp}
theorem CA{α:Type}{sz:Nat}{f:List α->Ay}{L:List aG}{s:κ}{ps:List (κ×Lq α)}{M:List aG}(d:∀(w':ga)(L':List aG)(a:Lq α),W w' (bU sz f a::aT M::L')->W w' (aT (mO sz f (qt s a ps))::L'))
  {o:E} {n c:Nat} (us:List α) {vs:Ay} (e:n=us.length) (g:vs=f us) (h:W w (hZ b (c_ s (T o n c) (mV ps))::own sz o n c vs::aT M::L)):
  W w (hZ b (mV (qt s ((o,c),us) ps))::aT (mO sz f (qt s ((o,c),us) ps))::L):=by
 subst e;subst g;have a:mV (qt s ((o,c),us) ps)=c_ s (T o us.length c) (mV ps):=Zy _ _;rw[a];exact(d w _ ((o,c),us)<|h.pick 3 [1,2,0]).swap
theorem WT{A:aG}(a:A h):aL [A] h:=⟨h,λ_=>none,λ_=>.inr rfl,sZ,λ_ _ h=>(nomatch h),a,trivial⟩
theorem fT{h':Hp}(s:sub h h')(a:hZ b m h):hZ b m h':=by
 obtain⟨c,d,e,f⟩:=a;exact⟨c,d,s _ _ e,f⟩
theorem fp(d:hZ b m h)(s:sub h (hp w))(e:fb P Ty){t a c:aC}{i:dL}{z:ah}(f:ai Ty t=.map a c)(g:yx P a κ)(hi:Ty c=some i)(j:i.zero=some z)(k:κ):
  bg P (Instr.lookup t (.map (some b)) (jj.val k) false) w λl n=>l=(iV k m).getD z/\n=w:=
 sf (L:=[]) e f g hi j (WT<|fT s d) k
end
section
variable{κ:Type}[DecidableEq κ][Dq κ]{P:iI}{Ty:aC->Option dL}{w:ga}{b:Nat}{m:List (κ×ah)}{h:Hp}
theorem QU(d:hZ b m h)(s:sub h (hp w))(e:fb P Ty){t a c:aC}{i:dL}{z:ah}(f:ai Ty t=.map a c)(g:P.underlying a=some (Dq.kd κ))(hi:Ty c=some i)(j:i.zero=some z)(k:κ):
  bg P (Instr.lookup t (.map (some b)) (jj.val k) false) w λl n=>l=(iV k m).getD z/\n=w:=fp d s e f (yx.Js g) hi j k
end
def n4(g:B)(j:Nat)(s:Int):A0:=(List.range j).filter λi=>decide ((g.prods[i]?.map aD.left)=some s)
abbrev K5(g:B)(s:Int):A0:=n4 g g.prods.length s
theorem JQ{g:B}{j:Nat}{p:aD}(h:g.prods[j]? =some p)(s:Int):n4 g (j+1) s=n4 g j s++if s=p.left then[j] else[]:=by
 unfold n4;rw[k8,lX]
 grind
theorem Oo(g:B)(j:Nat)(s:Int):(n4 g j s).length<=j:=by
 have:=mr (λi=>decide ((g.prods[i]?.map aD.left)=some s))<|List.range j;rwa [oT] at this
theorem Ai{g:B}{s:Int}{i:Nat}:i∈K5 g s↔∃p,g.prods[i]? =some p/\p.left=s:=by
 unfold K5 n4
 grind
structure pj(h:Hp)(g:B)(k:Nat):Prop where
 ex:∃(x:GA)(kb:Nat)(m:List (Int×ah)),aj h (Z k) (x.cells++[.map (some kb)])/\gR h g x/\hZ kb m h/\
  ∀s:Int,∃(a:E)(c:Nat),(iV s m).getD (D)=.slice a (K5 g s).length c/\bf h ((K5 g s).map Int.ofNat) a (K5 g s).length
theorem pj.mono{h h':Hp}{g:B}{k:Nat}(s:sub h h')(r:pj h g k):pj h' g k:=by
 obtain⟨a,b,c,d,e,f,i⟩:=r.ex;exact⟨a,b,c,d.mono s,e.mono s,fT s f,λj=>by obtain⟨l,m,n,r⟩:=i j;exact⟨l,m,n,r.mono s⟩⟩
end
section
variable{w:ga}{L:List aG}{a:E}{l c:Nat}{xs:List aq}{g:B}{x:GA}
theorem HA(A:gR (hp w) g x)(C:jq g):ρ 93 [.agg ⟨x.cells⟩] w λb c=>∃(k a:Nat)(ps:List (Int×Lq Int)),b=u (some (Z k))/\(∀s,kQ s ps=(K5 g s).map Int.ofNat)/\W c (ax k (x.cells++[.map (some a)])::hZ a (mV ps)::aT (mO 1 iv ps)::all w):=by
 refine Tg ?_;refine dZ A λa9 i F v y=>?_;have I:=v.p.1;obtain⟨_,_,_,aa,_,_,_⟩:=C;refine⟨_,_,_,_,_,_,_,_,_,_,_,_,_,y.row sZ,?_⟩;refine oW (W.all i) λb ab L=>?_;have P:=eJ (κ:=Int) L;refine ag (vs:=x.cells++[.map (some b)]) P λe Q m=>?_
 refine⟨_,_,_,y.c4<|aE 2 m.l,λa c=>∃(j:Nat)(ps:List (Int×Lq Int)),a=j/\j<=x.pl/\(∀s,kQ s ps=(n4 g j s).map Int.ofNat)/\W c (ax e (x.cells++[.map (some b)])::hZ b (mV ps)::aT (mO 1 iv ps)::all i),λa _=>x.pl-a.toNat,
  ⟨0,[],rfl,gu _,λs=>rfl,(show W Q (ax e (x.cells++[.map (some b)])::hZ b ([]:List (Int×ah))::aT []::all i) from by
   have a:=m.pick 2 [1,0];exact((W.flat (M:=[])).2 a).pick 3 [2,1,0])⟩,?_⟩
 clear m;rintro _ _ R⟨j,ps,rfl,ac,z,n⟩;have S:sub (hp i) (hp R):=aE 3 n.l;refine ae (λX=>?_) λX=>?_
 rotate_left
 ·have a:j=x.pl:=G
  subst a;rw[<-I] at z;exact⟨e,b,ps,rfl,z,W.on (N:=[_,_,_]) n<|bM F⟩
 have f:j<x.pl:=η
 obtain⟨a,ad,vs,al,Y,a0,a1,a2,a3,rfl,am,an⟩:=v.p.get f;refine aI Y f ⟨_,_,_,_,_,a0.at S rfl,ag n λo ao p=>aQ p rfl (by simp[aO]) λap p=>?_⟩;intro av a4;have h:=p.eq<|aW a4;have c:∀{d:ga}{l:List aG},W d (ax e (x.cells++[.map (some b)])::l)->d.cell? ((Z e).add 5)=some (.map<|some b):=λd=>(af 0 d.l).cell sZ (j:=5) rfl;have d:∀{l:ga}{q:List aG},W l (ax o [O a.left,T a1 a2 a3,O a.level]::q)->l.cell? (Z o)=some (O a.left):=λl=>(af 0 l.l).cell0 sZ
 refine⟨λl=>l.cell? ((Z e).add 5)=some (.map<|some b)/\l.cell? (Z o)=some (O a.left),⟨c<|h.pick 2 [1],d h⟩,_,λq l=>l.1,_,λq l=>l.2,_,λq l=>l.1,_,λq l=>l.2,?_,?_⟩
 ·refine(cM (κ:=Int) aY (rfl:ai Ty _=.map _ _) bX rfl rfl (h.pick 3 [2]) a.left).mono ?_;rintro _ _⟨rfl,rfl⟩;obtain⟨l,M,a5,az,q,a6⟩:=we rfl (h.pick 4 [3,0,1,2]) a.left;have aB:l.2.length<=j:=by simp_all[Oo]
  refine⟨_,_,_,a5,⟨c<|q.pick 4 [3],d<|q.pick 3 [2]⟩,ag q λaK aR r=>⟨⟨c<|r.pick 5 [4],d<|r.pick 4 [3]⟩,?_⟩⟩;refine(aU (us:=iv l.2) aY (rfl:ai Ty _=.slice _) (rfl:ai Ty _=.slice _) rfl rfl rfl r rfl (by simp[aO]) G U).mono ?_;rintro _ aS⟨aV,b0,rfl,t⟩;refine⟨_,_,_,rfl,⟨c<|t.pick 5 [4],d<|t.pick 4 [3]⟩,(dz (κ:=Int) aY (rfl:ai Ty _=.map _ _) bX (t.pick 7 [5,0,2,4,6]) a.left _).mono ?_⟩;rintro _ b1 a7;have a8:=CA a6 (l.2++[(j:Int)]) V (by simp[iv]) a7;exact⟨ξ,⟨j+1,_,V,f,λs=>by grind[nX,JQ],a8.pick 4 [2,0,1,3]⟩,bS f⟩
 ·refine ag h λaz aB l=>⟨⟨c<|l.pick 3 [2],d<|l.pick 2 [1]⟩,(cM (κ:=Int) aY (rfl:ai Ty _=.map _ _) bX rfl rfl (l.pick 4 [3]) a.left).mono ?_⟩;rintro _ _⟨rfl,rfl⟩;obtain⟨q,M,a5,aK,r,a6⟩:=we rfl (l.pick 5 [4,0,1,2,3]) a.left;have aR:q.2.length<=j:=by simp_all[Oo]
  refine⟨_,_,_,a5,⟨c<|r.pick 5 [4],d<|r.pick 4 [3]⟩,?_⟩;refine(aU (us:=iv q.2) aY (rfl:ai Ty _=.slice _) (rfl:ai Ty _=.slice _) rfl rfl rfl (r.pick 3 [2,0,1]) rfl (by simp[aO]) G U).mono ?_;rintro _ aS⟨aV,b0,rfl,t⟩;refine⟨_,_,_,rfl,⟨c<|t.pick 5 [4],d<|t.pick 4 [3]⟩,(dz (κ:=Int) aY (rfl:ai Ty _=.map _ _) bX (t.pick 7 [5,0,2,4,6]) a.left _).mono ?_⟩;rintro _ b1 a7;have a8:=CA a6 (q.2++[(j:Int)]) V (by simp[iv]) a7;exact⟨ξ,⟨j+1,_,V,f,λs=>by grind[nX,JQ],a8.pick 4 [2,0,1,3]⟩,bS f⟩
theorem HC{h:Hp}{k c:Nat}{ps:List (Int×Lq Int)}(f:gR h g x)(i:∀s,kQ s ps=(K5 g s).map Int.ofNat)(d:aL (ax k (x.cells++[.map (some c)])::hZ c (mV ps)::aT (mO 1 iv ps)::L) h):pj h g k:=by
 obtain⟨q,j,l⟩:=B7 1 d;refine⟨x,c,mV ps,af 0 d,f,fT j l,λs=>?_⟩;have a:=i s;cases e:gf s ps with
 |none=>
  have b:kQ s ps=[]:=by simp_all[kQ]
  rw[b] at a;have m:K5 g s=[]:=List.map_eq_nil_iff.1 a.symm;rw[jW,e,m];exact⟨none,0,rfl,bf.nil⟩
 |some b=>
  have m:kQ s ps=b.2:=by simp_all[kQ]
  rw[m] at a;obtain⟨r,n,o⟩:=U7 (ay<|ay d) e;have p:b.2.length=(K5 g s).length:=η
  refine⟨b.1.1,b.1.2,by simp_all[jW,cf],?_⟩;rw[<-a,<-p];exact(bA rfl (bD o)).mono n
def y8(g:B)(I:List aq):Prop:=∀x∈I,xk g x
theorem QV{k:Nat}{y:aq}(s:pj (hp w) g k)(t:xk g y):
  ρ 184 [u (some (Z k)),.agg (fB y).toArray] w λa b=>a=O (nS g y)/\Gr w b:=by
 obtain⟨a,Y,a0,v,e,_,_⟩:=s.ex;obtain⟨a1,a2,x,z,a3⟩:=t;refine yJ<|ag (W.all w) λA a4 C=>?_;intro b F;have f:=C.eq<|aW F;have c:Gr w b:=f.aS;have d:aj (hp b) (Z A) [O y.prod,O y.dot]:=af 0 f.l;obtain⟨h,I⟩:∃l:Nat,y.prod=l:=⟨y.prod.toNat,U⟩;obtain⟨l,m⟩:∃n:Nat,y.dot=n:=⟨y.dot.toNat,U⟩;have n:g.prods[h]? =some x:=η
 have o:h<a.pl:=by have:=(gJ.1 n).1;have:=e.p.1;omega
 obtain⟨a5,a6,a7,p,L,N,P,q,a8,rfl,a9,r⟩:=e.p.get o;rw[n] at p;cases p;have aa:=r.1;refine⟨λQ=>Gr b Q,Gr.refl _,a.pa,a.pl,a.pc,λR Q=>v.cell (sub.trans c Q) (j:=4) rfl,_,λR Q=>d.cell0 Q,?_⟩;rw[I];refine aI L o ⟨_,_,_,λR Q=>N.cell (sub.trans c Q) (j:=1) rfl,_,d.cell sZ (j:=1) rfl,?_⟩;rw[yC z,m,je]
 refine ae (λQ=>?_) λQ=>?_
 ·grind
 ·have ab:l≠q:=λR=>η
  obtain⟨R,ac,ad,S,X⟩:=r.dy (i:=l) U;refine⟨_,(d.cell sZ (j:=1) rfl),?_⟩
  show M P q y.dot 1 _
  rw[m];refine au S U ⟨R,X _ c,?_⟩
  simp_all
end
theorem y_{n:Nat}(h:(n+1)*16<=140737488355328):n<9223372036854775807:=U
theorem uS{α:Type}:∀{l m:List α},l.Nodup->(∀x∈l,x∈m)->l.length<=m.length
 |[],m,_,_=>gu _
 |a::l,m,h,hs=>by
  obtain⟨m1,m2,rfl⟩:=List.append_of_mem (hs a V)
  rw[kN] at h
  have:=uS (l:=l) (m:=m1++m2) h.2 λx hx=>G
  grind
def pk(i:Nat):aq:=⟨(i:Int),0⟩
theorem wS.or{g:B}{I:List aq}{x:aq}(h:wS g I x):x∈I\/∃i,i<g.prods.length/\x=pk i:=by
 cases h with
 |base h=>simp_all
 |step _ _ hp _=>exact .inr ⟨_,(gJ.1 hp).1,rfl⟩
theorem U8(g:B)(I:List aq):(j1 g I).length<=I.length+g.prods.length:=by
 have:=uS (m:=I++(List.range g.prods.length).map pk) (N2 (g:=g) (I:=I)).nodup λb a=>by
  rw[iU]
  rcases(DE.1 a).or with c|⟨d,e,rfl⟩
  ·simp_all
  grind
 simp_all
theorem ZA{h:Hp}{xs:List aq}{a:E}{l:Nat}(r:bf h xs a l):dX a (tv xs) h:=by
 cases xs with
 |nil=>exact .inl rfl
 |cons d m=>
  obtain⟨b,o,rfl,_⟩:=r.2 0 d rfl;refine .inr ⟨b,rfl,Ac (n:=2) (λ_=>rfl) _ b λe c f=>?_⟩;obtain⟨p,g,i,j,k⟩:=r.2 e c f;cases i;rw[show g=fB c from k] at j;omega
theorem HE(xs:List aq):∀v∈tv xs,aO v=true:=λv b=>by
 obtain⟨d,_,c⟩:=lR.1 b
 rcases jb.1 c with rfl|a
 ·rfl
 ·rw[jA] at a;subst a;rfl
theorem Oq{P:iI}{Ty:aC->Option dL}{w:ga}{L:List aG}{e g:aC}(b:fb P Ty){t tx ty:aC}{i:dL}{z:ah}(j:ai Ty t=.slice e)(k:ai Ty tx=.slice g)(hi:Ty e=some i)(m:i.zero=some z)(o:(cellsOf z).length=i.size)
  {a d:E} {l c n c2:Nat} {us news:Ay} (h:W w (own i.size a l c us::L)) (p:news.length=n*i.size) (h0:0<i.size) (q:dX d news (hp w)) (r:∀f∈news,aO f=true) (s:(l+n)*i.bytes<=140737488355328) (v:l+n<=9223372036854775807):
  bg P (Builtin.append_ (Array.mk [t,tx]) ty (Array.mk [T a l c,T d n c2])) w λx y=>∃f c',x=T f (l+n) c'/\W y (own i.size f (l+n) c' (us++news)::L):=by
 refine jH b j hi m o h (n:=n) (news:=news) (gU b k p ?_ r) s v
 rcases q with rfl|⟨f,rfl,x⟩
 ·left
  rcases Nat.eq_zero_or_pos n with h|h
  ·omega
  ·have:=Nat.mul_pos h h0;simp_all
 ·exact .inr ⟨f,rfl,λy A C=>j5<|x y A C⟩
structure CB(g:B)(I:List aq)(m:List (Int×ah))(H:Az)(i:Nat)(ls:List aq):Prop where
 nd:H.Nodup
 eq:ls=I++(H.flatMap (K5 g)).map pk
 of:∀s∈H,0<=s/\∃y,wS g I y/\nS g y=s
 mp:∀s,(iV s m).getD (O 0)=O (if s∈H then 1 else 0)
 dn:∀(j:Nat) y,j<i->ls[j]? =some y->0<=nS g y->nS g y∈H
section
variable{g:B}{I ls:List aq}{m:List (Int×ah)}{H:Az}{i:Nat}
theorem U9:∀{H:Az},H.Nodup->(H.flatMap (K5 g)).Nodup
 |[],_=>V
 |s::H,h=>by
  rw[kN] at h
  rw[lC,kS]
  refine⟨List.nodup_range.filter _,U9 h.2,λa ha b hb e=>?_⟩
  subst e
  obtain⟨t,ht,hb⟩:=lR.1 hb
  obtain⟨p,h1,rfl⟩:=Ai.1 ha
  obtain⟨q,h2,rfl⟩:=Ai.1 hb
  simp_all
theorem CB.len(h:CB g I m H i ls):ls.length<=I.length+g.prods.length:=by
 have:=uS (m:=List.range g.prods.length) (U9 (g:=g) h.nd) λa b=>by grind[Ai,List.getElem?_eq_some_iff]
 rw[oT] at this;rw[h.eq,jw,jO];omega
theorem CB.sound(h:CB g I m H i ls){x:aq}(b:x∈ls):wS g I x:=by
 rw[h.eq,iU] at b
 rcases b with a|a
 ·exact .base a
 ·obtain⟨k,c,rfl⟩:=iz.1 a;obtain⟨d,e,f⟩:=lR.1 c;obtain⟨l,hp,n⟩:=Ai.1 f;obtain⟨o,p,j,q⟩:=h.of d e;exact .step j U hp U
theorem CB.start:CB g I [] [] 0 I:=⟨V,V,λa b=>η,λa=>by rfl,λa b c=>U⟩
theorem CB.skip(h:CB g I m H i ls){y:aq}(e:ls[i]? =some y)(f:nS g y<0\/nS g y∈H):CB g I m H (i+1) ls:=
 ⟨h.nd,h.eq,h.of,h.mp,λa b j c d=>by
  by_cases k:a=i
  ·grind
  ·exact h.dn a b U c d⟩
theorem CB.more(h:CB g I m H i ls){y:aq}(e:ls[i]? =some y)(h0:0<=nS g y)(n:nS g y∉H):CB g I (c_ (nS g y) (O 1) m) (H++[nS g y]) (i+1) (ls++(K5 g (nS g y)).map pk):=by
 have f:=gg e
 refine⟨?_,?_,λa c=>?_,λa=>?_,λb j o d k=>?_⟩
 ·rw[kS];exact⟨h.nd,V,λl p q r s=>η⟩
 ·rw[kr,jI,<-jT,<-h.eq];simp
 ·rw[iU,jA] at c
  rcases c with l|rfl
  ·exact h.of a l
  ·exact⟨h0,y,h.sound f,rfl⟩
 ·rw[fN]
  by_cases l:a=nS g y
  ·grind
  ·rw[gv l,h.mp a];grind
 ·rw[iU,jA];have l:b<ls.length:=G
  rw[ki l] at d
  by_cases p:b=i
  ·simp_all
  ·exact .inl (h.dn b j U d k)
theorem CB.fin(h:CB g I m H i ls)(hi:i=ls.length):lay ls=j1 g I:=by
 refine FM (py _) λo=>?_;rw[nw];refine⟨h.sound,λa=>?_⟩
 induction a with
 |base b=>rw[h.eq];simp_all
 | @step b c d _ e f j k=>
  obtain⟨l,n⟩:=jR k;have:=h.dn l b G n e;rw[h.eq,iU];exact .inr (iz.2 ⟨c,lR.2 ⟨_,this,Ai.2 ⟨d,f,j⟩⟩,rfl⟩)
end
section
variable{w:ga}{L:List aG}{a:E}{l c:Nat}{I:List aq}{g:B}
theorem HG(b:bf (hp w) I a l)(k:l*16<=140737488355328):ρ 270 [T a l c] w λd e=>∃o c',d=T o l c'/\W e (own 2 o l c' (tv I)::all w):=by
 have d:=b.1
 refine jS (ae (λg=>?_) λg=>?_)
 ·have e:a=none:=η
  subst e
  have f:I=[]:=by
   cases I with
   |nil=>rfl
   |cons h _=>obtain⟨i,_,j,_⟩:=b.2 0 h rfl;grind
  subst f;have:l=0:=d.symm;subst this;exact⟨_,_,rfl,aH 2<|W.all w⟩
 ·refine ag (W.all w) λh e f=>?_;have i:Gr w e:=f.aS;have j:W e (own 2 (some<|Z h) 0 0 []::all w):=bq (cs:=[]) f rfl rfl (gP _);refine(Oq (us:=[]) (news:=tv I) aY (rfl:ai Ty _=.slice _) (rfl:ai Ty _=.slice _) rfl rfl rfl j (by rw[kK,d]) V (ZA<|b.mono i) (HE I) η U).mono ?_
  grind
theorem WU{k:Nat}(A:pj (hp w) g k)(C:bf (hp w) I a l)(a0:y8 g I)(a1:(l+g.prods.length+1)*16<=140737488355328):
  ρ 183 [u (some (Z k)),T a l c] w λb d=>∃o,b=.slice o (j1 g I).length (j1 g I).length/\W d (own 2 o (j1 g I).length (j1 g I).length (tv (j1 g I))::all w):=by
 have t:=C.1;refine xq<|(HG C U).mono ?_;rintro _ b4⟨o,b5,rfl,a2⟩;refine⟨_,_,_,rfl,oW a2 λF b6 a3=>?_⟩;have L:=eJ (κ:=Int) a3
 refine⟨λo e c h i=>∃(d:Nat)(b:List aq)(f:List (Int×ah))(m:Az),h=d/\e=b.length/\d<=b.length/\CB g I f m d b/\W i (own 2 o e c (tv b)::hZ F f::all w),λ_ _ _ b _=>(l+g.prods.length)-b.toNat,
  ⟨0,I,[],[],rfl,t.symm,gu _,.start,L.pick 2 [1,0]⟩,?_⟩
 clear L;rintro _ o _ b7 _ a4⟨h,d,v,n,rfl,rfl,b9,e,p⟩;have x:=e.len;rw[t] at x;refine ae (λa5=>?_) λa5=>?_
 rotate_left
 ·have f:h=d.length:=G
  refine(Zq p U).mono ?_;rintro _ i⟨m,rfl,b⟩;rw[e.fin f] at b ⊢;exact⟨_,_,_,rfl,_,rfl,b.pick 3 [0,2]⟩
 have i:h<d.length:=η
 obtain⟨b,ba,q,rfl,a6⟩:=lY (DG p) i;have a7:=gg q;have a8:xk g b:=(e.sound a7).fit a0;have a9:sub (hp w) (hp a4):=aE 2 p.l;refine aI rfl i ⟨_,_,a6 _ sZ,(QV (A.mono a9) a8).mono ?_⟩;rintro _ bb⟨rfl,aa⟩;have m:=p.gr aa
 refine⟨_,rfl,ae (λN=>?_) λN=>?_⟩
 ·have f:=gZ N;exact⟨ξ,⟨h+1,d,v,n,V,rfl,i,e.skip q<|.inl f,m⟩,bS U⟩
 have ab:0<=nS g b:=η
 refine(cM (κ:=Int) aY (rfl:ai Ty _=.map _ _) bX rfl rfl (m.pick 3 [1,0,2]) _).mono ?_;rintro _ _⟨rfl,rfl⟩
 refine⟨_,e.mp _,ae (λac=>?_) λac=>?_⟩
 ·have f:nS g b∈n:=G
  exact⟨ξ,⟨h+1,d,v,n,V,rfl,i,e.skip q<|.inr f,m⟩,bS U⟩
 have P:nS g b∉n:=λf=>η
 refine(cM (κ:=Int) aY (rfl:ai Ty _=.map _ _) bX rfl rfl (m.pick 3 [1,0,2]) _).mono ?_;rintro _ _⟨rfl,rfl⟩;refine⟨_,e.mp _,ξ,(dz (κ:=Int) aY (rfl:ai Ty _=.map _ _) bX (m.pick 3 [1,0,2]) _ _).mono ?_⟩;rintro _ ad r;rw[gv P,show(0:Int)+1=1 from rfl] at r;have y:=e.more q ab P;have z:=y.len;rw[t,jw,jO] at z;have Q:sub (hp w) (hp ad):=aE 2 r.l;obtain⟨bc,bd,mb,al,be,R,S⟩:=A.ex;obtain⟨bi,bl,am,an⟩:=S<|nS g b;refine⟨_,al.cell Q (j:=5) rfl,(QU (κ:=Int) R Q aY (rfl:ai Ty _=.map _ _) bX rfl rfl _).mono ?_⟩;rintro _ bo⟨rfl,ao⟩;rw[ao];refine⟨_,_,_,am,?_⟩
 refine⟨λo f c s X=>∃j:Nat,s=j/\j<=(K5 g<|nS g b).length/\f=d.length+j/\W X (own 2 o f c (tv<|d++((K5 g<|nS g b).take j).map pk)::hZ F (c_ (nS g b) (O 1) v)::all w),λ_ _ _ f _=>(K5 g<|nS g b).length-f.toNat,
  ⟨0,rfl,gu _,rfl,?_⟩,?_⟩
 ·rw[List.take_zero,List.map_nil,jK];exact r.pick 3 [1,0,2]
 clear r;rintro _ o _ bs _ ap⟨j,rfl,bu,rfl,s⟩;have av:sub (hp w) (hp ap):=aE 2 s.l;refine ae (λaz=>?_) λaz=>?_
 rotate_left
 ·have f:j=(K5 g<|nS g b).length:=G
  subst f;rw[jl] at s;exact⟨ξ,⟨h+1,_,_,_,V,V,G,y,s⟩,bS<|Nat.lt_of_lt_of_le i x⟩
 have f:j<(K5 g<|nS g b).length:=η
 obtain⟨X,aB⟩:∃Y,(K5 g<|nS g b)[j]? =some Y:=⟨_,gn f⟩;obtain⟨aK,bz,bE,aR,aS⟩:=an.dy f;have aV:aK=(X:Int):=η
 subst aV;have Y:(d.length+j+1)*16<=140737488355328:=j3 (nO 16<|Nat.succ_le_succ<|j3 (Nat.add_le_add_left (Nat.le_of_lt f) _) z) a1;have b0:=y_ Y;clear x z y S R;refine au aR f ⟨_,aS _ av,ag s λbN bO b1=>?_⟩;refine(aU (us:=tv<|d++((K5 g<|nS g b).take j).map pk) aY (rfl:ai Ty _=.slice _) (rfl:ai Ty _=.slice _) rfl rfl rfl b1 rfl (by simp[aO]) Y b0).mono ?_;rintro _ bP⟨bT,c0,rfl,b2⟩;refine⟨_,_,_,rfl,ξ,⟨j+1,V,f,rfl,?_⟩,bS f⟩
 have b3:tv (d++((K5 g<|nS g b).take (j+1)).map pk)=tv (d++((K5 g<|nS g b).take j).map pk)++[O (X:Int),O 0]:=by
  rw[iw,aB,oB,jI,<-jT,Ft];rfl
 rw[b3];exact b2.pick 4 [0,2,3]
def wT(g:B)(K:List aq)(s:Int):List aq:=(K.filter λx=>decide (nS g x=s)).map λx=>⟨x.prod,x.dot+1⟩
theorem Tp{g:B}{K:List aq}{x:aq}{s:Int}:wT g (K++[x]) s=if s=nS g x then wT g K s++[⟨x.prod,x.dot+1⟩] else wT g K s:=by
 unfold wT
 grind
theorem MK(g:B)(K:List aq)(s:Int):(wT g K s).length<=K.length:=by simp[wT,mr]
theorem WV{k:Nat}(r:pj (hp w) g k)(t:bf (hp w) I a l)(v:y8 g I)(x:(l+g.prods.length+1)*16<=140737488355328)(aK:∀p∈g.prods,p.right.length<=17592186043904):
  ρ 95 [u (some (Z k)),T a l c] w λd e=>∃(b:Nat)(ps:List (Int×Lq aq)),d=.map (some b)/\(∀s,0<=s->kQ s ps=bI g I s)/\(ps.map Prod.fst).Nodup/\(∀s,s∈ps.map Prod.fst↔0<=s/\bI g I s≠[])/\W e (hZ b (mV ps)::aT (mO 2 tv ps)::all w):=by
 have Y:=t.1;refine xm<|oW (W.all w) λi a0 a1=>?_;have y:=eJ (κ:=Int) a1;have z:Gr w a0:=aE 1 y.l;refine((WU (r.mono z) (t.mono z) v x).mono ?_);rintro _ a2⟨A,rfl,C⟩;have F:=C.fy y.l;have L:=U8 g I;rw[Y] at L;refine⟨_,_,_,rfl,?_⟩
 refine⟨λb d=>∃(j:Nat)(ps:List (Int×Lq aq)),b=j/\j<=(j1 g I).length/\(∀s,0<=s->kQ s ps=wT g ((j1 g I).take j) s)/\(ps.map Prod.fst).Nodup/\(∀s,s∈ps.map Prod.fst↔0<=s/\wT g ((j1 g I).take j) s≠[])/\
   W d (hZ i (mV ps)::aT (mO 2 tv ps)::own 2 A (j1 g I).length (j1 g I).length (tv<|j1 g I)::all w),λb _=>(j1 g I).length-b.toNat,
  ⟨0,[],rfl,gu _,λs _=>by rfl,V,λs=>by simp[wT],?_⟩,?_⟩
 ·have b:W a2 (hZ i ([]:List (Int×ah))::own 2 A (j1 g I).length (j1 g I).length (tv<|j1 g I)::all w):=F.pick 3 [1,0,2];exact((W.flat (M:=[])).2 b).swap
 clear F C;rintro _ _ a3⟨j,ps,rfl,aR,N,m,n,f⟩;refine ae (λa4=>?_) λa4=>?_
 rotate_left
 ·have b:j=(j1 g I).length:=G
  rw[b,jl] at N n;exact⟨i,ps,rfl,N,m,n,f.pick 4 [0,1,3]⟩
 have d:j<(j1 g I).length:=η
 obtain⟨b,aS,a5,rfl,a6⟩:=lY (DG<|f.pick 3 [2]) d;have o:xk g b:=(DE.1<|gg a5).fit v
 have aV:b.dot+1<=9223372036854775807:=by
  obtain⟨_,_,p,hp,e⟩:=o
  grind
 have b0:=o.2.1;have b1:sub (hp w) (hp a3):=aE 3 f.l;have P:∀s,wT g ((j1 g I).take (j+1)) s=if s=nS g b then wT g ((j1 g I).take j) s++[⟨b.prod,b.dot+1⟩] else wT g ((j1 g I).take j) s:=λs=>by simp_all[iw,Tp]
 refine aI rfl d ⟨_,_,a6 _ sZ,ag f λa7 b2 e=>aQ e rfl (by simp[aO]) λb3 e=>⟨_,_,(af 0 e.l).at sZ rfl,(QV (r.mono<|aE 4 e.l) o).mono ?_⟩⟩;rintro _ a8⟨rfl,a9⟩;have q:=e.gr a9;refine⟨_,rfl,ae (λQ=>?_) λQ=>?_⟩
 rotate_left
 ·have h:nS g b<0:=η
  refine⟨ξ,⟨j+1,ps,V,d,λs R=>?_,m,λs=>?_,q.pick 5 [1,2,3,4]⟩,bS d⟩
  ·grind
  grind
 have aa:0<=nS g b:=gZ Q;refine(cM (κ:=Int) aY (rfl:ai Ty _=.map _ _) bX rfl rfl (q.pick 5 [1,0,2,3,4]) _).mono ?_;rintro _ b4⟨rfl,ab⟩;rw[ab];obtain⟨h,M,ac,ad,R,al⟩:=we rfl (q.pick 5 [2,0,1,3,4]) (nS g b);have am:h.2.length<=(j1 g I).length:=by grind[Nat.le_trans,MK,List.length_take]
 have S:aj (hp a8) (Z a7) [O b.prod,O b.dot]:=af 2 R.l;have X:(h.2.length+1)*16<=140737488355328:=j3 (nO 16<|Nat.succ_le_succ<|j3 am L) x;have an:=y_ X;refine⟨_,_,_,ac,_,S.cell0 sZ,_,S.cell sZ (j:=1) rfl,ξ,ag R λb5 b6 ao=>?_⟩;refine(aU (us:=tv h.2) aY (rfl:ai Ty _=.slice _) (rfl:ai Ty _=.slice _) rfl rfl rfl ao rfl (by simp[aO]) X an).mono ?_;rintro _ b7⟨b9,ba,rfl,ap⟩;refine⟨_,_,_,rfl,(dz (κ:=Int) aY (rfl:ai Ty _=.map _ _) bX (ap.pick 7 [4,0,2,5,6]) (nS g b) _).mono ?_⟩;rintro _ bb av;have az:=CA al (h.2++[⟨b.prod,b.dot+1⟩]) V (by rw[Ft];rfl) av
 refine⟨ξ,⟨j+1,_,V,d,λs bc=>?_,On _ m,λs=>?_,az⟩,bS d⟩
 ·rw[nX,P,ad]
  simp_all
 ·rw[FO,P];have:=n s
  by_cases aB:s=nS g b
  ·subst aB;rw[gD rfl];refine⟨λ_=>⟨aa,V⟩,λ_=>?_⟩
   grind
  grind
end
section
variable{α:Type}{f:α->Ay}{n:Nat}
theorem qu(hf:∀x,(f x).length=n):∀xs:List α,(xs.flatMap f).length=xs.length*n
 |[]=>V
 |x::xs=>by rw[lC,jw,hf,qu hf xs,lQ,pP,Nat.add_comm]
theorem ZB(hf:∀x,(f x).length=n):∀(xs:List α)(i j:Nat)(x y:α)(v:ah),xs[i]? =some x->j<n->f y=(f x).set j v->(xs.flatMap f).set (i*n+j) v=(xs.set i y).flatMap f
 |[],i,j,x,y,v,h,_,_=>by rfl
 |z::xs,0,j,x,y,v,h,hj,he=>η
 |z::xs,i+1,j,x,y,v,h,hj,he=>by
  rw[List.set_cons_succ,lC,lC,o7 _ _ G,hf,show(i+1)*n+j-n=i*n+j by grind]
  rw[ZB hf xs i j x y v η hj he]
end
theorem Ip{M L:List aG}{h:Hp}{i:Nat}{A:aG}(b:aL (aT M::L) h)(hi:M[i]? =some A):∃a,sub a h/\A a:=by
 have a:=pZ.1 b;obtain⟨c,d⟩:=gJ.1 hi;obtain⟨f,g,e⟩:=dN i G a;rw[JP G,List.getElem_append_left c,d] at e
 grind
def WW(x:aN):Ay:=[O x.sym,O x.to]
def rh(xs:List aN):Ay:=xs.flatMap WW
theorem HH(xs:List aN):(rh xs).length=xs.length*2:=qu (f:=WW) (n:=2) (λ_=>rfl) xs
abbrev SQ:=Lq aq×Lq aN
def WX(q:SQ):Ay:=[cf q.1,cf q.2]
def Sm(ss:List SQ):Ay:=ss.flatMap WX
def U_(ss:List SQ):List aG:=ss.map λq=>bU 2 tv q.1
def Tq(ss:List SQ):List aG:=ss.map λq=>bU 2 rh q.2
def fD(ss:List SQ):List dU:=ss.map λq=>q.1.2
def cN(ss:List SQ):List (List aN):=ss.map λq=>q.2.2
theorem Va(ss:List SQ):(Sm ss).length=ss.length*2:=qu (f:=WX) (n:=2) (λ_=>rfl) ss
theorem ZC(ss:List SQ)(q:SQ):Sm (ss++[q])=Sm ss++WX q:=by simp[Sm]
def l_(x:aq):Prop:=0<=x.prod/\x.prod<256/\0<=x.dot/\x.dot<65536
def HR(x:aq):List UInt8:=[UInt8.ofNat x.prod.toNat,UInt8.ofNat (x.dot.toNat%256),UInt8.ofNat (x.dot.toNat/256)]
def xF(K:List aq):List UInt8:=K.flatMap HR
def nf(K:List aq):vS:=⟨(xF K).toArray⟩
def rK(b:UInt8):ah:=.int .u8 (b.toNat:Int)
theorem ZD{x y:aq}(a:l_ x)(b:l_ y)(h:HR x=HR y):x=y:=by
 obtain⟨f,g,i,j⟩:=a;obtain⟨k,l,m,n⟩:=b;unfold HR at h;simp only[List.cons.injEq,and_true] at h;obtain⟨c,d,e⟩:=h;have o:=congrArg UInt8.toNat c;have p:=congrArg UInt8.toNat d;have q:=congrArg UInt8.toNat e
 grind[UInt8.toNat_ofNat',aq.ext']
theorem QW:∀{K M:List aq},(∀x∈K,l_ x)->(∀x∈M,l_ x)->xF K=xF M->K=M
 |[],[],_,_,_=>rfl
 |[],y::M,_,_,h=>by grind[xF,HR]
 |x::K,[],_,_,h=>by grind[xF,HR]
 |x::K,y::M,hk,hm,h=>by
  unfold xF at h
  rw[lC,lC] at h
  obtain⟨h1,h2⟩:=List.append_inj h rfl
  rw[ZD (hk x V) (hm y V) h1,QW (λz hz=>hk z G) (λz hz=>hm z G) h2]
theorem Ts{K M:List aq}(a:∀x∈K,l_ x)(b:∀x∈M,l_ x)(h:nf K=nf M):K=M:=by
 refine QW a b ?_
 simp_all[nf]
theorem WY(K:List aq)(x:aq):xF (K++[x])=xF K++HR x:=by simp[xF]
theorem QX(K:List aq):(xF K).length=K.length*3:=by
 induction K with
 |nil=>rfl
 |cons a K b=>grind[xF,List.length_append,List.length_cons,HR]
theorem HJ{x:aq}(h:l_ x):[Value.int .u8 (IntKind.u8.wrap x.prod),Value.int .u8 (IntKind.u8.wrap x.dot),Value.int .u8 (IntKind.u8.wrap (bj .i64 x.dot 8))]=(HR x).map rK:=by
 obtain⟨b,c,d,e⟩:=h
 have a:bj .i64 x.dot 8=x.dot/256:=by
  simp only[bj,IntKind.bits]
  grind
 rw[a];simp only[HR,kn,List.map_nil,rK,UInt8.toNat_ofNat',IntKind.wrap,IntKind.signed,IntKind.bits]
 grind
def HS(m:List (vS×ah))(st:List dU):Prop:=∀K,(∀x∈K,l_ x)->(iV (nf K) m).getD (O 0)=O (if K∈st then((st.idxOf K:Nat):Int)+1 else 0)
theorem HS.start:HS [] []:=λa _=>by rfl
theorem HS.put{m:List (vS×ah)}{st:List dU}{K:dU}(h:HS m st)(d:∀x∈K,l_ x)(e:K∉st):HS (c_ (nf K) (O ((st.length+1:Nat):Int)) m) (st++[K]):=λa b=>by
 rw[fN]
 by_cases c:nf a=nf K
 ·have:=Ts b d c
  grind
 ·rw[gv c,h a b]
  grind
section
variable{w:ga}{L:List aG}{a:E}{l c:Nat}{K:List aq}
theorem HK(h:bf (hp w) K a l)(o:∀x∈K,l_ x)(F:K≠[])(I:l*16<=140737488355328):
  ρ 182 [T a l c] w λb d=>b=.string (nf K)/\Gr w d:=by
 have p:=h.1;refine QB ⟨λb n c d e=>∃j:Nat,d=j/\j<=l/\n=(xF<|K.take j).length/\W e (own 1 b n c ((xF<|K.take j).map rK)::all w),λ_ _ _ b _=>l-b.toNat,⟨0,rfl,gu _,rfl,aH 1<|W.all w⟩,?_⟩;rintro _ L _ q _ i⟨j,rfl,N,rfl,b⟩;have r:sub (hp w) (hp i):=aE 1 b.l
 refine ae (λs=>?_) λs=>?_
 ·have d:j<l:=η
  obtain⟨x,Q,k,rfl,t⟩:=lY h d;have v:=o x<|gg k;refine aI rfl d ⟨_,_,t _ r,ag b λy R e=>aQ e rfl (by simp[aO]) λz e=>?_⟩;have f:aj (hp z) (Z y) [O x.prod,O x.dot]:=af 0 e.l;refine⟨_,f.cell0 sZ,_,f.cell sZ (j:=1) rfl,_,f.cell sZ (j:=1) rfl,by show(0:Int)<=8;simp,?_⟩;refine ag e λS X g=>?_;rw[HJ v] at g;have A:=QX<|K.take j;rw[k5] at A;refine(Oq (n:=3) (us:=(xF<|K.take j).map rK) (news:=(HR x).map rK) aY (rfl:ai Ty _=.slice _) (rfl:ai Ty _=.slice _) rfl rfl rfl (g.pick 3 [2,0]) rfl V (.inr ⟨_,rfl,af 0 g.l⟩) (λC m=>by obtain⟨Y,_,rfl⟩:=iz.1 m;rfl) G U).mono ?_;rintro _ Y⟨a0,a1,rfl,C⟩;have m:xF (K.take<|j+1)=xF (K.take j)++HR x:=by rw[iw,k,oB,WY]
  refine⟨_,_,_,rfl,ξ,⟨j+1,V,d,by rw[m,jw];rfl,?_⟩,bS d⟩;rw[m,jI];exact C.pick 3 [0,2]
 ·have d:j=l:=G
  subst d;rw[<-p,jl] at b ⊢;have e:0<((xF K).map rK).length:=by grind[List.length_map,QX,List.length_pos_iff]
  obtain⟨f,rfl⟩:=fk b e;have g:=run_convert_bytes_back (P:=prog) i S0 uv Y2 f q (xF K) Qn WJ qj λj k=>r_ b rfl (by rw[iE,gn k];rfl);exact⟨_,_,g,Ev.refl _,_,rfl,rfl,b.aS⟩
end
abbrev Tt(kt ka:Nat)(o:E)(c:Nat)(asked int:Int)(m:List (vS×ah))(ss:List SQ)(L:List aG):List aG:=
 ax kt [T o ss.length c,O asked,O int,.map (some ka)]::own 2 o ss.length c (Sm ss)::hZ ka m::aT (U_ ss)::aT (Tq ss)::L
def qv(ss:List SQ)(b:E)(d:Nat)(K:dU):List SQ:=if K∈fD ss then ss else ss++[(((b,d),K),((none,0),[]))]
theorem Ot(ss:List SQ)(b:E)(d:Nat)(K:dU):fD (qv ss b d K)=yE (fD ss) K:=by grind[qv,yE,fD]
theorem uT(ss:List SQ):(fD ss).length=ss.length:=jO _
theorem HM{ss:List SQ}{K:dU}(h:K∈fD ss):∃q,ss[(fD ss).idxOf K]? =some q/\q.1.2=K:=by
 have a:=List.idxOf_lt_length_of_mem h;rw[uT] at a;refine⟨ss[(fD ss).idxOf K],gn a,?_⟩;have b:(fD ss)[(fD ss).idxOf K]'G=K:=List.getElem_idxOf _
 grind[fD]
theorem Ou{h:Hp}{o:E}{ss:List SQ}{i:Nat}{q:SQ}(r:dX o (Sm ss) h)(b:ss[i]? =some q):∃a,o=some a/\aj h (a.add (ew i 2)) (WX q):=by
 rcases r with c|⟨a,rfl,r⟩
 ·have d:=congrArg List.length c
  grind[Va,List.length_nil,List.getElem?_eq_some_iff]
 ·exact⟨a,rfl,cQ (n:=2) (λ_=>rfl) ss a r i q b⟩
theorem Ov{ss:List SQ}{i:Nat}{q:SQ}(a:ss[i]? =some q):(U_ ss)[i]? =some (bU 2 tv q.1):=by simp_all[U_]
theorem HO{ss:List SQ}{i:Nat}{q:SQ}(a:ss[i]? =some q):(Tq ss)[i]? =some (bU 2 rh q.2):=by simp_all[Tq]
theorem Ow{q:Lq aq}{h:Hp}(a:bU 2 tv q h):bf h q.2 q.1.1 q.2.length:=N8 rfl (bD a)
section
variable{w:ga}{L:List aG}
theorem QY{a e c l d:Nat}{o b:E}{f int:Int}{m:List (vS×ah)}{ss:List SQ}{K:dU}(h:W w (Tt a e o c f int m ss (own 2 b l d (tv K)::L)))
  (s:HS m (fD ss)) (R:K≠[]) (k:∀x∈K,l_ x) (an:0<=f/\f<4611686018427387904) (hi:0<=int/\int<4611686018427387904) (ao:ss.length<=300) (S:l*16<=140737488355328):
  ρ 94 [u (some (Z a)),T b l d] w λg i=>g=O ((fD ss).idxOf K:Nat)/\∃o' c' m',HS m' (yE (fD ss) K)/\
   W i (Tt a e o' c' (f+1) (int+((qv ss b d K).length-ss.length:Nat)) m' (qv ss b d K) L):=by
 have t:l=K.length:=by have:=gm<|h.pick 6 [5];grind[kK]
 have v:0<l:=G
 have ap:K[0]? =some K[0]:=gn U;refine yH ⟨_,(af 0 h.l).cell sZ (j:=1) rfl,ξ,?_⟩
 show gh w ((Z a).add 1) _ _
 rw[ak];refine aX h V λX h=>?_;obtain⟨av,y,z⟩:=B7 5 h.l;have A:bf (hp X) K b l:=(N8 t.symm<|bD z).mono y;refine(HK A k R S).mono ?_;rintro _ az⟨rfl,C⟩;have h:=h.gr C;have F:=A.mono C;clear y z
 refine⟨_,rfl,λg=>K∉fD ss/\W g (Tt a e o c (f+1) int m ss<|own 2 b l d (tv K)::L),?_,?_⟩
 ·intro g I;have h:=h.eq<|aW I;have Y:bf (hp g) K b l:=F.mono<|Gr.drawn I;have i:aj (hp g) (Z a) [T o ss.length c,O<|f+1,O int,.map<|some e]:=af 0 h.l
  have q:bg prog (Instr.lookup Hx (.map<|some e) (.string<|nf K) false) g λa0 a1=>a0=O (if K∈fD ss then(((fD ss).idxOf K:Nat):Int)+1 else 0)/\a1=g:=by
   refine(cM (κ:=vS) aY (rfl:ai Ty _=.map _ _) qj rfl rfl (h.pick 3 [2]) (nf K)).mono ?_;rintro _ _⟨rfl,rfl⟩;exact⟨s K k,rfl⟩
  refine⟨λn=>Gr g n,Gr.refl _,_,λp n=>i.cell n (j:=3) rfl,q.mono ?_⟩;rintro _ aB⟨rfl,a2⟩;rw[a2];refine⟨_,rfl,λn=>Gr g n,Gr.refl _,λ_ h=>h,ae (λa3=>?_) λa3=>?_⟩
  rotate_left
  ·grind
  have n:K∈fD ss:=mw λp=>η
  obtain⟨p,r,aK⟩:=HM n;have a4:=(gJ.1 r).1;obtain⟨a5,rfl,a6⟩:=Ou (dT 1 h.l) r;obtain⟨aR,a7,a8⟩:=Ip (h.pick 4 [3]).l (Ov r);have a9:bf (hp g) K p.1.1.1 p.1.2.length:=by have:=(Ow a8).mono a7;simp_all
  have aS:p.1.2.length=l:=η
  obtain⟨x,aV,aa,ab,N⟩:=lY Y v;obtain⟨b0,b1,P,ac,Q⟩:=lY a9 (by omega:0<p.1.2.length);rw[aa] at P;cases P;rw[wM] at N Q;refine⟨_,_,_,λal ad=>i.cell0 ad,_,λal ad=>i.cell ad (j:=3) rfl,nR ab v ⟨_,_,N,q.mono ?_⟩⟩;rintro _ b2⟨rfl,ad⟩;rw[ad,gD n];have al:(((fD ss).idxOf K:Nat):Int)+1-1=(((fD ss).idxOf K:Nat):Int):=U
  refine⟨_,rfl,λam=>Gr g am,Gr.refl _,λ_ h=>h,ξ,?_⟩;rw[al];refine aI rfl a4 ⟨_,_,_,λb3 am=>a6.cell0 am,nR ac U ⟨_,_,Q,_,λam _=>Tj am _ _ x x,_,rfl,gd V ⟨_,i.cell sZ (j:=3) rfl,q.mono ?_⟩⟩⟩;rintro _ b3⟨rfl,am⟩;rw[am,gD n]
  refine⟨_,rfl,ξ,V,some a5,c,m,?_,?_⟩
  ·simp_all[yE]
  ·unfold qv;rw[gD n,lH];rw[show int+((0:Nat):Int)=int by omega];exact h.pick 6 [0,1,2,3,4]
 clear h F;rintro _ N⟨p,h⟩;refine⟨_,(af 0 h.l).cell sZ (j:=2) rfl,ξ,?_⟩
 show gh N ((Z a).add 2) _ _
 rw[ak];refine aX h V λa6 h=>?_;refine⟨_,_,_,(af 0 h.l).cell0 sZ,ag h λa7 a8 h=>?_⟩;refine(aU (us:=Sm ss) aY (rfl:ai Ty _=.slice _) (rfl:ai Ty _=.slice _) rfl rfl rfl (h.pick 3 [0,2,1]) rfl (by simp[aO]) G U).mono ?_;rintro _ a9⟨g,i,rfl,h⟩;refine⟨_,_,_,rfl,aX (h.pick 3 [2,0]) V λaa h=>?_⟩;intro n P;have h:=h.eq<|aW P;have h:W n (ax a [T g (ss.length+1) i,O<|f+1,O<|int+1,.map<|some e]::own 2 g (ss.length+1) i (Sm ss++[T b l d,D])::hZ e m::aT (U_ ss)::aT (Tq ss)::own 2 b l d (tv K)::L):=h;have q:aj (hp n) (Z a) [T g (ss.length+1) i,O<|f+1,O<|int+1,.map<|some e]:=af 0 h.l;refine⟨λr=>Gr n r,Gr.refl _,_,λI r=>q.cell r (j:=3) rfl,_,_,_,λI r=>q.cell0 r,(dz (κ:=vS) aY (rfl:ai Ty _=.map _ _) qj (h.pick 3 [2,0,1]) (nf K) _).mono ?_⟩;rintro _ Q h;have r:=s.put k p;rw[uT] at r;refine⟨_,(af 1 h.l).cell sZ (j:=3) rfl,(cM (κ:=vS) aY (rfl:ai Ty _=.map _ _) qj rfl rfl h (nf K)).mono ?_⟩;rintro _ ab⟨rfl,Y⟩;rw[Y];have I:=r K k;have a0:[K].idxOf K=0:=V
 rw[gD V,List.idxOf_append,gv p,a0,lS,uT] at I;have a1:qv ss b d K=ss++[(((b,d),K),((none,0),[]))]:=by simp_all[qv]
 have ac:yE (fD ss) K=fD ss++[K]:=by simp_all[yE]
 refine⟨_,I,ξ,?_,g,i,c_ (nf K) (O ((ss.length+1:Nat):Int)) m,?_,?_⟩
 ·simp_all[List.idxOf_eq_length,uT]
 ·simp_all
 ·rw[a1];have h:=W.snoc<|(aH 2 h).pick 7 [0,5,1,2,3,4,6];have h:=(W.snoc<|h.pick 6 [5,4,0,1,2,3]).pick 5 [3,4,2,0,1];have a2:Sm (ss++[(((b,d),K),((none,0),[]))])=Sm ss++[T b l d,D]:=by rw[ZC,t];rfl
  have a3:U_ (ss++[(((b,d),K),((none,0),[]))])=U_ ss++[own 2 b l d (tv K)]:=by simp_all[U_,bU]
  have a4:Tq (ss++[(((b,d),K),((none,0),[]))])=Tq ss++[own 2 none 0 0 []]:=by simp[Tq,bU,rh]
  have a5:(ss++[(((b,d),K),(((none,0),[]):Lq aN))]).length=ss.length+1:=V
  show W Q (ax a [T g _ i,_,O<|int+_,_]::own 2 g _ i _::_::_::_::L)
  rw[a2,a3,a4,a5,show((ss.length+1-ss.length:Nat):Int)=1 by omega];exact h
end
section
variable{g:B}{K:dU}{x:aq}{s:Int}{i:Nat}
theorem aw.cR(h:aw g):g.T<=65/\g.N<=65/\g.prods.length<=97/\2<=g.prods.length/\1<=g.T/\2<=g.N:=by
 obtain⟨_,a,b,_⟩:=h;have c:0<g.terms.length:=by have:=(gJ.1 a.1).1;omega
 exact⟨a.2.2.1,a.2.2.2.1,b.2.1,b.1,c,a.2.1⟩
theorem aw.sym(h:aw g){p:aD}(hp:p∈g.prods)(a:s∈p.right):1<=s/\s<g.T+g.N:=by
 obtain⟨_,l,b,m,d,_,e,_⟩:=h;obtain⟨f,c⟩:=jR hp;cases f with
 |zero=>
  rw[d] at c;cases c;rw[e,jA] at a;have:=b.2.2.2;omega
 |succ j=>
  have k:p∈g.prods.drop 1:=by
   refine gg (i:=j) ?_
   simp_all
  have:=(b.2.2.1 p k).2 s a;exact⟨this.1,this.2.1⟩
theorem zi(a:aw g)(b:∀x∈K,xk g x)(h0:0<=s)(c:bI g K s≠[]):1<=s/\s<g.T+g.N:=by
 obtain⟨x,d⟩:=oZ _ c;obtain⟨i,e,f,_⟩:=dh.1 d;obtain⟨j,hp,_,h⟩:=JE (e.fit b) f h0;exact a.sym (gg hp) (gg h)
theorem QZ(hp:g.prods.length<=97)(b:pq K)(c:∀x∈K,xk g x)(d:∀x∈K,x.dot<=299):K.length<=29100:=by
 have:=uS (m:=(List.range 29100).map λa=>(⟨((a/300:Nat):Int),((a%300:Nat):Int)⟩:aq)) b.nodup λx a=>by
  obtain⟨f,h,i,e,_⟩:=c x a;have j:=(gJ.1 e).1;have k:=d x a;refine iz.2 ⟨x.prod.toNat*300+x.dot.toNat,jY.2 U,?_⟩;exact aq.ext' G G
 simp_all
theorem ZE(hp:g.prods.length<=97)(a:xk g x)(b:x.dot<65536):l_ x:=by
 obtain⟨c,d,f,e,_⟩:=a;have h:=(gJ.1 e).1;exact⟨c,U,d,b⟩
theorem CC(g:B)(K:dU):(dr g K).Pairwise (·<·):=(List.pairwise_lt_range (n:=g.T+g.N)).filter _
theorem HP{ks:Az}(a:aw g)(b:∀x∈K,xk g x)(c:ks.Nodup)(d:∀s,s∈ks↔0<=s/\bI g K s≠[]):ks.mergeSort (λx e=>decide (x<=e))=(dr g K).map Int.ofNat:=by
 have hp:=List.mergeSort_perm ks (λx e=>decide (x<=e));have i:(ks.mergeSort λx e=>decide (x<=e)).Pairwise (·<=·):=by grind[List.pairwise_mergeSort,decide]
 have j:((dr g K).map Int.ofNat).Pairwise (·<=·):=by grind[CC]
 have e:((dr g K).map Int.ofNat).Nodup:=by grind[CC]
 have k:ks.Perm ((dr g K).map Int.ofNat):=(List.perm_ext_iff_of_nodup c e).2 λs=>by
  rw[d,iz]
  constructor
  ·rintro⟨f,h⟩;obtain⟨_,l⟩:=zi a b f h;refine⟨s.toNat,kh.2 ⟨jY.2 U,?_⟩,G⟩
   grind
  ·rintro⟨h,f,rfl⟩;exact⟨V,gZ (kh.1 f).2⟩
 grind[List.Perm.eq_of_pairwise,Int.le_antisymm]
end
section
variable{κ α:Type}[DecidableEq κ]
def JR(s:κ)(ps:List (κ×Lq α)):Lq α:=(gf s ps).getD ((none,0),[])
theorem Tu{ps:List (κ×Lq α)}(a:(ps.map Prod.fst).Nodup){s:κ}{q:Lq α}(c:(s,q)∈ps):gf s ps=some q:=by
 induction ps with
 |nil=>simp_all
 |cons b d e=>
  obtain⟨f,g⟩:=b;rw[kn,kN] at a;unfold gf
  grind
theorem ZF{sz:Nat}{f:List α->Ay}{ps:List (κ×Lq α)}(b:(ps.map Prod.fst).Nodup){ks:List κ}(hp:ks.Perm (ps.map Prod.fst)):(mO sz f ps).Perm (ks.map λa=>bU sz f (JR a ps)):=by
 have c:mO sz f ps=(ps.map Prod.fst).map λd=>bU sz f (JR d ps):=by
  unfold mO;rw[nQ];refine qL λa e=>?_
  show bU sz f a.2=bU sz f (JR a.1 ps)
  unfold JR;rw[Tu b e];rfl
 rw[c];exact(hp.map _).symm
end
theorem ZG{w:ga}{L M N:List aG}(h:W w (aT M::L))(hp:M.Perm N):W w (aT N::L):=W.flat.2 ((W.flat.1 h).perm (hp.append_right _))
theorem HT{w:ga}{L M:List aG}{A:aG}(h:W w (aT (A::M)::L)):W w (A::aT M::L):=by
 have a:W w (A::(M++L)):=W.flat.1 h;have b:W w (M++(A::L)):=a.perm lh.symm;exact(W.flat.2 b).swap
def Ox(es:List (List aN)):Nat:=(es.map List.length).sum
theorem ML(es:List (List aN))(x:List aN):Ox (es++[x])=Ox es+x.length:=by simp[Ox]
theorem uU{g:B}{K:dU}:∀(l:A0)(acc:List dU×List aN),(q_ g K l acc).2.length=acc.2.length+l.length
 |[],_=>rfl
 |s::l,acc=>by
  show(q_ g K l _).2.length=_
  rw[uU l];grind
theorem ZH{ss:List SQ}{i:Nat}{q:SQ}(a:ss[i]? =some q)(e:Lq aN):fD (ss.set i (q.1,e))=fD ss/\U_ (ss.set i (q.1,e))=U_ ss/\cN (ss.set i (q.1,e))=(cN ss).set i e.2/\Tq (ss.set i (q.1,e))=(Tq ss).set i (bU 2 rh e):=by simp_all[fD,DC,U_,cN,Tq]
theorem HY{ss:List SQ}{i:Nat}{q:SQ}(a:ss[i]? =some q)(e:Lq aN):(Sm ss).set (i*2+1) (cf e)=Sm (ss.set i (q.1,e)):=
 ZB (f:=WX) (n:=2) (λ_=>rfl) ss i 1 q (q.1,e) _ a V rfl
structure bG(g:B)(ss:List SQ):Prop where
 dn:U0 g ss.length
 ks:fD ss=(gb g ss.length).1
 es:cN ss=(gb g ss.length).2
structure WZ(g:B)(ss:List SQ)(m:List (vS×ah))(asked:Int)(i:Nat):Prop where
 ks:fD ss=(gb g i).1
 es:cN ss=(gb g i).2++List.replicate (ss.length-i) []
 lt:∀j,j<i->j<(gb g j).1.length
 le:ss.length<=256
 key:HS m (fD ss)
 ask:asked=1+(Ox (gb g i).2:Int)
structure Q0(g:B)(K:dU)(ss:List SQ)(m:List (vS×ah))(asked:Int)(i t:Nat)(es:List aN):Prop where
 ks:fD ss=(q_ g K ((dr g K).take t) ((gb g i).1,[])).1
 ed:es=(q_ g K ((dr g K).take t) ((gb g i).1,[])).2
 es:cN ss=(gb g i).2++List.replicate (ss.length-i) []
 le:ss.length<=256
 key:HS m (fD ss)
 ask:asked=1+(Ox (gb g i).2:Int)+t
section
variable{g:B}{K:dU}{ss:List SQ}{m m':List (vS×ah)}{k:Int}{i t:Nat}{es:List aN}
theorem WZ.start{b:E}{d:Nat}(h:HS m (yE [] [⟨0,0⟩])):WZ g (qv [] b d [⟨0,0⟩]) m 1 0:=by
 have a:qv [] b d [⟨0,0⟩]=[(((b,d),[⟨0,0⟩]),((none,0),[]))]:=by rfl
 have c:yE [] [(⟨0,0⟩:aq)]=[[⟨0,0⟩]]:=by rfl
 rw[c] at h;rw[a];exact⟨rfl,rfl,λe f=>U,V,h,rfl⟩
theorem WZ.inner(h:WZ g ss m k i)(a:(gb g i).1[i]? =some K):Q0 g K ss m k i 0 []:=
 ⟨h.ks,rfl,h.es,h.le,h.key,by rw[h.ask];omega⟩
theorem Q0.next(h:Q0 g K ss m k i t es){s:Nat}(c:(dr g K)[t]? =some s)(hi:i<=ss.length){b:E}{d:Nat}(f:HS m' (yE (fD ss) (bI g K s)))(e:(qv ss b d (bI g K s)).length<=256):
  Q0 g K (qv ss b d (bI g K s)) m' (k+1) i (t+1) (es++[⟨(s:Int),(((fD ss).idxOf (bI g K s):Nat):Int)⟩]):=by
 have a:=Qx (g:=g) (K:=K) (acc:=((gb g i).1,[])) c
 refine⟨?_,?_,?_,e,by simp_all[Ot],by rw[h.ask];omega⟩
 ·rw[Ot,a,h.ks]
 ·rw[a,h.ed,h.ks]
 ·unfold qv
  split
  ·exact h.es
  ·have:cN (ss++[(((b,d),bI g K s),(((none,0),[]):Lq aN))])=cN ss++[[]]:=by simp[cN]
   rw[this,h.es,jw,pK,show ss.length+1-i=(ss.length-i)+1 by omega,pE,jT]
theorem Q0.done(h:Q0 g K ss m k i (dr g K).length es)(p:∀j,j<i->j<(gb g j).1.length)(d:(gb g i).1[i]? =some K)(f:(gb g i).2.length=i)(hi:i<ss.length){q:SQ}(l:ss[i]? =some q)(e:Lq aN)(n:e.2=es):
  WZ g (ss.set i (q.1,e)) m k (i+1):=by
 have a:=ZH l e;have o:=h.ks;have b:=h.ed;rw[jl] at o b;have c:=iM d
 refine⟨η,?_,λj r=>?_,by rw[ky];exact h.le,by rw[a.1];exact h.key,?_⟩
 ·rw[a.2.2.1,h.es,c,n,<-b,ky,o7 _ _ U,f,lH,show ss.length-i=(ss.length-(i+1))+1 by omega,oH,List.set_cons_zero,jT];rfl
 ·grind
 ·rw[c,ML,h.ask,uU]
  grind
end
theorem Oy{g:B}:∀i,Ox (gb g i).2<=i*(g.T+g.N)
 |0=>gu _
 |i+1=>by
  cases h:(gb g i).1[i]? with
  |none=>rw[uA h,pP];exact j3 (Oy i) (Nat.le_add_right _ _)
  |some K=>
   rw[iM h,ML,uU,pP]
   have h1:(dr g K).length<=g.T+g.N:=by
    have:=mr (λs=>decide (bI g K (s:Nat)≠[])) (List.range (g.T+g.N))
    rwa [oT] at this
   have:=Oy (g:=g) i
   grind
theorem ZI(ss:List SQ)(b:E)(d:Nat)(K:dU):ss.length<=(qv ss b d K).length/\(qv ss b d K).length<=ss.length+1:=by grind[qv]
theorem HZ{κ α:Type}(ps:List (κ×Lq α)):(mV ps).map Prod.fst=ps.map Prod.fst:=by simp[mV]
theorem H0{κ α:Type}(ps:List (κ×Lq α)):(mV ps).length=ps.length:=jO _
abbrev z3:Ay:=[D,O 0,O 0]
section
variable{w:ga}{L:List aG}{g:B}{x:GA}
theorem H3(c0:gR (hp w) g x)(X:jq g):ρ 41 [.agg ⟨x.cells⟩] w λv a=>
  (¬aw g/\v=.tuple #[.agg #[D,O 0,O 0],O 1]/\Gr w a)\/
  (aw g/\wQ g/\v=.tuple #[.agg #[D,O 0,O 0],O 11]/\Gr w a)\/
  (aw g/\∃(o:E)(ss:List SQ),bG g ss/\v=.tuple #[.agg #[T o ss.length ss.length,O (1+(Ox (cN ss):Int)),O (ss.length:Int)],O 0]/\
   W a (own 2 o ss.length ss.length (Sm ss)::aT (U_ ss)::aT (Tq ss)::all w)):=by
 refine Lu<|dZ c0 λdn Y ap a0 a1=>?_;refine ag (W.all Y) λL ds a2=>?_;refine⟨_,_,_,_,_,_,_,_,_,_,_,_,_,a1.row a2.aS,(uy (a0.mono a2.aS) X).mono ?_⟩;rintro _ c1⟨⟨dv,rfl,bQ⟩,av⟩;have a3:=a2.gr av;have a4:sub (hp Y) (hp c1):=a3.aS
 refine⟨_,rfl,ae (λc2=>?_) λc2=>?_⟩
 ·have b:¬aw g:=λa=>η
  exact aQ a3 rfl (by simp[aO]) λc a=>⟨_,_,_,_,_,(af 0 a.l).at sZ rfl,.inl ⟨b,rfl,ap.trans a.aS⟩⟩
 have y:aw g:=bQ.1 η;obtain⟨dx,dy,az,dA,dC,dF⟩:=y.cR;obtain⟨_,_,_,_,_,_,c3⟩:=id X;refine⟨_,_,_,_,_,_,_,_,_,_,_,_,_,a1.row a4,(HA (a0.mono a4) X).mono ?_⟩;rintro _ dG⟨c4,dW,e0,rfl,c5,aB⟩;have c6:=(W.on (N:=[_,_,_]) aB a3.l).pick 5 [3,0,1,2,4];obtain⟨p,a5,c7,c8⟩:=W.freeze c6;have aK:sub (hp Y) p:=aE 3 a5;have c9:pj p g c4:=HC (a0.mono aK) c5 a5;have aR:sub (hp w) p:=sub.trans ap aK;clear a5 aB c7 a1 a4 av;refine⟨_,rfl,oW c8 λq e1 ca=>?_⟩;have cb:=eJ (κ:=vS) ca;refine ag cb λs e2 a6=>ag a6 λP cc a6=>?_;have cd:W cc (own 2 (some<|Z P) 1 1 (tv [⟨0,0⟩])::ax s [D,O 0,O 0,.map<|some q]::hZ q ([]:List (vS×ah))::ax L z3::[has p]):=bq (cs:=[]) a6 rfl rfl (gP _);have ce:=aH 2<|(W.flat (M:=[])).2 ((W.flat (M:=[])).2 cd);refine(QY (ss:=[]) (ce.pick 8 [4,0,5,1,2,3,6,7]) HS.start V (by simp[l_]) ⟨V,V⟩ ⟨V,V⟩ V V).mono ?_;rintro _ e3⟨rfl,cg,ch,ci,aS,a7⟩
 refine⟨_,rfl,λc d=>∃(a:Nat)(ss:List SQ)(o:E)(e:Nat)(m:List (vS×ah))(b:Int),c=a/\a<=ss.length/\WZ g ss m b a/\W d (Tt s q o e b ss.length m ss<|ax L z3::[has p]),λa _=>300-a.toNat,
  ⟨0,qv [] (some<|Z P) 1 [⟨0,0⟩],cg,ch,ci,1,rfl,gu _,.start aS,?_⟩,?_⟩
 ·have a:(0:Int)+(((qv [] (some<|Z P) 1 [⟨0,0⟩]).length-([]:List SQ).length:Nat):Int)=((qv [] (some<|Z P) 1 [⟨0,0⟩]).length:Int):=V
  rw[a] at a7;exact a7
 clear a7 aS;rintro _ _ aV⟨c,ss,o,b0,m,a8,rfl,e4,h,l⟩;have ck:ss.length<=256:=h.le;refine⟨_,_,_,(af 0 l.l).cell0 sZ,ae (λcl=>?_) λcl=>?_⟩
 rotate_left
 ·have e:c=ss.length:=G
  subst e;have f:=uT ss;have a:=h.es;rw[lH,List.replicate_zero,jK] at a;have i:bG g ss:=⟨⟨by rw[<-h.ks,f],ck,h.lt⟩,h.ks,a⟩;refine⟨_,_,_,(af 0 l.l).cell0 sZ,js<|bZ (bJ<|l.pick 2 [1]) ⟨_,_,_,rfl,?_⟩⟩;have k:=cK<|l.pick 7 [1,0,3,4,5,6];refine aX (k.pick 2 [1,0]) V λr b=>?_;have t:aj (hp r) (Z s) ([T (f_ o 0 ss.length 2) ss.length ss.length,O a8,O (ss.length:Int)]++[.map (some q)]):=af 0 b.l
  refine⟨_,_,_,_,_,t.take.at sZ rfl,aQ (b.pick 6 [4,1,2,3,5]) rfl (by simp[aO]) λz d=>⟨_,_,_,_,_,(af 0 d.l).at sZ rfl,.inr<|.inr ⟨y,f_ o 0 ss.length 2,ss,i,?_,?_⟩⟩⟩
  ·rw[a,<-h.ask]
  ·exact W.on (N:=[_,_,_]) (d.pick 5 [1,2,3,4]) (bM aR)
 have b1:c<ss.length:=η
 obtain⟨Q,a9⟩:∃a,ss[c]? =some a:=⟨_,gn b1⟩;obtain⟨a,cm⟩:∃b,b=Q.1.2:=⟨_,rfl⟩;have z:(gb g c).1[c]? =some a:=by rw[<-h.ks];simp_all[fD]
 have aa:=ik (g:=g) U c;have b2:=gg z;have A:=aa.fit a b2;have cn:∀x∈a,x.dot<=c:=aa.dots c a z;have e5:=QZ az (aa.srt a b2) A λx b=>G
 have co:=Oy (g:=g) c;have e6:Ox (gb g c).2<=33280:=j3 co<|Nat.mul_le_mul (show c<=256 by omega) (show g.T+g.N<=130 by omega);have cp:=Te (g:=g) c G;obtain⟨b3,rfl,b4⟩:=Ou (dT 1 l.l) a9;obtain⟨e7,b5,b6⟩:=Ip (l.pick 4 [3]).l (Ov a9);have b7:bf (hp aV) a Q.1.1.1 Q.1.2.length:=by have:=(Ow b6).mono b5;grind
 have cq:Q.1.2.length=a.length:=G
 clear b6 b5;have b9:sub p (hp aV):=aE 6 l.l;refine⟨_,_,_,(af 0 l.l).cell0 sZ,aI rfl b1 ⟨_,_,_,b4.cell0 sZ,(WV (c9.mono b9) b7 A U c3).mono ?_⟩⟩;rintro _ e8⟨ba,i,rfl,e9,ab,bb,bc⟩;have ct:=bc.Qf l.l;clear b4 b7 bc b9
 have ea:i.length<=130:=by
  have:=uS (m:=(List.range 130).map Int.ofNat) ab λb d=>by
   obtain⟨e,f⟩:=(bb b).1 d;obtain⟨_,k⟩:=zi y A e f;exact iz.2 ⟨b.toNat,jY.2 U,G⟩
  simp_all
 refine⟨_,rfl,(MI aY (rfl:ai Ty _=.map _ _) ct).mono ?_⟩;rintro _ eb⟨cu,rfl,bd⟩;refine⟨_,rfl,λo n b d=>∃ks:Az,n=ks.length/\W d (own 1 o n b (iv ks)::uR ba cu (mV i) ks::aT (mO 2 tv i)::Tt s q (some b3) b0 a8 ss.length m ss (ax L z3::[has p])),λ_ n _ _=>i.length-n,⟨[],rfl,aH 1 bd⟩,?_⟩;clear bd;rintro _ cv _ cx ed⟨ks,rfl,cy⟩;refine(QR<|cy.pick 2 [1,0]).mono ?_;rintro _ ef (⟨rfl,ac,R⟩|⟨C,be,eg,rfl,cz,R⟩)
 rotate_left
 ·rw[H0] at cz;refine .inr ⟨C,be,rfl,(MJ R).mono ?_⟩;rintro _ k⟨rfl,b⟩;rw[b];refine⟨C,be,rfl,ag (MG R) λr t d=>?_⟩;refine(aU (us:=iv ks) aY (rfl:ai Ty _=.slice _) (rfl:ai Ty _=.slice _) rfl rfl rfl (d.pick 3 [0,2,1]) rfl (by simp[aO]) G U).mono ?_;rintro _ F⟨I,S,rfl,e⟩;refine⟨_,_,_,rfl,⟨ks++[C],V,?_⟩,G⟩;have f:iv (ks++[C])=iv ks++[O C]:=by simp[iv]
  rw[f];exact e.pick 3 [0,2]
 rw[HZ] at ac;obtain⟨f,ad⟩:∃b,b=dr g a:=⟨_,rfl⟩;have bi:=HP (ks:=ks) y A (ac.nodup_iff.2 ab) λb=>G
 rw[<-ad] at bi;have al:(f.map Int.ofNat).Perm (i.map Prod.fst):=by grind[List.mergeSort_perm,trans]
 have ei:ks.length=f.length:=by rw[ac.length_eq,<-al.length_eq,jO]
 have ej:f.length<=130:=by have:=al.length_eq;simp_all
 refine .inl ⟨rfl,(U1 (R.pick 2 [1,0]) U).mono ?_⟩;rintro _ ek⟨rfl,bl⟩;rw[bi] at bl;have bo:=ZG (bl.pick 3 [2,0,1]) (ZF ab al)
 refine⟨rfl,λo n t F I=>∃(b:Nat)(e:List aN)(d:List SQ)(S:E)(am:Nat)(k:List (vS×ah))(r:Int),F=b/\b<=f.length/\n=e.length/\Q0 g a d k r c b e/\ss.length<=d.length/\
   W I (own 2 o n t (rh e)::own 1 cv ks.length cx (iv<|f.map Int.ofNat)::hZ ba (mV i)::aT (((f.map Int.ofNat).drop b).map λan=>bU 2 tv<|JR an i)::Tt s q S am r d.length k d (ax L z3::[has p])),λ_ _ _ b _=>f.length-b.toNat,
  ⟨0,[],ss,some b3,b0,m,a8,rfl,gu _,rfl,h.inner z,gP _,aH 2<|bo.pick 3 [1,2,0]⟩,?_⟩
 clear bo a9 cm cq;rintro _ S _ el _ em⟨k,d,e,cA,bs,bu,am,rfl,cB,rfl,r,en,F⟩;have eo:e.length<=256:=r.le
 have ep:d.length=k:=by
  rw[r.ed,uU,k5,<-ad,pS cB];simp
 refine ae (λcC=>?_) λcC=>?_
 ·have an:k<f.length:=η
  obtain⟨b,bz⟩:∃t,f[k]? =some t:=⟨_,gn an⟩;have er:(f.map Int.ofNat)[k]? =some (b:Int):=η
  obtain⟨es,cF,cI⟩:=cV (F.pick 2 [1]) (j:=k) (v:=O (b:Int)) (by simp_all[iv]);have bE:bI g a (b:Int)≠[]:=Ae b G;have cR:(b:Int)∈i.map Prod.fst:=(bb b).2 ⟨U,bE⟩;obtain⟨t,cT⟩:∃I,gf (b:Int) i=some I:=sy.1<|Zz.2 cR;have d0:JR (b:Int) i=t:=by simp_all[JR]
  have d1:t.2=bI g a (b:Int):=by grind[kQ]
  have d2:(f.map Int.ofNat).drop k=(b:Int)::(f.map Int.ofNat).drop (k+1):=by simp_all[vH,gJ]
  have et:=U8 g a;have eu:(bI g a (b:Int)).length<=(j1 g a).length:=MK g _ _;have ey:t.2.length<=29300:=G
  refine au cF U ⟨_,cI,(cM (κ:=Int) aY (rfl:ai Ty _=.map _ _) bX rfl rfl (F.pick 3 [2]) (b:Int)).mono ?_⟩;rintro _ ez⟨rfl,d3⟩;rw[d3];rw[d2,kn,d0] at F;have d4:=HT<|F.pick 4 [3,0,1,2];refine⟨t.1.1,t.2.length,t.1.2,by rw[jW,cT];rfl,(Zq d4 U).mono ?_⟩;rintro _ eA⟨I,rfl,bN⟩;rw[d1,yB Qv] at bN ⊢
  have d5:∀x∈bI g a (b:Int),l_ x:=λx bO=>by
   refine ZE az (Qw A (kF _) x bO) ?_;obtain⟨bP,ao,_,rfl⟩:=dh.1 bO;have:=ao.dot cn (kF _)
   grind
  have eB:=r.ask;refine⟨_,_,_,rfl,(QY (bN.pick 10 [5,6,7,8,9,0,1,2,3,4]) r.key bE d5 ξ ξ U U).mono ?_⟩;rintro _ eC⟨rfl,d6,d7,d8,d9,bP⟩;have eD:=ZI e I (bI g a (b:Int)).length (bI g a (b:Int));have dc:(e.length:Int)+(((qv e I (bI g a (b:Int)).length (bI g a (b:Int))).length-e.length:Nat):Int)=((qv e I (bI g a (b:Int)).length (bI g a (b:Int))).length:Int):=U
  rw[dc] at bP;refine⟨_,rfl,ag bP λeG eI df=>?_⟩;refine(aU (us:=rh d) aY (rfl:ai Ty _=.slice _) (rfl:ai Ty _=.slice _) rfl rfl rfl (df.pick 8 [0,7,1,2,3,4,5,6]) rfl (by simp[aO]) G U).mono ?_;rintro _ eK⟨eL,eM,rfl,ao⟩
  refine⟨_,_,_,rfl,_,_,_,(af 2 ao.l).cell0 sZ,ae (λdk=>?_) λdk=>?_⟩
  ·have dl:256<(qv e I (bI g a (b:Int)).length (bI g a (b:Int))).length:=G
   refine aQ (ao.pick 12 [10,11]) rfl (by simp[aO]) λeN bT=>⟨_,_,_,_,_,(af 0 bT.l).at sZ rfl,.inr<|.inl ⟨y,⟨c,a,k+1,z,λj eO=>?_,?_⟩,rfl,sub.trans aR<|aE 1 bT.l⟩⟩
   ·by_cases eP:j=c
    ·grind
    ·exact h.lt j U
   ·rw[ad] at bz;rw[Qx bz,<-r.ks]
    grind[uT,qv,bI,Ot,yE]
  ·have bT:(qv e I (bI g a (b:Int)).length (bI g a (b:Int))).length<=256:=G
   refine⟨ξ,⟨k+1,d++[⟨(b:Int),(((fD e).idxOf (bI g a (b:Int)):Nat):Int)⟩],_,d6,d7,d8,_,V,an,V,r.next η U d9 bT,U,?_⟩,bS an⟩;have dl:rh (d++[⟨(b:Int),(((fD e).idxOf (bI g a (b:Int)):Nat):Int)⟩])=rh d++[O (b:Int),O (((fD e).idxOf (bI g a (b:Int)):Nat):Int)]:=by unfold rh;rw[kr];rfl
   rw[dl];exact ao.pick 10 [0,8,9,7,2,3,4,5,6]
 ·have ao:k=f.length:=G
  intro I bz;have b:=F.eq<|aW bz;obtain⟨bE,t⟩:∃an,e[c]? =some an:=⟨_,gn U⟩;have bN:aj (hp I) (Z s) [T cA e.length bs,O am,O (e.length:Int),.map<|some q]:=af 4 b.l;obtain⟨bO,rfl,_⟩:=Ou (dT 5 b.l) t;refine⟨λan=>Gr I an,Gr.refl _,_,_,_,λbP an=>bN.cell0 an,kH<|bZ (bJ b) ⟨_,_,_,rfl,Gr.refl _,aI rfl U ?_⟩⟩;have bP:=cK b;rw[ke,bh];refine ib (bP.pick 6 [5,0,4]) rfl (by grind[Va]) λcR bT=>?_;rw[ao] at r;have cT:(f_ S 0 d.length 2,d.length,d).2.2=d:=rfl;have cF:=HY t ((f_ S 0 d.length 2,d.length),d);have an:=ZH t ((f_ S 0 d.length 2,d.length),d);have cI:=(W.Zb (n:=c) (bT.pick 6 [1,5,0,2,3,4]) (by grind[Tq,List.length_map])).pick 5 [2,1,3,4,0];refine⟨ξ,⟨c+1,e.set c (bE.1,((f_ S 0 d.length 2,d.length),d)),some bO,bs,bu,am,V,G,(by simp_all:Q0 g a e bu am c (dr g a).length d).done h.lt z cp U t _ rfl,?_⟩,G⟩;unfold Tt;rw[ky,an.2.1,an.2.2.2,<-cF];exact cI
section
variable{a b c d e f:E}{i j k l m n o p q r s t:Nat}{A B C Q:Int}{w:ga}{R:ah->WP}
theorem rq(h:new w (ψ a i j b k l c m n A d o p) λa b=>χ b (Z a) λc=>qf 50 [c,T e q r] b λd e c=>bQ (e<(q:Int)) (R (J false) c) (gT 0 c λb f c g=>nn d λh=>gp g (h.add 6) λi j k=>M i j e 1 λh=>gp g h λi j k=>bQ (c<(j:Int)) (nn d λh=>gp g (h.add 6) λi j k=>M i j e 1 λe=>gp g e λh i j=>M h i c 3 λe=>∃h i j,rA g e 3 [O h,O i,O j]/\H g [O 0,O 0,O 0] 132 λe k=>bC k (Z e) [O h,O i,O j] λh=>gj h λi h=>nn d λd=>gz h (d.add 4) λj k l=>gy h (Z e) λd=>M j k d 3 λd=>∃j k l m n,(∀a,h a->rA a d 3 [O j,T k l m,O n])/\H i [O 0,D,O 0] 134 λd i=>h i/\bC i (Z d) [O j,T k l m,O n] λh=>i_ h e 2 λi=>br (i==0) (i_ h e 1 λi=>hU h d 1 λe j k=>br (i==(j:Int)) (gX h (Z d) λe=>i_ h a 3 λd=>br (e==d) (R (J true) h) (gx b f c h g)) (gx b f c h g)) (gx b f c h g)) (R (J false) g))):ρ 13 [φ a i j b k l c m n A d o p,T e q r] w R:=rv func13 h ⟨[(5,[(7,aP)])],[],[],[]⟩
theorem xH(h:new w (ψ a i j b k l c m n A d o p) λa b=>χ b (Z a) λc=>gF 68 [c] b λd f g c=>gp c (Z a) λb h i=>hU c a 1 λj k l=>i_ c a 3 λm=>H c [D,D,D,O 0,D] 27 λc n=>bC n (Z c) [T b h i,T j k l,D,O m,D] λb=>gT 0 b λh i b j=>hU j a 4 λk l m=>bQ (b<(l:Int)) (gj j λe k=>∃l m n o p q r s t y v w x,(∀b,k b->rA b (Z a) 5 [T l m n,T o p q,T r s t,O y,T v w x])/\jo k a 4 λz C P=>M z C b 3 λF=>gz k (F.add 1) λI L N=>iu 71 [vG [T l m n,T o p q,T r s t,O y,T v w x],T d f g,T I L N] e λf e=>br f (gj e λd e=>jo e c 4 λf g k=>jo e a 4 λl m n=>M l m b 3 λa=>∃l m n o p,(∀b,e b->rA b a 3 [O l,T m n o,O p])/\H d [O l,T m n o,O p] 134 λa d=>e d/\iT 25 f g k a d λf g k d=>e d/\gh d (Addr.add (Z c) 4) (T f g k) λa=>gx h i b a j) (gx h i b e j)) (∃b d f g h i k l m n o p r,rA j (Z c) 5 [T b d f,T g h i,T k l m,O n,T o p r]/\H j [T b d f,T g h i,T k l m,O n,T o p r,D,D,D,O 0] 130 λb d=>gT 0 d λf g d h=>hU h c 4 λi j k=>bQ (d<(j:Int)) (gj h λa e=>jo e b 7 λi j k=>jr e b 8 λl=>H a [O l] 3 λa l=>e l/\iT 24 i j k a l λj k l i=>e i/\gh i (Addr.add (Z b) 7) (T j k l) λa=>gj a λe a=>jr a b 8 λi=>jo a c 4 λj k l=>M j k d 3 λc=>gz a (c.add 1) λj k l=>K (i+(k:Int))/\K (i+(k:Int)+1)/\gh e (Addr.add (Z b) 8) (O (i+(k:Int)+1)) λa=>gx f g d a h) (K ((q:Int)+1)/\qT ((q:Int)+1) ((q:Int)+1) 24/\new h (Obj.cells (Array.mk (ir (Int.toNat ((q:Int)+1)) [D])) 126) λd f=>gh f (Addr.add (Z b) 6) (T (some (Z d)) (Int.toNat ((q:Int)+1)) (Int.toNat ((q:Int)+1))) λd=>gT 0 d λf g d h=>bQ (d<=(q:Int)) (gj h λa c=>jo c b 5 λe i j=>jr c b 8 λk=>K ((q:Int)+1)/\K (k*((q:Int)+1))/\qT (k*((q:Int)+1)) (k*((q:Int)+1)) 1/\new a (Obj.cells (Array.mk (ir (Int.toNat (k*((q:Int)+1))) [J false])) 4) λa l=>c l/\H l [T (some (Z a)) (Int.toNat (k*((q:Int)+1))) (Int.toNat (k*((q:Int)+1)))] 47 λa k=>c k/\iT 127 e i j a k λi j k e=>c e/\gh e (Addr.add (Z b) 5) (T i j k) λa=>gx f g d a h) (gT 0 h λd f g h=>hU h c 4 λi j k=>bQ (g<(j:Int)) (gj h λe i=>jo i c 4 λj k l=>M j k g 3 λc=>gy i c λj=>jr i a 3 λc=>br (j==c) (iu 119 [u (some (Z b)),O 0,vG [O g,O 0,O 0]] e λc b=>gx d f g b h) (gx d f g e h)) (rE 120 [u (some (Z b)),O 0] h λa d=>a=vU []/\gT 0 d λa f d g=>bQ (d<(q:Int)) (gT 0 g λh i j k=>hU k b 6 λl m n=>M l m d 1 λl=>gp k l λm n o=>bQ (j<(n:Int)) (hU k b 6 λa f g=>M a f d 1 λa=>gp k a λf g l=>M f g j 3 λa=>∃f g l,rA k a 3 [O f,O g,O l]/\H k [O 0,O 0,O 0] 132 λa m=>bC m (Z a) [O f,O g,O l] λf=>hU f c 4 λg l m=>gX f (Z a) λc=>M g l c 3 λc=>gp f (c.add 1) λg l m=>gj f λc f=>jr f a 1 λm=>bQ (m<(l:Int)) (jr f a 1 λm=>M g l m 1 λg=>gy f g λl=>M e q d 1 λe=>gy f e λg=>br (l==g) (K (d+1)/\gX c (Z a) λe=>i_ c a 1 λf=>K (f+1)/\i_ c a 2 λg=>iu 119 [u (some (Z b)),O (d+1),vG [O e,O (f+1),O g]] c λc b=>gx h i j b k) (gx h i j c k)) (gx h i j c k)) (hU k b 6 λc e h=>K (d+1)/\M c e (d+1) 1 λc=>gp k c λe h i=>br ((h:Int)==0) (R (vU [u (some (Z b)),O d]) k) (K (d+1)/\rE 120 [u (some (Z b)),O (d+1)] k λb c=>b=vU []/\gx a f d c g))) (R (vU [u (some (Z b)),O (q:Int)]) g)))))):ρ 50 [φ a i j b k l c m n A d o p,T e q r] w R:=rv func50 h ⟨[(4,[(8,aP)]),(10,[(10,aP)]),(16,[(11,aP)]),(20,[(12,aP)]),(26,[(13,aP)]),(29,[(14,aP)])],[],[],[]⟩
theorem wh(h:new w (ψ a i j b k l c m n A d o p) λa b=>hU b a 1 λc d e=>qT (d:Int) (d:Int) 1/\new b (Obj.cells (Array.mk (ir (Int.toNat (d:Int)) [J false])) 4) λb c=>τ [(4,mR)] λe f=>e true c/\∀(_:ν) c g,e c g->br c (τ [(4,mR),(5,aP)] λh i=>h false 0 g/\∀(_:ν) j k l,h j k l->hU l a 4 λm n o=>bQ (k<(n:Int)) (hU l a 4 λc e f=>M c e k 3 λc=>∃e f g m n,rA l c 3 [O e,T f g m,O n]/\H l [O 0,D,O 0] 134 λc o=>bC o (Z c) [O e,T f g m,O n] λe=>gX e (Z c) λf=>gp e (Z a) λg m n=>K (f-(m:Int))/\M (some (Z b)) (Int.toNat (d:Int)) (f-(m:Int)) 1 λf=>mH e f λg=>br (!g) (χ e (Z a) λf=>hU e c 1 λg m n=>iu 71 [f,T (some (Z b)) (Int.toNat (d:Int)) (Int.toNat (d:Int)),T g m n] e λg f=>br g (gX f (Z c) λe=>gp f (Z a) λc g m=>K (e-(g:Int))/\M (some (Z b)) (Int.toNat (d:Int)) (e-(g:Int)) 1 λa=>gh f a (J true) λa=>K (k+1)/\nB h i true (k+1) a j k l) (K (k+1)/\nB h i j (k+1) f j k l)) (K (k+1)/\nB h i j (k+1) e j k l)) (nA e f j l c g)) (R (T (some (Z b)) (Int.toNat (d:Int)) (Int.toNat (d:Int))) g)):ρ 68 [φ a i j b k l c m n A d o p] w R:=rv func68 h ⟨[(3,[(4,mR)]),(6,[(4,mR),(5,aP)])],[],[],[]⟩
theorem xJ(h:new w (ψ a i j b k l c m n A d o p) λa b=>gT 0 b λc d b g=>bQ (b<(s:Int)) (gj g λh i=>M f s b 1 λj=>gy i j λk=>gz i (Z a) λj l m=>bQ ((l:Int)<=k) (M f s b 1 λf=>gy i f λj=>gz i (Z a) λf k l=>K (j-(k:Int))/\M e q (j-(k:Int)) 1 λa=>qd i a λe=>br (!e) (R (J false) h) (gx c d b h g)) (gx c d b h g)) (R (J true) g)):ρ 71 [φ a i j b k l c m n A d o p,T e q r,T f s t] w R:=rv func71 h ⟨[(2,[(7,aP)])],[],[],[]⟩
def Tv(R:ah->WP)(k1:Nat)(k2:Nat)(k27:Nat)(k44:Nat)(o43:E)(w64:ga):Prop:=∃a,World.cell? w64 (Z k44)=some (u a)/\jm prog Ev 171 [u a] w64 λa b=>∃c,a=O c/\qT c c 8/\new b (Obj.cells (Array.mk (ir (Int.toNat c) [O 0])) 3) λa b=>H b [D] 24 λb d=>gh d (Z b) (T (some (Z a)) (Int.toNat c) (Int.toNat c)) λa=>∃c,World.cell? a (Z k44)=some (u c)/\jm prog Ev 172 [u c] a λa c=>∃d e,a=vF d e/\p9 (Fn d) (∃(a:Bb),∃(f:aG),∃(g:aG),∃(h:Nat->aG),∃(i:aG),∃(_:Nat->aG),∃(j:List aG),W c (h 0::f::j)/\(∀(a:Hp),aL j a->g a)/\nV prog d [] e f g a/\(∀(b:Ay),b∈a->∃a,b=[O a])/\(∀(c:Nat)(d:Int),List.get?Internal a c=some [O d]->∀(a:List aG)(e:ga),PH a j->W e (h c::a)->∃(f:aG),W e (f::a)/\∀(a:List aG)(e:ga),PH a j->W e (f::a)->∃f g i,World.cell? e (Z b)=some (T f g i)/\M f g d 1 λf=>gh e f (O d) λe=>∃f,World.cell? e (Addr.add (Z k44) 1)=some (O f)/\br (decide (f<=d)) (∃f g i,World.cell? e (Z b)=some (T f g i)/\∃b,World.cell? e (Addr.add (Z k44) 1)=some (O b)/\nn o43 λi=>∃j k l,World.cell? e (Addr.add i 1)=some (T j k l)/\K (b+(↑k:Int))/\M f g d 1 λf=>gh e f (O (b+(↑k:Int))) λb=>∀e,drawn b e->∃(b:ga->Prop),b e/\nn o43 λf=>gz b (Addr.add f 1) λg i j=>jo b k1 1 λf k l=>jr b k44 1 λl=>K (d-l)/\M f k (d-l) 1 λd=>∃f,(∀a,b a->World.cell? a d=some (Value.string f))/\H e [Value.string f] 9 λd e=>b e/\bg prog (kR 23 [T g i j,T (some (Z d)) 1 1]) e λd e=>∃f g i,d=T f g i/\b e/\nn o43 λb=>gh e (Addr.add b 1) (T f g i) λb=>W b (h (c+1)::a)) (W e (h (c+1)::a)))/\(∀(c:ga),W c (h (List.length a)::f::j)->∃a d e,World.cell? c (Z b)=some (T a d e)/\∃e,World.cell? c (Addr.add (Z k1) 3)=some (O e)/\M a d e 1 λa=>∃d,World.cell? c a=some (O d)/\nn o43 λa=>gh c (Addr.add a 3) (O d) λa=>∃c,World.cell? a (Addr.add (Z k44) 1)=some (O c)/\nn o43 λd=>∃e,World.cell? a (Addr.add d 3)=some (O e)/\H a [O e] 3 λa d=>H d [O c,T (some (Z a)) 1 1,O 0] 134 λa c=>nn o43 λd=>gh c (Addr.add d 4) (T (some (Z a)) 1 1) λa=>∃c d e,World.cell? a (Addr.add (Z k1) 4)=some (T c d e)/\gT 0 a λe f a g=>br (decide (a<(↑d:Int))) (M c d a 3 λc=>∃d h i j k,iA g c 0 3=some [O d,T h i j,O k]/\H g [O 0,D,O 0] 134 λc l=>bC l (Z c) [O d,T h i j,O k] λd=>∃h,World.cell? d (Z k44)=some (u h)/\∃i,World.cell? d (Z c)=some (O i)/\jm prog Ev 168 [u h,O i] d λd h=>∃i,d=J i/\br (!i) (gx e f a h g) (∃d i,iA h (Z k27) 0 2=some [u d,O i]/\∃j k l,World.cell? h (Addr.add (Z c) 1)=some (T j k l)/\jm prog Ev 173 [vA (Array.mk [u d,O i]),T j k l] h λd h=>∃i,d=J i/\br (!i) (gx e f a h g) (∀d,drawn h d->∃(h:ga->Prop),h d/\gz h (Z b) λi j k=>gy h (Z c) λk=>M i j k 1 λi=>gy h i λj=>jr h c 2 λi=>H d [O 0,D,O 0] 134 λd k=>h k/\bC k (Z d) [O j,D,O i] λh=>∃i j k,World.cell? h (Addr.add (Z c) 1)=some (T i j k)/\gT 0 h λc k h l=>br (decide (h<(↑j:Int))) (M i j h 1 λa=>∃e,World.cell? l a=some (O e)/\∀a,drawn l a->∃(f:ga->Prop),f a/\jo f d 1 λg i j=>gz f (Z b) λm n o=>M m n e 1 λb=>gy f b λe=>H a [O e] 3 λa b=>f b/\bg prog (kR 24 [T g i j,T (some (Z a)) 1 1]) b λa b=>∃e g i,a=T e g i/\f b/\gh b (Addr.add (Z d) 1) (T e g i) λa=>gx c k h a l) (nn o43 λb=>∃c h i,World.cell? l (Addr.add b 4)=some (T c h i)/\∃b j k m n,iA l (Z d) 0 3=some [O b,T j k m,O n]/\H l [O b,T j k m,O n] 134 λb d=>bg prog (kR 25 [T c h i,T (some (Z b)) 1 1]) d λb c=>∃d h i,b=T d h i/\nn o43 λb=>gh c (Addr.add b 4) (T d h i) λb=>gx e f a b g)))) (nn o43 λa=>∃b c d e f h i j k l m n o,iA g a 0 5=some [T b c d,T e f h,T i j k,O l,T m n o]/\bC g (Z k2) [T b c d,T e f h,T i j k,O l,T m n o] λa=>∃b c d e f g h i j k l m n,iA a (Z k2) 0 5=some [T b c d,T e f g,T h i j,O k,T l m n]/\∀(o:ga),hp o=hp a->R (vT (Array.mk [vA (Array.mk [T b c d,T e f g,T h i j,O k,T l m n]),O 0])) o))/\(∀(a:ga),W a (i::f::j)->∃b c d e f g h i j k l m n,iA a (Z k2) 0 5=some [T b c d,T e f g,T h i j,O k,T l m n]/\∀(o:ga),hp o=hp a->R (vT (Array.mk [vA (Array.mk [T b c d,T e f g,T h i j,O k,T l m n]),O 0])) o)/\True)
theorem FQ(h:new w (ψ a i j b k l c m n A d o p) λa b=>H b [D,D,D,O 0,D] 27 λb c=>χ c (Z a) λd=>iu 166 [d] c λe d=>br (!e) (bC d (Z b) [D,D,D,O 0,D] λa=>χ a (Z b) λb=>∀(c:ga),hp c=hp a->R (vU [b,O 1]) c) (χ d (Z a) λc=>rE 167 [c] d λc d=>∃e f,c=vG [u e,O f]/\H d [u none,O 0] 317 λc d=>bC d (Z c) [u e,O f] λd=>jQ d (Z c) λe=>i_ d a 3 λf=>iu 168 [u e,O f] d λf e=>br (!f) (bC e (Z b) [D,D,D,O 0,D] λa=>χ a (Z b) λb=>∀(c:ga),hp c=hp a->R (vU [b,O 12]) c) (χ e (Z a) λd=>∃f g,rA e (Z c) 2 [u f,O g]/\rE 169 [d,vG [u f,O g]] e λd e=>∃f g,d=vG [u f,O g]/\H e [u none,O 0] 317 λd e=>bC e (Z d) [u f,O g] λe=>∃(f:lP [(6,S1.one Cs.ptr)]),(gj e λb c=>gz c (Z a) λd e g=>jo c a 2 λh i j=>(gF 170 [T d e g] b λd e g b=>c b/\(gF 115 [T h i j] b λh i j b=>c b/\(H b [Value.string (ByteArray.mk (Array.mk []))] 9 λa b=>c b/\H b [D,D,D,O 0,D] 27 λb k=>c k/\bC k (Z b) [T d e g,T (some (Z a)) 1 1,T h i j,O 0,D] λa=>f (some (Z b)) a)/\H b [D,D,D,O 0,D] 27 λa b=>c b/\H b [Value.string (ByteArray.mk (Array.mk []))] 9 λb k=>c k/\bC k (Z a) [T d e g,T (some (Z b)) 1 1,T h i j,O 0,D] λb=>f (some (Z a)) b)/\(H b [Value.string (ByteArray.mk (Array.mk []))] 9 λa b=>c b/\(gF 115 [T h i j] b λi j k h=>c h/\H h [D,D,D,O 0,D] 27 λb h=>c h/\bC h (Z b) [T d e g,T (some (Z a)) 1 1,T i j k,O 0,D] λa=>f (some (Z b)) a)/\H b [D,D,D,O 0,D] 27 λb k=>c k/\gF 115 [T h i j] k λj k l i=>c i/\bC i (Z b) [T d e g,T (some (Z a)) 1 1,T j k l,O 0,D] λa=>f (some (Z b)) a)/\H b [D,D,D,O 0,D] 27 λa b=>c b/\(gF 115 [T h i j] b λi j k h=>c h/\H h [Value.string (ByteArray.mk (Array.mk []))] 9 λb h=>c h/\bC h (Z a) [T d e g,T (some (Z b)) 1 1,T i j k,O 0,D] λb=>f (some (Z a)) b)/\H b [Value.string (ByteArray.mk (Array.mk []))] 9 λb k=>c k/\gF 115 [T h i j] k λj k l i=>c i/\bC i (Z a) [T d e g,T (some (Z b)) 1 1,T j k l,O 0,D] λb=>f (some (Z a)) b)/\(H b [Value.string (ByteArray.mk (Array.mk []))] 9 λa b=>c b/\(gF 170 [T d e g] b λe g k d=>c d/\(gF 115 [T h i j] d λh i j d=>c d/\H d [D,D,D,O 0,D] 27 λb d=>c d/\bC d (Z b) [T e g k,T (some (Z a)) 1 1,T h i j,O 0,D] λa=>f (some (Z b)) a)/\H d [D,D,D,O 0,D] 27 λb d=>c d/\gF 115 [T h i j] d λi j l h=>c h/\bC h (Z b) [T e g k,T (some (Z a)) 1 1,T i j l,O 0,D] λa=>f (some (Z b)) a)/\H b [D,D,D,O 0,D] 27 λb k=>c k/\gF 170 [T d e g] k λg k l e=>c e/\gF 115 [T h i j] e λh i j e=>c e/\bC e (Z b) [T g k l,T (some (Z a)) 1 1,T h i j,O 0,D] λa=>f (some (Z b)) a)/\H b [D,D,D,O 0,D] 27 λa b=>c b/\(gF 170 [T d e g] b λe g k d=>c d/\(gF 115 [T h i j] d λh i j d=>c d/\H d [Value.string (ByteArray.mk (Array.mk []))] 9 λb d=>c d/\bC d (Z a) [T e g k,T (some (Z b)) 1 1,T h i j,O 0,D] λb=>f (some (Z a)) b)/\H d [Value.string (ByteArray.mk (Array.mk []))] 9 λb d=>c d/\gF 115 [T h i j] d λi j l h=>c h/\bC h (Z a) [T e g k,T (some (Z b)) 1 1,T i j l,O 0,D] λb=>f (some (Z a)) b)/\H b [Value.string (ByteArray.mk (Array.mk []))] 9 λb k=>c k/\gF 170 [T d e g] k λg k l e=>c e/\gF 115 [T h i j] e λh i j e=>c e/\bC e (Z a) [T g k l,T (some (Z b)) 1 1,T h i j,O 0,D] λb=>f (some (Z a)) b)/\∀(_:ν) e g,f e g->Tv R a b c d e g))):ρ 82 [φ a i j b k l c m n A d o p] w R:=rv func82 h ⟨[(18,[(93,aP)]),(23,[(121,aP)])],[(8,[(6,(.one .ptr))])],[],[(10,[(45,aP)])]⟩
theorem FT(h:new w (ψ a i j b k l c m n A d o p) λa b=>χ b (Z a) λc=>iu 166 [c] b λd c=>br (!d) (χ c (Z a) λb=>iu 81 [b] c λd c=>br (!d) (R (vU [D,O 1]) c) (gj c λb c=>∃d e f g h i j k l m n o p,(∀b,c b->rA b (Z a) 5 [T d e f,T g h i,T j k l,O m,T n o p])/\∃q r s t C v w x y z F I L,(∀b,c b->rA b (Z a) 5 [T q r s,T t C v,T w x y,O z,T F I L])/\rE 167 [vG [T q r s,T t C v,T w x y,O z,T F I L]] b λa b=>∃q r,a=vG [u q,O r]/\c b/\rE 169 [vG [T d e f,T g h i,T j k l,O m,T n o p],vG [u q,O r]] b λa b=>∃d e,a=vG [u d,O e]/\c b/\gF 174 [vG [u d,O e]] b λd e f b=>c b/\R (vU [T d e f,O 0]) b)) (gj c λb c=>∃d e f g h i j k l m n o p,(∀b,c b->rA b (Z a) 5 [T d e f,T g h i,T j k l,O m,T n o p])/\∃q r s t C v w x y z F I L,(∀b,c b->rA b (Z a) 5 [T q r s,T t C v,T w x y,O z,T F I L])/\rE 167 [vG [T q r s,T t C v,T w x y,O z,T F I L]] b λa b=>∃q r,a=vG [u q,O r]/\c b/\rE 169 [vG [T d e f,T g h i,T j k l,O m,T n o p],vG [u q,O r]] b λa b=>∃d e,a=vG [u d,O e]/\c b/\gF 174 [vG [u d,O e]] b λd e f b=>c b/\R (vU [T d e f,O 0]) b)):ρ 83 [φ a i j b k l c m n A d o p] w R:=rv func83 h
theorem qx(h:H w [O B,O C,O Q] 132 λb c=>gj c λd c=>nn a λe=>gz c (e.add 7) λf g h=>gy c (Z b) λe=>M f g e 1 λe=>gy c e λf=>jr c b 1 λe=>K (f+e)/\nn a λg=>gz c (g.add 6) λh i j=>K ((f+e)*(i:Int))/\jr c b 2 λg=>K ((f+e)*(i:Int)+g)/\nn a λc=>gp d (c.add 5) λh j k=>M h j A 1 λc=>gp d c λh j k=>M h j ((f+e)*(i:Int)+g) 1 λc=>mH d c λh=>br h (R (J false) d) (nn a λc=>gp d (c.add 5) λh j k=>M h j A 1 λc=>gp d c λh j k=>M h j ((f+e)*(i:Int)+g) 1 λc=>gh d c (J true) λc=>gj c λd c=>nn a λe=>gz c (e.add 6) λf g h=>nn a λa=>gz c (a.add 6) λe h i=>M e h A 1 λa=>gz c a λe h i=>∃a j k,(∀d,c d->rA d (Z b) 3 [O a,O j,O k])/\H d [O a,O j,O k] 132 λa b=>c b/\iT 126 e h i a b λd e h b=>c b/\M f g A 1 λa=>gh b a (T d e h) λa=>R (J true) a)):ρ 119 [.pointer a,O A,(.agg #[O B,O C,O Q])] w R:=rv func119 h
theorem pD(h:τ [(4,mR)] λb c=>b true w/\∀(_:ν) d e,b d e->br d (τ [(4,mR),(5,aP)] λf g=>f false 0 e/\∀(_:ν) h i j,f h i j->nn a λk=>gp j (k.add 6) λl m n=>M l m A 1 λk=>gp j k λl m n=>bQ (i<(m:Int)) (nn a λb=>gp j (b.add 6) λc d e=>M c d A 1 λb=>gp j b λc d e=>M c d i 3 λb=>∃c d e,rA j b 3 [O c,O d,O e]/\H j [O 0,O 0,O 0] 132 λb k=>bC k (Z b) [O c,O d,O e] λc=>gj c λd c=>nn a λe=>gz c (e.add 4) λk l m=>gy c (Z b) λe=>M k l e 3 λe=>gz c (e.add 1) λk l m=>i_ d b 1 λc=>bQ (c<(l:Int)) (τ [(4,mR),(8,aP)] λc e=>c h 0 d/\∀(_:ν) d m n,c d m n->nn a λo=>gp n (o.add 4) λp q r=>bQ (m<(q:Int)) (gj n λf g=>nn a λh=>gz g (h.add 4) λi j o=>M i j m 3 λh=>gy g h λi=>jr g b 1 λh=>M k l h 1 λb=>gy g b λh=>br (i==h) (iu 119 [u a,O A,vG [O m,O 0,O A]] f λf b=>g b/\br f (K (m+1)/\nB c e true (m+1) b d m n) (K (m+1)/\nB c e d (m+1) b d m n)) (K (m+1)/\nB c e d (m+1) f d m n)) (K (i+1)/\nB f g d (i+1) n h i j)) (gj d λc d=>nn a λe=>gz d (e.add 4) λk l m=>gy d (Z b) λe=>M k l e 3 λe=>gy d e λk=>τ [(4,mR),(10,aP)] λd e=>d h 0 c/\∀(_:ν) c l m,d c l m->gj m λn o=>nn a λp=>gz o (p.add 6) λq r s=>jr o b 2 λp=>M q r p 1 λp=>gz o p λq r s=>bQ (l<(r:Int)) (gj n λf g=>nn a λh=>gz g (h.add 6) λi j n=>jr g b 2 λh=>M i j h 1 λb=>gz g b λh i j=>M h i l 3 λb=>∃h i j,(∀a,g a->rA a b 3 [O h,O i,O j])/\H f [O 0,O 0,O 0] 132 λb f=>g f/\bC f (Z b) [O h,O i,O j] λf=>gj f λg f=>nn a λh=>gz f (h.add 4) λi j n=>gy f (Z b) λh=>M i j h 3 λh=>gz f (h.add 1) λi j n=>i_ g b 1 λf=>bQ (f<(j:Int)) (i_ g b 1 λf=>M i j f 1 λf=>gX g f λh=>br (h==k) (gX g (Z b) λf=>i_ g b 1 λh=>K (h+1)/\i_ g b 2 λi=>iu 119 [u a,O A,vG [O f,O (h+1),O i]] g λf b=>br f (K (l+1)/\nB d e true (l+1) b c l m) (K (l+1)/\nB d e c (l+1) b c l m)) (K (l+1)/\nB d e c (l+1) g c l m)) (K (l+1)/\nB d e c (l+1) g c l m)) (K (i+1)/\nB f g c (i+1) n h i j))) (nA b c h j d e)) (R (vU []) e)):ρ 120 [.pointer a,O A] w R:=rv func120 h ⟨[(1,[(4,mR)]),(4,[(4,mR),(5,aP)]),(10,[(4,mR),(8,aP)]),(16,[(4,mR),(10,aP)])],[],[],[]⟩
theorem zl(h:new w (ψ a i j b k l c m n A d o p) λa b=>H b [u none,O 0] 317 λb c=>χ c (Z a) λd=>rE 259 [d] c λc d=>∃e f,c=vG [u e,O f]/\H d [u none,O 0] 317 λc d=>bC d (Z c) [u e,O f] λd=>χ d (Z a) λa=>rE 260 [a,vF 261 [u (some (Z c))]] d λa d=>a=vU []/\∃a e,rA d (Z c) 2 [u a,O e]/\bC d (Z b) [u a,O e] λa=>∃c d,rA a (Z b) 2 [u c,O d]/\R (vG [u c,O d]) a):ρ 167 [φ a i j b k l c m n A d o p] w R:=rv func167 h
theorem FV(h:new w (ψ a i j b k l c m n A d o p) λa b=>H b [u e,O B] 317 λb c=>H c [u none,O 0] 317 λc d=>χ d (Z a) λe=>rE 259 [e] d λd e=>∃f g,d=vG [u f,O g]/\H e [u none,O 0] 317 λd e=>bC e (Z d) [u f,O g] λe=>jQ e (Z b) λf=>i_ e a 3 λg=>iu 168 [u f,O g] e λg f=>br g (jQ f (Z d) λe=>i_ f a 3 λg=>H f [O g] 3 λf g=>iC 103 [u e,T (some (Z f)) 1 1] g λg f=>χ f (Z a) λe=>iu 81 [e] f λg f=>br g (jQ f (Z d) λe=>i_ f d 1 λg=>H f [O g] 3 λf g=>iC 103 [u e,T (some (Z f)) 1 1] g λg f=>χ f (Z a) λa=>rE 260 [a,vF 262 [u (some (Z d)),u (some (Z b))]] f λa b=>a=vU []/\∃a e,rA b (Z d) 2 [u a,O e]/\bC b (Z c) [u a,O e] λa=>∃b d,rA a (Z c) 2 [u b,O d]/\R (vG [u b,O d]) a) (χ f (Z a) λa=>rE 260 [a,vF 262 [u (some (Z d)),u (some (Z b))]] f λa b=>a=vU []/\∃a e,rA b (Z d) 2 [u a,O e]/\bC b (Z c) [u a,O e] λa=>∃b d,rA a (Z c) 2 [u b,O d]/\R (vG [u b,O d]) a)) (χ f (Z a) λa=>rE 260 [a,vF 262 [u (some (Z d)),u (some (Z b))]] f λa b=>a=vU []/\∃a e,rA b (Z d) 2 [u a,O e]/\bC b (Z c) [u a,O e] λa=>∃b d,rA a (Z c) 2 [u b,O d]/\R (vG [u b,O d]) a)):ρ 169 [φ a i j b k l c m n A d o p,(.agg #[.pointer e,O B])] w R:=rv func169 h
theorem A6(h:H w [u a,O A] 317 λa c=>iu 126 [T b i j,vF 266 [u (some (Z a))]] c λc b=>R (J !c) b):ρ 173 [(.agg #[.pointer a,O A]),T b i j] w R:=rv func173 h
theorem zo(h:H w [u a,O A] 317 λa b=>gj b λc b=>jc b (Z a) λd=>jr b a 1 λe=>(iC 171 [u d] c λf d=>b d/\K (f-e)/\(qT (f-e) (f-e) 1/\new d (Obj.cells (Array.mk (ir (Int.toNat (f-e)) [J false])) 4) λc d=>H d [D] 47 λd g=>b g/\gh g (Z d) (T (some (Z c)) (Int.toNat (f-e)) (Int.toNat (f-e))) λb=>jQ b (Z a) λc=>rE 172 [u c] b λb c=>∃e f,b=vF e f/\p9 (Fn e) (∃(b:Bb),∃(g:aG),∃(h:aG),∃(i:Nat->aG),∃(j:aG),∃(_:Nat->aG),∃(k:List aG),W c (i 0::g::k)/\(∀(a:Hp),aL k a->h a)/\nV prog e [] f g h b/\(∀(a:Ay),a∈b->∃b,a=[O b])/\(∀(c:Nat)(e:Int),List.get?Internal b c=some [O e]->∀(b:List aG)(f:ga),PH b k->W f (i c::b)->∃(g:aG),W f (g::b)/\∀(b:List aG)(f:ga),PH b k->W f (g::b)->i_ f a 1 λg=>bQ (g<=e) (gp f (Z d) λg h j=>i_ f a 1 λd=>K (e-d)/\M g h (e-d) 1 λa=>gh f a (J true) λa=>W a (i (c+1)::b)) (W f (i (c+1)::b)))/\(∀(a:ga),W a (i (List.length b)::g::k)->gp a (Z d) λb c e=>∀(d:ga),hp d=hp a->R (T b c e) d)/\(∀(a:ga),W a (j::g::k)->∀(b:ga),hp b=hp a->R (D) b)/\True))/\H d [D] 47 λc d=>b d/\qT (f-e) (f-e) 1/\new d (Obj.cells (Array.mk (ir (Int.toNat (f-e)) [J false])) 4) λb d=>gh d (Z c) (T (some (Z b)) (Int.toNat (f-e)) (Int.toNat (f-e))) λb=>jQ b (Z a) λd=>rE 172 [u d] b λb d=>∃e f,b=vF e f/\p9 (Fn e) (∃(b:Bb),∃(g:aG),∃(h:aG),∃(i:Nat->aG),∃(j:aG),∃(_:Nat->aG),∃(k:List aG),W d (i 0::g::k)/\(∀(a:Hp),aL k a->h a)/\nV prog e [] f g h b/\(∀(a:Ay),a∈b->∃b,a=[O b])/\(∀(d:Nat)(e:Int),List.get?Internal b d=some [O e]->∀(b:List aG)(f:ga),PH b k->W f (i d::b)->∃(g:aG),W f (g::b)/\∀(b:List aG)(f:ga),PH b k->W f (g::b)->i_ f a 1 λg=>bQ (g<=e) (gp f (Z c) λg h j=>i_ f a 1 λc=>K (e-c)/\M g h (e-c) 1 λa=>gh f a (J true) λa=>W a (i (d+1)::b)) (W f (i (d+1)::b)))/\(∀(a:ga),W a (i (List.length b)::g::k)->gp a (Z c) λb d e=>∀(c:ga),hp c=hp a->R (T b d e) c)/\(∀(a:ga),W a (j::g::k)->∀(b:ga),hp b=hp a->R (D) b)/\True))/\H c [D] 47 λc f=>b f/\iC 171 [u d] f λg f=>b f/\K (g-e)/\qT (g-e) (g-e) 1/\new f (Obj.cells (Array.mk (ir (Int.toNat (g-e)) [J false])) 4) λb d=>gh d (Z c) (T (some (Z b)) (Int.toNat (g-e)) (Int.toNat (g-e))) λb=>jQ b (Z a) λd=>rE 172 [u d] b λb d=>∃e f,b=vF e f/\p9 (Fn e) (∃(b:Bb),∃(g:aG),∃(h:aG),∃(i:Nat->aG),∃(j:aG),∃(_:Nat->aG),∃(k:List aG),W d (i 0::g::k)/\(∀(a:Hp),aL k a->h a)/\nV prog e [] f g h b/\(∀(a:Ay),a∈b->∃b,a=[O b])/\(∀(d:Nat)(e:Int),List.get?Internal b d=some [O e]->∀(b:List aG)(f:ga),PH b k->W f (i d::b)->∃(g:aG),W f (g::b)/\∀(b:List aG)(f:ga),PH b k->W f (g::b)->i_ f a 1 λg=>bQ (g<=e) (gp f (Z c) λg h j=>i_ f a 1 λc=>K (e-c)/\M g h (e-c) 1 λa=>gh f a (J true) λa=>W a (i (d+1)::b)) (W f (i (d+1)::b)))/\(∀(a:ga),W a (i (List.length b)::g::k)->gp a (Z c) λb d e=>∀(c:ga),hp c=hp a->R (T b d e) c)/\(∀(a:ga),W a (j::g::k)->∀(b:ga),hp b=hp a->R (D) b)/\True)):ρ 174 [(.agg #[.pointer a,O A])] w R:=rv func174 h ⟨[],[],[],[(3,[(15,aP)])]⟩
theorem JW(h:new w (ψ a i j b k l c m n A d o p) λa b=>H b [u none,O 0] 317 λb c=>gj c λd c=>gz c (Z a) λe f g=>jo c a 1 λe g h=>K ((f:Int)+(g:Int))/\gz c (Z a) λe h i=>(kV 102 [O ((f:Int)+(g:Int)),D] d λf e=>c e/\H e [u none,O 0] 317 λd e=>c e/\bC e (Z d) [u f,O (h:Int)] λc=>gp c (Z a) λe f g=>gT 0 c λa e c g=>bQ (c<(f:Int)) (jQ g (Z d) λb=>H g [O c] 3 λd f=>iC 103 [u b,T (some (Z d)) 1 1] f λf d=>gx a e c d g) (∃a c,rA g (Z d) 2 [u a,O c]/\bC g (Z b) [u a,O c] λa=>∃c d,rA a (Z b) 2 [u c,O d]/\R (vG [u c,O d]) a))/\H d [u none,O 0] 317 λd e=>c e/\kV 102 [O ((f:Int)+(g:Int)),D] e λg f=>c f/\bC f (Z d) [u g,O (h:Int)] λc=>gp c (Z a) λe f g=>gT 0 c λa e c g=>bQ (c<(f:Int)) (jQ g (Z d) λb=>H g [O c] 3 λd f=>iC 103 [u b,T (some (Z d)) 1 1] f λf d=>gx a e c d g) (∃a c,rA g (Z d) 2 [u a,O c]/\bC g (Z b) [u a,O c] λa=>∃c d,rA a (Z b) 2 [u c,O d]/\R (vG [u c,O d]) a)):ρ 259 [φ a i j b k l c m n A d o p] w R:=rv func259 h ⟨[(3,[(20,aP)])],[],[],[]⟩
theorem HU{F:aM}{q:Ay}(h:new w (ψ a i j b k l c m n A d o p) λa b=>gT 1 b λc d b e=>bQ (0<b) (hU e a 4 λf g h=>τ [(4,aP),(12,aP)] λa h=>a 0 0 e/\∀(_:ν) i j k,a i j k->bQ (j<(g:Int)) (M f g j 3 λb=>∃c d e f g,rA k b 3 [O c,T d e f,O g]/\H k [O 0,D,O 0] 134 λb l=>bC l (Z b) [O c,T d e f,O g] λc=>∃d e f g l,rA c (Z b) 3 [O d,T e f g,O l]/\p9 (Fn F) (iC F (vG [O d,T e f g,O l]::q) c λd c=>K (i+d)/\K (j+1)/\nB a h (i+d) (j+1) c i j k)) (nA c d i k b e)) (R (vU []) e)):ρ 260 [φ a i j b k l c m n A d o p,(.func (.func F) #[] ⟨q⟩)] w R:=rv func260 h ⟨[(2,[(4,aP)]),(5,[(4,aP),(12,aP)])],[],[],[]⟩
abbrev mM:aM:=261
theorem uX{f:vP}(h:H w [O A,T a i j,O B] 134 λa b=>∃c d,rA b f 2 [u c,O d]/\hU b a 1 λe g h=>iu 173 [vG [u c,O d],T e g h] b λd c=>br (!d) (R (O 0) c) (jQ c f λb=>gX c (Z a) λd=>H c [O d] 3 λa c=>iC 103 [u b,T (some (Z a)) 1 1] c λc b=>R (O c) b)):ρ 261 [(.agg #[O A,T a i j,O B]),(.pointer (some f))] w R:=rv func261 h
abbrev im:aM:=262
theorem A8{f:vP}{g:vP}(h:H w [O A,T a i j,O B] 134 λa b=>jQ b f λc=>gX b (Z a) λd=>iu 168 [u c,O d] b λd c=>br (!d) (R (O 0) c) (∃b d,rA c g 2 [u b,O d]/\hU c a 1 λe g h=>iu 173 [vG [u b,O d],T e g h] c λd c=>br (!d) (R (O 0) c) (jQ c f λb=>hU c a 1 λd e f=>iC 103 [u b,T d e f] c λc b=>R (O c) b))):ρ 262 [(.agg #[O A,T a i j,O B]),(.pointer (some f)),(.pointer (some g))] w R:=rv func262 h
abbrev iN:aM:=266
theorem wj{b:vP}(h:jQ w b λa=>iu 168 [u a,O A] w λc b=>R (J !c) b):ρ 266 [O A,(.pointer (some b))] w R:=rv func266 h
end
end
theorem ZJ(a:E)(m sz:Nat):f_ a 0 m sz=a:=by simp[f_,bh,Nat.zero_mul,Addr.add]
section
variable{g:B}{I ls:List aq}{bs:At}{i:Nat}{x y:aq}
theorem aw.left(h:aw g){p:aD}(hp:p∈g.prods):(g.T:Int)<=p.left:=by
 obtain⟨_,e,a,f,j,k,_⟩:=h;obtain⟨b,l⟩:=jR hp;cases b with
 |zero=>simp_all
 |succ c=>
  have d:p∈g.prods.drop 1:=by
   refine gg (i:=c) ?_
   simp_all
  have:=((a.2.2.1 p d).1).1;omega
end
def Q1(h:Hp)(ss:List SQ)(o:E):Prop:=∀(i:Nat) q,ss[i]? =some q->∃ad,o=some ad/\aj h (ad.add (ew i 2)) (WX q)/\bf h q.1.2 q.1.1.1 q.1.2.length/\bf h q.2.2 q.2.1.1 q.2.2.length
theorem Q1.mono{h h':Hp}{ss:List SQ}{o:E}(s:sub h h')(r:Q1 h ss o):Q1 h' ss o:=λa b c=>by
 obtain⟨d,e,f,g,i⟩:=r a b c
 exact⟨d,e,f.mono s,g.mono s,i.mono s⟩
theorem Vb{h:Hp}{xs:List aN}{a:E}{l:Nat}(d:xs.length=l)(r:dX a (rh xs) h):bf h xs a l:=by
 refine⟨d,λe b f=>?_⟩
 rcases r with g|⟨c,rfl,i⟩
 ·have j:=congrArg List.length g
  grind[HH,List.length_nil,List.getElem?_eq_some_iff]
 ·exact⟨c,WW b,rfl,cQ (n:=2) (λ_=>rfl) xs c i e b f,rfl⟩
theorem qy{h:Hp}{xs:List aN}{a:E}{l:Nat}(r:bf h xs a l){i:Nat}(hi:i<l):∃x b,xs[i]? =some x/\a=some b/\aj h (b.add (ew i 2)) (WW x):=by
 obtain⟨x,c,d,e,f,b,g⟩:=r.get hi;rw[show d=WW x from g] at b;exact⟨x,c,e,f,b⟩
theorem Iq{h:Hp}{L:List aG}{ss:List SQ}{o:E}{n c:Nat}(a:aL (own 2 o n c (Sm ss)::aT (U_ ss)::aT (Tq ss)::L) h):Q1 h ss o:=λl m b=>by
 obtain⟨d,e,f⟩:=Ou (dT 0 a) b
 obtain⟨p,g,i⟩:=Ip (ay a) (Ov b)
 obtain⟨q,j,k⟩:=Ip (ay<|ay a) (HO b)
 exact⟨d,e,f,(Ow i).mono g,(Vb rfl (bD k)).mono j⟩
section
variable{g:B}{K:dU}{ss:List SQ}{asked:Int}{i s:Nat}{es:List aN}
theorem H4(a:aw g)(b:∀x∈K,xk g x):bI g K 0=[]:=by
 refine mw λc=>?_;have:=zi (s:=0) a b (Int.le_refl _) c;omega
end
def G2(g:B)(ss:List SQ)(ask int f:Int):Prop:=
 (¬aw g/\ss=[]/\ask=0/\int=0/\f=1)\/(aw g/\wQ g/\ss=[]/\ask=0/\int=0/\f=11)\/(aw g/\bG g ss/\ask=1+(Ox (cN ss):Int)/\int=(ss.length:Int)/\f=0)
theorem G2.one{g:B}{ss b:List SQ}{a i f j k l:Int}(h:G2 g ss a i f)(h':G2 g b j k l):fD ss=fD b/\cN ss=cN b/\a=j/\i=k/\f=l/\ss.length=b.length:=by
 rcases h with⟨m,rfl,rfl,rfl,rfl⟩|⟨m,o,rfl,rfl,rfl,rfl⟩|⟨m,c,rfl,rfl,rfl⟩
 ·rcases h' with⟨d,rfl,rfl,rfl,rfl⟩|⟨d,_⟩|⟨d,_⟩
  ·simp
  ·simp_all
  simp_all
 ·rcases h' with⟨d,_⟩|⟨d,_,rfl,rfl,rfl,rfl⟩|⟨d,e,_⟩
  ·simp_all
  ·simp
  ·exact(Qz e.dn o).elim
 ·rcases h' with⟨n,_⟩|⟨n,p,_⟩|⟨n,e,rfl,rfl,rfl⟩
  ·simp_all
  ·exact(Qz c.dn p).elim
  ·have d:=Zh c.dn e.dn;have q:cN ss=cN b:=by rw[c.es,e.es,d]
   refine⟨by rw[c.ks,e.ks,d],q,G,by rw[d],rfl,d⟩
theorem bG.LQ{g:B}{ss:List SQ}(e:aw g)(h:bG g ss):∀q∈ss,q.1.2.length<=29100/\q.2.2.length<=130:=λq c=>by
 obtain⟨l,m,f,n,_,_⟩:=e.cR
 have a:=ik (g:=g) U ss.length
 obtain⟨b,i⟩:=jR c
 have c:(gb g ss.length).1[b]? =some q.1.2:=by rw[<-h.ks];simp_all[fD]
 have o:(gb g ss.length).2[b]? =some q.2.2:=by rw[<-h.es];simp_all[cN]
 have d:=gg c
 have p:=(gJ.1 i).1
 have r:=h.dn.2.1
 refine⟨QZ f (a.srt _ d) (a.fit _ d) λj k=>by have:=a.dots b _ c j k;omega,?_⟩
 have k:∀j,∀es∈(gb g j).2,es.length<=g.T+g.N:=by
  intro j
  induction j with
  |zero=>simp[gb]
  |succ s t=>
   grind[es,gb,uA,iM,List.mem_singleton,uU,List.length_filter_le,decide,bI,List.range,List.length_range,dr]
 grind
section
variable{w:ga}{L:List aG}{g:B}{x:GA}
theorem zp(e:gR (hp w) g x)(h:jq g):ρ 41 [.agg ⟨x.cells⟩] w λb d=>∃(o:E)(c:Nat)(ss:List SQ)(a int f:Int),b=.tuple #[.agg #[T o ss.length c,O a,O int],O f]/\G2 g ss a int f/\W d (own 2 o ss.length c (Sm ss)::aT (U_ ss)::aT (Tq ss)::all w):=by
 refine(H3 e h).mono ?_;have d:∀{a:ga},Gr w a->W a (own 2 none 0 0 (Sm [])::aT (U_ [])::aT (Tq [])::all w):=λa=>aH 2 ((W.flat (M:=[])).2 ((W.flat (M:=[])).2 (W.here a)))
 rintro _ m (⟨i,rfl,a⟩|⟨b,j,rfl,a⟩|⟨b,o,ss,k,rfl,l⟩)
 ·exact⟨none,0,[],0,0,1,rfl,.inl ⟨i,rfl,rfl,rfl,rfl⟩,d a⟩
 ·exact⟨none,0,[],0,0,11,rfl,.inr<|.inl ⟨b,j,rfl,rfl,rfl,rfl⟩,d a⟩
 ·exact⟨o,_,ss,_,_,0,rfl,.inr<|.inr ⟨b,k,rfl,rfl,rfl⟩,l⟩
end
section
variable{g:B}{K:dU}{st:List dU}{n i j:Nat}
theorem Vc{k:dU}:(yE st k)[st.idxOf k]? =some k:=by
 unfold yE
 grind
theorem JX:∀(l:A0)(st:List dU)(es:List aN)(k s:Nat),l[k]? =some s->∃to:Nat,(q_ g K l (st,es)).2[es.length+k]? =some ⟨(s:Int),(to:Int)⟩/\(q_ g K l (st,es)).1[to]? =some (bI g K (s:Int))
 |[],_,_,_,_,h=>G
 |a::l,st,es,0,s,h=>by
  simp at h;subst h
  refine⟨st.idxOf (bI g K (a:Int)),?_,?_⟩
  ·show(q_ g K l (yE st (bI g K (a:Int)),es++[⟨(a:Int),_⟩])).2[es.length+0]? =_
   have pre:∀(l:A0)(st:List dU)(es:List aN)(k:Nat) e,es[k]? =some e->(q_ g K l (st,es)).2[k]? =some e:=by
    intro l
    induction l with
    |nil=>exactλst es k e h=>h
    |cons b l ih=>
     intro st es k e h
     exact ih _ _ k e G
   simp_all
  ·show(q_ g K l (yE st (bI g K (a:Int)),es++[⟨(a:Int),_⟩])).1[_]? =_
   simp[yF,Vc]
 |a::l,st,es,k+1,s,h=>by
  obtain⟨to,h1,h2⟩:=JX l (yE st (bI g K (a:Int))) (es++[⟨(a:Int),((st.idxOf (bI g K (a:Int)):Nat):Int)⟩]) k s η
  refine⟨to,?_,h2⟩
  rw[jw,pK] at h1
  rw[show es.length+(k+1)=es.length+1+k by omega]
  exact h1
theorem W0{i n:Nat}(h:i<=n)(j:Nat)(e:List aN)(a:(gb g i).2[j]? =some e):(gb g n).2[j]? =some e:=by
 induction h with
 |refl=>omega
 | @step b _ c=>
  grind[gb,uA,iM,List.getElem?_append_left,List.getElem?_eq_some_iff]
theorem iO{ss:List SQ}(h:bG g ss){i:Nat}{q:SQ}(e:ss[i]? =some q):(gb g i).1[i]? =some q.1.2/\q.2.2=(q_ g q.1.2 (dr g q.1.2) ((gb g i).1,[])).2/\∀(j:Nat) K,(gb g (i+1)).1[j]? =some K->∃r,ss[j]? =some r/\r.1.2=K:=by
 have a:=(gJ.1 e).1;have f:=h.dn.2.2 i a;have k:(gb g ss.length).1[i]? =some q.1.2:=by rw[<-h.ks];simp_all[fD]
 obtain⟨K,b⟩:∃K,(gb g i).1[i]? =some K:=⟨_,gn f⟩;have c:=DF (Nat.le_of_lt a) i K b;rw[k] at c;cases c
 refine⟨b,?_,λj l m=>?_⟩
 ·have o:=iM b;have p:=Te (g:=g) i U;have d:(gb g<|i+1).2[i]? =some (q_ g q.1.2 (dr g q.1.2) ((gb g i).1,[])).2:=η
  have n:=W0 a i _ d;rw[<-h.es] at n
  grind[cN,Option.some.inj]
 ·have d:=DF a j l m;rw[<-h.ks] at d;unfold fD at d
  simp_all
theorem bG.pos{ss:List SQ}(h:bG g ss):0<ss.length:=by
 refine mB λa=>?_;have:=h.dn.1
 simp_all[gb]
end
section
variable{g:B}{K K':dU}{s i:Int}{ss:List SQ}
theorem ZK(h:bI g K s=bI g K' i)(b:bI g K s≠[]):s=i:=by
 obtain⟨d,a⟩:=oZ _ b;have c:=a;rw[h] at c;obtain⟨e,_,f,rfl⟩:=dh.1 a
 grind[dh,aq.ext']
theorem Vd:∀(l:A0)(st:List dU)(es:List aN)(j:Nat)(L:dU),st.length<=j->(q_ g K l (st,es)).1[j]? =some L->∃k s:Nat,l[k]? =some s/\L=bI g K (s:Int)/\(q_ g K l (st,es)).2[es.length+k]? =some ⟨(s:Int),(j:Int)⟩
 |[],st,es,j,L,hj,h=>by
  have:=(gJ.1 h).1
  have h2:(q_ g K [] (st,es)).1.length=st.length:=rfl
  omega
 |a::l,st,es,j,L,hj,h=>by
  by_cases hlt:(yE st (bI g K (a:Int))).length<=j
  ·obtain⟨k,s,h1,h2,h3⟩:=Vd l (yE st (bI g K (a:Int))) (es++[(⟨(a:Int),((st.idxOf (bI g K (a:Int)):Nat):Int)⟩:aN)]) j L hlt h
   refine⟨k+1,s,η,h2,?_⟩
   rw[jw,pK] at h3
   rw[show es.length+(k+1)=es.length+1+k by omega]
   exact h3
  ·have hn:bI g K (a:Int)∉st:=λhm=>by
    have:(yE st (bI g K (a:Int))).length=st.length:=by simp_all[yE]
    omega
   have hlen:(yE st (bI g K (a:Int))).length=st.length+1:=by simp_all[yE]
   have hjs:j=st.length:=U
   obtain⟨to,h1,h2⟩:=JX (g:=g) (K:=K) (a::l) st es 0 a rfl
   have e:st.idxOf (bI g K (a:Int))=st.length:=List.idxOf_eq_length hn
   have hj2:(yE st (bI g K (a:Int)))[j]? =some (bI g K (a:Int)):=by grind[Vc]
   have hL:=yF l (yE st (bI g K (a:Int))) (es++[(⟨(a:Int),((st.idxOf (bI g K (a:Int)):Nat):Int)⟩:aN)]) j _ hj2 (g:=g) (K:=K)
   have h:(q_ g K l (yE st (bI g K (a:Int)),es++[(⟨(a:Int),((st.idxOf (bI g K (a:Int)):Nat):Int)⟩:aN)])).1[j]? =some L:=h
   rw[hL] at h
   refine⟨0,a,rfl,(Option.some.inj h).symm,?_⟩
   have pre:∀(l:A0)(st:List dU)(es:List aN)(k:Nat) e,es[k]? =some e->(q_ g K l (st,es)).2[k]? =some e:=by
    intro l
    induction l with
    |nil=>exactλst es k e h=>h
    |cons b l ih=>
     intro st es k e h
     exact ih _ _ k e G
   simp_all[q_,yE,bI,Nat.add_zero]
theorem dj(b:aw g)(h:bG g ss){i:Nat}{q:SQ}(s:ss[i]? =some q){m:Nat}{e:aN}(t:q.2.2[m]? =some e):1<=e.sym/\e.sym<g.T+g.N/\∃(j:Nat)(r:SQ),e.to=j/\1<=j/\ss[j]? =some r/\r.1.2=bI g q.1.2 e.sym/\bI g q.1.2 e.sym≠[]:=by
 obtain⟨c,v,w⟩:=iO h s;obtain⟨_,_,_,N,_,_⟩:=b.cR;have x:=ik (g:=g) U i;have d:=x.fit _<|gg c;have f:m<(dr g q.1.2).length:=by grind[List.getElem?_eq_some_iff,uU]
 obtain⟨to,y,z⟩:=JX (g:=g) (K:=q.1.2) (dr g q.1.2) (gb g i).1 [] m _ (gn f);rw[<-v] at y;have k:q.2.2[m]? =some ⟨(((dr g q.1.2)[m]:Nat):Int),(to:Int)⟩:=η
 rw[t] at k;have A:=Option.some.inj k;have l:=Ae (g:=g) (K:=q.1.2) _<|pL f;obtain⟨r,n,o⟩:=w to _ (by rw[iM c];exact z);have p:=zi b d (kF _) l;rw[A];refine⟨p.1,p.2,to,r,rfl,mB λC=>?_,n,o,l⟩;subst C;have a:(gb g ss.length).1[0]? =some [⟨0,0⟩]:=DF (gu _) 0 _ rfl;rw[<-h.ks] at a;unfold fD at a;rw[iE,n] at a;have F:r.1.2=[⟨0,0⟩]:=Option.some.inj a;rw[o] at F;have I:(⟨0,0⟩:aq)∈bI g q.1.2 (((dr g q.1.2)[m]:Nat):Int):=η
 obtain⟨P,L,_,e⟩:=dh.1 I;injection e with _ e2
 have:=(L.fit d).2.1;omega
theorem JY(o:aw g)(h:bG g ss){j:Nat}(p:1<=j)(r:j<ss.length):∃(i:Nat)(q:SQ)(m:Nat)(e:aN),i<j/\ss[i]? =some q/\q.2.2[m]? =some e/\e.to=j:=by
 have f:∀a,a<=ss.length->j<(gb g a).1.length->∃(i:Nat)(b:dU),i<a/\(gb g i).1[i]? =some b/\(gb g i).1.length<=j/\j<(gb g<|i+1).1.length:=by
  intro b
  induction b with
  |zero=>intro _ a;have:(gb g 0).1.length=1:=rfl;omega
  |succ a d=>
   intro k c
   by_cases l:j<(gb g a).1.length
   ·grind
   ·exact⟨a,_,Nat.lt_succ_self a,gn<|h.dn.2.2 a U,U,c⟩
 obtain⟨i,s,k,a,l,b⟩:=f ss.length (gP _) (by rw[h.dn.1];omega);have c:i<ss.length:=k;obtain⟨q,n⟩:∃q,ss[i]? =some q:=⟨_,gn c⟩;obtain⟨d,t,_⟩:=iO h n;rw[a] at d;cases d;have v:=h.dn.2.2 i c;rw[iM a] at b;obtain⟨m,w,x,y,z⟩:=Vd (g:=g) (dr g q.1.2) (gb g i).1 [] j _ l (gn b)
 grind
noncomputable def zb(g:B)(ss:List SQ)(j:Nat):Int:=Classical.epsilon λs:Int=>∃(r:SQ)(K:dU),ss[j]? =some r/\(∀x∈K,xk g x)/\r.1.2=bI g K s/\bI g K s≠[]/\1<=s
theorem H5{j:Nat}{r:SQ}{K:dU}{s:Int}(a:ss[j]? =some r)(c:∀x∈K,xk g x)(d:r.1.2=bI g K s)(e:bI g K s≠[])(f:1<=s):zb g ss j=s:=by
 obtain⟨h,i,b,_,k,l,_⟩:=Classical.epsilon_spec (p:=λs:Int=>∃(r:SQ)(K:dU),ss[j]? =some r/\(∀x∈K,xk g x)/\r.1.2=bI g K s/\bI g K s≠[]/\1<=s) ⟨s,r,K,a,c,d,e,f⟩;rw[a] at b;cases b
 show Classical.epsilon _=s
 grind[ZK]
theorem OA(a:aw g)(h:bG g ss){j:Nat}(m:1<=j){r:SQ}(b:ss[j]? =some r){x:aq}(d:x∈r.1.2):0<=x.prod/\1<=x.dot/\∃p,g.prods[x.prod.toNat]? =some p/\x.dot<=p.right.length/\p.right[(x.dot-1).toNat]? =some (zb g ss j):=by
 obtain⟨n,y,z,A,C,e,o,F⟩:=JY a h m (gJ.1 b).1;obtain⟨q,I,s,L,N,_,f,i,t⟩:=dj a h e o;have:s=j:=U
 subst this;rw[b] at f;cases f;obtain⟨v,_⟩:=iO h e;obtain⟨_,_,_,P,_,_⟩:=a.cR;have c:=(ik (g:=g) U n).fit _ (gg v);rw[H5 b c i t q];rw[i] at d;obtain⟨Q,k,w,rfl⟩:=dh.1 d;obtain⟨p,hp,R,S⟩:=JE (k.fit c) w U;have l:=k.fit c;refine⟨l.1,by have:=l.2.1;grind,p,hp,G,?_⟩
 simp_all
end
class oY (κ:Type) extends jj κ where
 a:κ->Int
 b:κ->Int
 val2:∀k,tojj.val k=.agg ⟨[O (a k),O (b k)]⟩
 ext:∀k l,a k=a l->b k=b l->k=l
section
variable{P:iI}{κ:Type}[DecidableEq κ][oY κ]{F L:aC}{N Q:Field}
structure sT(P:iI)(F L:aC)(N Q:Field):Prop where
 ht:P.underlying F=some (.struct (P.fieldsOf F))
 hf:P.fieldsOf F=#[N,Q]
 hi:P.underlying L=some (.int .i64)
 ht0:N.type=L
 ht1:Q.type=L
 n0:N.name≠"_"
 n1:Q.name≠"_"
 o0:N.offset=0
 o1:Q.offset=1
 sih:P.stoodInHeld F=false
theorem ZL(a:sT P F L N Q)(w:ga)(x y b v:Int):(Op.equal F (.agg #[O x,O y]) (.agg #[O b,O v])).run P w=.ok (decide (x=b/\y=v)) w:=by
 have f:∀(v c:ah)(w:ga),(part L #[v,c] 0).run P w=.ok v w:=λv c w=>by simp[part,mP a.hi,iW,Kd.isAgg]
 have g:∀(v c:ah)(w:ga),(part L #[v,c] 1).run P w=.ok c w:=λv c w=>by simp[part,mP a.hi,iW,Kd.isAgg]
 have c:∀d e h w,(Op.equalIn (h+1) L (O d)<|O e).run P w=.ok (d==e) w:=λe h d w=>run_equalIn_int w d _ _ _ _ _ a.hi
 show(Op.equalIn (9998+1+1) F _ _).run P w=_
 rw[run_equalIn_agg w (9998+1) F _ _ a.ht a.sih,a.hf];have d:=a.n0;have e:=a.n1;have h:decide (x=b/\y=v)=(x==b&&y==v):=G
 rw[h];unfold Op.eqFields;simp only[ne_eq,d,not_false_eq_true,if_true,Sem.run_bind,a.ht0,a.o0,f,Result.andThen_ok,c]
 cases i:(x==b)
 ·simp
 ·unfold Op.eqFields;simp only[ne_eq,e,not_false_eq_true,if_true,Sem.run_bind,a.ht1,a.o1,g,Result.andThen_ok,c,Bool.not_true,o8,if_false]
  cases j:(y==v)
  ·simp
  rfl
theorem Q2(T:sT P F L N Q)(w:ga)(k:κ):∀(es:List MapEntry)(m:List (κ×ah))(i:Nat),es.map (λe=>(e.key,e.val))=m.map (λx=>(jj.val x.1,x.2))->
  ∃r,(Instr.findAsking F (jj.val k) es i).run P w=.ok r w/\(r.map (·.2))=iV k m/\(∀j v,r=some (j,v)->i<=j/\j<i+m.length/\(m[j-i]?).map (·.1)=some k/\∀u,c_ k u m=m.set (j-i) (k,u))/\(r=none->∀u,c_ k u m=m++[(k,u)])
 |[],[],i,_=>⟨none,rfl,rfl,λj v h=>G,λ_ u=>rfl⟩
 |[],_::_,i,h=>G
 |_::_,[],i,h=>G
 |e::es,(a,v)::m,i,h=>by
  simp only[kn,List.cons.injEq,Prod.mk.injEq] at h
  obtain⟨⟨h1,h2⟩,h3⟩:=h
  have he:(Op.equal F (jj.val k) e.key).run P w=.ok (decide (k=a)) w:=by
   rw[h1,oY.val2,oY.val2]
   have:=ZL T w (oY.a k) (oY.b k) (oY.a a) (oY.b a)
   have e2:decide (oY.a k=oY.a a/\oY.b k=oY.b a)=decide (k=a):=decide_eq_decide.2 ⟨λ⟨h1,h2⟩=>oY.ext k a h1 h2,λh=>η⟩
   simp_all
  unfold Instr.findAsking
  simp only[Sem.run_bind,he,Result.andThen_ok]
  by_cases hk:k=a
  ·simp_all[iV,c_]
  ·obtain⟨r,q1,q2,q3,q4⟩:=Q2 T w k es m (i+1) h3
   refine⟨r,η,by simp_all[iV],λj u hj=>?_,λhn u=>by simp_all[c_]⟩
   obtain⟨p1,p2,p3,p4⟩:=q3 j u hj
   have e1:j-i=(j-(i+1))+1:=U
   grind[c_]
theorem yx.two(a:sT P F L N Q):yx P F κ where
 check:=λw b i=>by
  rw[oY.val2]
  have c:=a.ht
  rw[a.hf] at c
  have e:∀(d f:ah)(w:ga),(part L #[d,f] 0).run P w=.ok d w:=λd f w=>by simp[part,mP a.hi,iW,Kd.isAgg]
  have f:∀(g d:ah)(w:ga),(part L #[g,d] 1).run P w=.ok d w:=λd g w=>by simp[part,mP a.hi,iW,Kd.isAgg]
  have d:∀(g:Nat)(h:Int)(w:ga),(Instr.checkKey b (g+1) L<|O h).run P w=.ok () w:=λg h w=>MapKept.run_checkKey (P:=P) (w:=w) a.hi (by rfl) b g
  show(Instr.checkKey b (9998+1+1) F _).run P w=_
  unfold Instr.checkKey
  simp only[Sem.run_bind,run_underlying c,Result.andThen_ok]
  have g:=a.n0
  have h:=a.n1
  simp[g,h,a.ht0,a.ht1,a.o0,a.o1,Sem.run_bind,e,f,d]
 find:=λw c b d e=>by
  obtain⟨f,i,g,j,h⟩:=Q2 a w c b d 0 e
  refine⟨f,?_,g,λk l m=>?_,h⟩
  ·have n:=a.ht
   cases b with
   |nil=>
    simp_all[Instr.findKey,run_underlying,Instr.findNow,Instr.findAsking]
   |cons o p=>
    simp_all[Instr.findNow,Instr.sameNow,Instr.findKey,Sem.run_bind,run_underlying,Result.andThen_ok]
  grind
 bits:=λf=>by simp[oY.val2,Instr.sameBits]
end
structure aJ where
 st:Int
 sym:Int
deriving DecidableEq
instance:Inhabited aJ:=⟨⟨0,0⟩⟩
instance:tV aJ:={ n:=2,rd:=λ_ x vs=>vs=[O x.st,O x.sym],mono:=λ_ h=>h,len:=λh=>by simp_all }
instance:oY aJ:={ val:=λk=>.agg ⟨[O k.st,O k.sym]⟩,inj:=λa b h=>by cases a;simp_all,a:=aJ.st,b:=aJ.sym,val2:=λ_=>rfl,ext:=λk l h1 h2=>by cases k;simp_all }
def JZ(x:aJ):Ay:=[O x.st,O x.sym]
def MM(xs:List aJ):Ay:=xs.flatMap JZ
theorem I1(xs:List aJ):(MM xs).length=xs.length*2:=qu (f:=JZ) (n:=2) (λ_=>rfl) xs
theorem I2(xs a:List aJ):MM (xs++a)=MM xs++MM a:=kr
theorem Ir{h:Hp}{xs:List aJ}{a:E}{l:Nat}(d:xs.length=l)(r:dX a (MM xs) h):bf h xs a l:=by
 refine⟨d,λe b f=>?_⟩
 rcases r with g|⟨c,rfl,i⟩
 ·have j:=congrArg List.length g
  grind[I1,List.length_nil,List.getElem?_eq_some_iff]
 ·exact⟨c,JZ b,rfl,cQ (n:=2) (λ_=>rfl) xs c i e b f,rfl⟩
theorem zq{h:Hp}{xs:List aJ}{a:E}{l:Nat}(r:bf h xs a l){i:Nat}(hi:i<l):∃x b,xs[i]? =some x/\a=some b/\aj h (b.add (ew i 2)) (JZ x):=by
 obtain⟨x,c,d,e,f,b,g⟩:=r.get hi;rw[show d=JZ x from g] at b;exact⟨x,c,e,f,b⟩
def dt(ss:List SQ)(i:Nat)(s:Int):Option Int:=match ss[i]? with
 |none=>none
 |some q=>(q.2.2.find? λe=>decide (e.sym=s)).map (·.to)
def iP(g:B)(i:Nat)(es:List aN):List aJ:=(es.filter λe=>decide ((g.T:Int)<=e.sym)).map λe=>⟨(i:Int),e.sym⟩
def Aj(g:B)(ss:List SQ):Nat->List aJ
 |0=>[]
 |i+1=>Aj g ss i++(match ss[i]? with|some q=>iP g i q.2.2|none=>[])
def b_(g:B)(ss:List SQ):List aJ:=Aj g ss ss.length
def lz(g:B)(ss:List SQ)(t:aJ):Az:=
 (if t=⟨0,g.start⟩ then[0] else[])++(match dt ss t.st.toNat t.sym with
  |none=>[]
  |some j=>(match ss[j.toNat]? with|none=>[]|some q=>(q.2.2.filter λe=>decide (e.sym<(g.T:Int))).map (·.sym)))
def dI(ss:List SQ):Int->Az->Int
 |q,[]=>q
 |q,s::l=>match dt ss q.toNat s with
  |none=>-1
  |some j=>dI ss j l
section
variable{g:B}{ss:List SQ}
theorem uY{i:Nat}{q:SQ}(a:ss[i]? =some q):Aj g ss (i+1)=Aj g ss i++iP g i q.2.2:=by simp_all[Aj,iP]
theorem MN{i:Nat}{es:List aN}{e:aN}:iP g i (es++[e])=if(g.T:Int)<=e.sym then iP g i es++[⟨(i:Int),e.sym⟩] else iP g i es:=by grind[iP]
theorem uZ{i:Nat}{q:SQ}(b:ss[i]? =some q)(s:Int):dt ss i s=(q.2.2.find? λa=>decide (a.sym=s)).map (·.to):=by simp_all[dt]
theorem J0(h:bG g ss){i:Nat}{q:SQ}(c:ss[i]? =some q):q.2.2.map (·.sym)=(dr g q.1.2).map Int.ofNat:=by
 obtain⟨e,f,_⟩:=iO h c
 have j:∀(a:A0)(d:List dU)(b:List aN),(q_ g q.1.2 a (d,b)).2.map (·.sym)=b.map (·.sym)++a.map Int.ofNat:=by
  intro a
  induction a with
  |nil=>simp[q_]
  |cons b d k=>
   simp_all[q_]
 simp_all
theorem Ve:∀{es:List aN}{k:Nat}{e:aN},(es.map (·.sym)).Nodup->es[k]? =some e->(es.find? λx=>decide (x.sym=e.sym))=some e
 |[],k,e,_,h=>G
 |x::es,0,e,_,h=>η
 |x::es,k+1,e,hn,h=>by
  rw[kn,kN] at hn
  have h:es[k]? =some e:=η
  have hne:x.sym≠e.sym:=λe2=>hn.1 G
  rw[List.find?_cons,jM hne]
  exact Ve hn.2 h
theorem FW(h:bG g ss){i:Nat}{q:SQ}(a:ss[i]? =some q):(q.2.2.map (·.sym)).Nodup:=by
 rw[J0 h a,ot,lF];exact(CC g q.1.2).imp λh b=>G
theorem zr(h:bG g ss){i:Nat}{q:SQ}(a:ss[i]? =some q){k:Nat}{e:aN}(b:q.2.2[k]? =some e):dt ss i e.sym=some e.to:=by grind[uZ,Ve,FW]
theorem j8{i:Nat}{s:Int}{j:Int}(h:dt ss i s=some j):∃(q:SQ)(k:Nat)(e:aN),ss[i]? =some q/\q.2.2[k]? =some e/\e.sym=s/\e.to=j:=by
 unfold dt at h;cases a:ss[i]? with
 |none=>simp_all
 |some q=>
  rw[a] at h;simp only[rj] at h;obtain⟨e,b,rfl⟩:=h;obtain⟨k,c⟩:=jR (List.mem_of_find?_eq_some b)
  grind
end
section
variable{a b c d:E}{i j k l m n o p:Nat}{A:Int}{w:ga}{R:ah->WP}
theorem bw(h:mA a i j none (some (i:Int)) (some (i:Int)) 1 λ(a:E)(b c:Nat)=>R (T a b c) w):ρ 132 [T a i j] w R:=rv func132 h
theorem kT(h:mA a i j none (some (i:Int)) (some (i:Int)) 3 λ(a:E)(b c:Nat)=>R (T a b c) w):ρ 198 [T a i j] w R:=rv func198 h
theorem iQ(h:mA a i j none (some (i:Int)) (some (i:Int)) 1 λ(a:E)(b c:Nat)=>R (T a b c) w):ρ 252 [T a i j] w R:=rv func252 h
abbrev qA:aM:=284
theorem FY(h:new w (ψ a i j b k l c m n A d o p) λa b=>χ b (Z a) λc=>qf 338 [c] b λd e c=>br (e !=0) (R (vU [D,O e]) c) (gF 339 [u d] c λe f g c=>τ [(6,jG),(23,aP)] λb g=>b none 0 0 0 c/\∀(_:ν) c h i j k,b c h i j k->bQ (j<(f:Int)) (M e f j 2 λe=>∃f l,rA k e 2 [O f,O l]/\H k [O 0,O 0] 297 λe m=>bC m (Z e) [O f,O l] λf=>∃(l:lP [(9,jG)]),(∃b c,rA f (Z e) 2 [O b,O c]/\i_ f a 3 λd=>∃a,Sem.run prog (sK BinOp.eql 297 (Operand.tmp 27) (Operand.tmp 30) (vG [O b,O c]) (vG [O 0,O d])) f=Result.ok a f/\∃b,a=J b/\br b (H f [O 0] 3 λa b=>rS (kR 24 [D,T (some (Z a)) 1 1]) b λa b=>∃c d e,a=T c d e/\l c d e b) (l none 0 0 f))/\∀(_:ν) f m n o,l f m n o->gj o λl o=>nn d λp=>gz o (p.add 5) λq r s=>nn d λd=>∃p,(∀a,o a->cL a (d.add 8) (Value.map p))/\∃d s,(∀a,o a->rA a (Z e) 2 [O d,O s])/\bg prog (Instr.lookup 347 (Value.map p) (vG [O d,O s]) false) l λd e=>∃l,d=O l/\oL o e λd=>M q r l 2 λl=>gz d (l.add 1) λo p q=>τ [(9,jG),(50,aP)] λd l=>d f m n 0 e/\∀(_:ν) e f m n q,d e f m n q->bQ (n<(p:Int)) (M o p n 2 λb=>∃c g,rA q b 2 [O c,O g]/\H q [O 0,O 0] 203 λb h=>bC h (Z b) [O c,O g] λc=>gX c (Z b) λg=>gp c (Z a) λh i j=>bQ (g<(i:Int)) (gX c (Z b) λa=>H c [O a] 3 λa b=>iT 24 e f m a b λc g h b=>K (n+1)/\nD d l c g h (n+1) b e f m n q) (K (n+1)/\nD d l e f m (n+1) c e f m n q)) (gF 132 [T e f m] q λe f l d=>H d [T e f l] 24 λa d=>iT 71 c h i a d λe f l d=>K (j+1)/\nD b g e f l (j+1) d c h i j k)) (gF 252 [T c h i] k λc d e b=>R (vU [T c d e,O 0]) b))):ρ 284 [φ a i j b k l c m n A d o p] w R:=rv func284 h ⟨[(6,[(6,jG),(23,aP)]),(12,[(9,jG),(50,aP)])],[(11,[(9,jG)])],[],[]⟩
theorem J2(h:new w (ψ a i j b k l c m n A d o p) λa b=>χ b (Z a) λa=>qf 338 [a] b λc d b=>br (d !=0) (R (vU [D,O d]) b) (gF 339 [u c] b λc d e b=>R (vU [T c d e,O 0]) b)):ρ 289 [φ a i j b k l c m n A d o p] w R:=rv func289 h
theorem OD(h:new w (ψ a i j b k l c m n A d o p) λa b=>χ b (Z a) λc=>rE 41 [c] b λb c=>∃d e f g h i,b=vU [vG [T d e f,O g,O h],O i]/\H c [D,O 0,O 0] 76 λb c=>bC c (Z b) [T d e f,O g,O h] λc=>br (i !=0) (R (vU [u none,O i]) c) (∃d e f g h i j k l m n o p,rA c (Z a) 5 [T d e f,T g h i,T j k l,O m,T n o p]/\∃a q r s t,rA c (Z b) 3 [T a q r,O s,O t]/\new c (Obj.map (Array.mk []) 0) λc v=>H v [T d e f,T g h i,T j k l,O m,T n o p,T a q r,O s,O t,Value.map (some c)] 483 λa c=>gp c (Z b) λd e f=>gT 0 c λb f c g=>bQ (c<(e:Int)) (M d e c 2 λd=>∃e h i j k l,rA g d 2 [T e h i,T j k l]/\H g [D,D] 199 λd m=>bC m (Z d) [T e h i,T j k l] λe=>hU e d 1 λh i j=>gT 0 e λd j e k=>bQ (e<(i:Int)) (M h i e 2 λb=>∃f g,rA k b 2 [O f,O g]/\H k [O 0,O 0] 203 λb h=>bC h (Z b) [O f,O g] λf=>gj f λg f=>∃h,(∀b,f b->cL b (Addr.add (Z a) 8) (Value.map h))/\gy f (Z b) λa=>jr f b 1 λi=>bg prog (Instr.mapUpdate 347 (Value.map h) (vG [O c,O a]) (O i)) g λ(_:Unit)(a:ga)=>gx d j e a k) (gx b f c k g)) (R (vU [u (some (Z a)),O 0]) g))):ρ 338 [φ a i j b k l c m n A d o p] w R:=rv func338 h ⟨[(6,[(27,aP)]),(9,[(35,aP)])],[],[],[]⟩
theorem A_(h:nn a λb=>gp w (b.add 5) λc d e=>τ [(3,jG),(14,aP)] λb e=>b none 0 0 0 w/\∀(_:ν) f g h i j,b f g h i j->bQ (i<(d:Int)) (M c d i 2 λc=>∃d k l m n o,rA j c 2 [T d k l,T m n o]/\H j [D,D] 199 λc p=>bC p (Z c) [T d k l,T m n o] λd=>hU d c 1 λk l m=>τ [(3,jG),(22,aP)] λc m=>c f g h 0 d/\∀(_:ν) d n o p q,c d n o p q->bQ (p<(l:Int)) (M k l p 2 λb=>∃e f,rA q b 2 [O e,O f]/\H q [O 0,O 0] 203 λb g=>bC g (Z b) [O e,O f] λe=>gj e λf e=>gy e (Z b) λg=>nn a λa=>gz e a λh j k=>bQ ((j:Int)<=g) (gX f (Z b) λa=>H f [O i,O a] 297 λa b=>iT 77 d n o a b λe f g b=>K (p+1)/\nD c m e f g (p+1) b d n o p q) (K (p+1)/\nD c m d n o (p+1) f d n o p q)) (K (i+1)/\nD b e d n o (i+1) q f g h i j)) (gF 376 [T f g h] j λc d e b=>R (T c d e) b)):ρ 339 [.pointer a] w R:=rv func339 h ⟨[(3,[(3,jG),(14,aP)]),(6,[(3,jG),(22,aP)])],[],[],[]⟩
theorem ju(h:mA a i j none (some (i:Int)) (some (i:Int)) 2 λ(a:E)(b c:Nat)=>R (T a b c) w):ρ 376 [T a i j] w R:=rv func376 h
theorem pF(h:bQ ((i:Int)<2) (R (T a i j) w) (gT 1 w λb c d e=>bQ (d<(i:Int)) (gj e λf g=>M a i d 1 λh=>gy g h λk=>K (d-1)/\M a i (d-1) 1 λh=>gy g h λl=>br (k==l) (mA a i j (some d) none none 1 λ(b:E)(c _:Nat)=>τ [(3,aP),(5,aP)] λe g=>e d 1 f/\∀(_:ν) d f h,e d f h->bQ (f<(c:Int)) (gj h λj k=>M b c f 1 λl=>gy k l λm=>K (f-1)/\M b c (f-1) 1 λl=>gy k l λn=>br (m !=n) (M b c f 1 λb=>∃c,World.cell? j b=some (O c)/\M a i d 1 λa=>gh j a (O c) λa=>K (d+1)/\K (f+1)/\nB e g (d+1) (f+1) a d f h) (K (f+1)/\nB e g d (f+1) j d f h)) (mA a i j (some d) none none 1 λ(b:E)(c e:Nat)=>rS (Builtin.clear_ (Array.mk [24]) 0 (Array.mk [T b c e])) h λ_ b=>mA a i j none (some d) none 1 λ(a:E)(c d:Nat)=>R (T a c d) b)) (gx b c d f e)) (R (T a i j) e))):ρ 378 [T a i j] w R:=rv func378 h ⟨[(4,[(3,aP)]),(9,[(3,aP),(5,aP)])],[],[],[]⟩
end
def FZ(ss:List SQ)(m:List (aJ×ah))(i:Nat)(es:List aN):Prop:=∀k:aJ,iV k m=
 if k.st<0 then none else if k.st.toNat<i then(dt ss k.st.toNat k.sym).map (Value.int .i64) else if k.st.toNat=i then(es.find? λe=>decide (e.sym=k.sym)).map (λe=>O e.to) else none
section
variable{ss:List SQ}{m:List (aJ×ah)}{i:Nat}
theorem FZ.start:FZ ss [] 0 []:=λk=>by simp[iV]
theorem MO{es:List aN}{e:aN}(b:e.sym∉es.map (·.sym))(s:Int):((es++[e]).find? λa=>decide (a.sym=s))=if s=e.sym then some e else es.find? λa=>decide (a.sym=s):=G
theorem FZ.step{es:List aN}(h:FZ ss m i es){e:aN}(b:e.sym∉es.map (·.sym)):FZ ss (c_ ⟨(i:Int),e.sym⟩ (O e.to) m) i (es++[e]):=λk=>by
 rw[fN,h k,MO b]
 by_cases a:k=⟨(i:Int),e.sym⟩
 ·simp_all
 ·rw[gv a]
  split
  ·rfl
  ·split
   ·rfl
   ·split
    ·have:k.sym≠e.sym:=λh=>a (by cases k;grind)
     simp_all
    rfl
theorem FZ.next{q:SQ}(c:ss[i]? =some q)(h:FZ ss m i q.2.2):FZ ss m (i+1) []:=λa=>by
 rw[h a]
 split
 ·rfl
 ·by_cases d:a.st.toNat<i
  ·grind
  ·rw[gv d]
   by_cases b:a.st.toNat=i
   ·rw[gD b,gD U,b,uZ c,Option.map_map];rfl
   grind
theorem FZ.all(h:FZ ss m ss.length []){k:aJ}(a:0<=k.st):iV k m=(dt ss k.st.toNat k.sym).map (Value.int .i64):=by
 rw[h k,gv U]
 simp_all[dt]
end
abbrev sV(x:GA)(o:E)(n c:Nat)(a int:Int)(kb:Nat):Ay:=x.cells++[T o n c,O a,O int,.map (some kb)]
structure sW(h:Hp)(g:B)(ss:List SQ)(k:Nat):Prop where
 ex:∃(x:GA)(o:E)(c kb:Nat)(a int:Int)(m:List (aJ×ah)),aj h (Z k) (sV x o ss.length c a int kb)/\gR h g x/\Q1 h ss o/\hZ kb m h/\FZ ss m ss.length []
theorem sW.mono{h h':Hp}{g:B}{ss:List SQ}{k:Nat}(s:sub h h')(r:sW h g ss k):sW h' g ss k:=by
 obtain⟨a,b,c,d,e,int,f,i,j,l,m,n⟩:=r.ex;exact⟨a,b,c,d,e,int,f,i.mono s,j.mono s,l.mono s,fT s m,n⟩
section
variable{w:ga}{L:List aG}{g:B}{x:GA}
theorem MP:sT prog pn eQ { name:="State",type:=eQ,offset:=0,embedded:=false,tag:="",pkgPath:="",byteOffset:=0 } { name:="Sym",type:=eQ,offset:=1,embedded:=false,tag:="",pkgPath:="",byteOffset:=8 } where
 ht:=by rfl
 hf:=by rfl
 hi:=bX
 ht0:=rfl
 ht1:=rfl
 n0:=V
 n1:=V
 o0:=rfl
 o1:=rfl
 sih:=Lr
theorem gV:yx prog pn aJ:=yx.two MP
theorem ZM(a8:gR (hp w) g x)(a9:jq g):ρ 338 [.agg ⟨x.cells⟩] w λb a=>∃(ss:List SQ)(c int f:Int)(p:E),b=.tuple #[.pointer p,O f]/\G2 g ss c int f/\Gr w a/\(f=0->∃k,p=some (Z k)/\sW (hp a) g ss k)/\(f≠0->p=none):=by
 refine OD<|dZ a8 λbi aa X Y a0=>?_;refine⟨_,_,_,_,_,_,_,_,_,_,_,_,_,a0.row sZ,(zp Y a9).mono ?_⟩;rintro _ A⟨o,h,ss,b,int,f,rfl,C,a1⟩;have q:Gr aa A:=aE 3 a1.l;have ab:=Y.mono q;have ac:=Iq a1.l
 refine⟨_,_,_,_,_,_,rfl,ag (W.all A) λad bl i=>aQ i rfl (by simp[aO]) λc i=>ae (λal=>?_) λal=>?_⟩
 ·have a:f≠0:=η
  exact⟨ss,b,int,f,none,rfl,C,X.trans<|q.trans i.aS,λd=>absurd d a,λ_=>rfl⟩
 have am:f=0:=η
 subst am
 obtain⟨an,F⟩:aw g/\bG g ss:=by
  rcases C with⟨_,_,_,_,a⟩|⟨_,_,_,_,_,a⟩|⟨d,e,_⟩
  ·omega
  ·omega
  simp_all
 have ao:=F.LQ an;have bo:=F.dn.2.1;have r:Gr A c:=i.aS;have ap:=ab.mono r;have a2:=ac.mono r;have a3:aj (hp c) (Z ad) [T o ss.length h,O b,O int]:=af 0 i.l;clear i;refine⟨_,_,_,_,_,_,_,_,_,_,_,_,_,a0.row<|q.trans r,_,_,_,_,_,a3.at sZ rfl,oW (W.all c) λd bs av=>?_⟩;have az:=eJ (κ:=aJ) av;refine ag (vs:=sV x o ss.length h b int d) az λm bu I=>?_
 refine⟨_,_,_,a3.cell0<|aE 2 I.l,λl n=>∃(a:Nat)(e:List (aJ×ah)),l=a/\a<=ss.length/\FZ ss e a []/\W n (ax m (sV x o ss.length h b int d)::hZ d e::all c),λa _=>ss.length-a.toNat,
  ⟨0,[],rfl,gu _,.start,I⟩,?_⟩
 clear I;rintro _ _ aB⟨e,a4,rfl,bz,L,s⟩;have t:sub (hp c) (hp aB):=aE 2 s.l;refine ae (λaK=>?_) λaK=>?_
 rotate_left
 ·have a:e=ss.length:=G
  subst a;obtain⟨y,l,n⟩:=B7 1 s.l;exact⟨ss,b,int,0,some<|Z m,rfl,C,X.trans<|q.trans<|r.trans t,λ_=>⟨m,rfl,x,o,h,d,b,int,a4,af 0 s.l,ap.mono t,a2.mono t,fT l n,L⟩,λv=>absurd rfl v⟩
 have v:e<ss.length:=η
 obtain⟨a,y⟩:∃l,ss[e]? =some l:=⟨_,gn v⟩;obtain⟨a5,rfl,aR,_,aS⟩:=a2 e a y;have bE:=(ao a<|gg y).2;have bN:=FW F y;refine aI rfl v ⟨_,_,_,_,_,_,aR.at t rfl,ag s λaV bO n=>aQ n rfl (by simp[aO]) λb0 n=>?_⟩;have b1:aj (hp b0) (Z aV) (WX a):=af 0 n.l
 refine⟨_,_,_,b1.cell sZ (j:=1) rfl,λz N=>∃(k:Nat)(l:List (aJ×ah)),z=k/\k<=a.2.2.length/\FZ ss l e (a.2.2.take k)/\W N (ax m (sV x (some a5) ss.length h b int d)::hZ d l::all c),λl _=>a.2.2.length-l.toNat,
  ⟨0,a4,rfl,gu _,L,n.pick 3 [1,2]⟩,?_⟩
 clear n L;rintro _ _ b2⟨k,b3,rfl,bP,N,P⟩;have b4:sub (hp c) (hp b2):=aE 2 P.l;refine ae (λb5=>?_) λb5=>?_
 rotate_left
 ·have l:k=a.2.2.length:=G
  subst l;rw[jl] at N;exact⟨ξ,⟨e+1,b3,V,v,N.next y,P⟩,bS v⟩
 have z:k<a.2.2.length:=η
 obtain⟨l,bT,c0,b6,b7⟩:=qy aS z;refine aI b6 z ⟨_,_,b7.at b4 rfl,ag P λb9 c1 Q=>aQ Q rfl (by simp[aO]) λc2 Q=>?_⟩;intro R ba;have S:=Q.eq<|aW ba;have a6:aj (hp R) (Z b9) [O l.sym,O l.to]:=af 0 S.l;have bb:aj (hp R) (Z m) (sV x (some a5) ss.length h b int d):=af 1 S.l;refine⟨λa7=>Gr R a7,Gr.refl _,_,λbc a7=>bb.cell a7 (j:=8) rfl,_,λbc a7=>a6.cell0 a7,_,λbc a7=>a6.cell a7 (j:=1) rfl,(sg (κ:=aJ) aY (rfl:ai Ty _=.map _ _) gV (S.pick 3 [2,0,1]) ⟨(e:Int),l.sym⟩ _).mono ?_⟩;rintro _ c3 bc;have bd:a.2.2.take (k+1)=a.2.2.take k++[l]:=by simp_all[iw]
 have be:l.sym∉(a.2.2.take k).map (·.sym):=λa7=>by
  have c4:a.2.2.map (·.sym)=(a.2.2.take k).map (·.sym)++l.sym::(a.2.2.drop (k+1)).map (·.sym):=by
   rw[<-kn,<-jI]
   grind[List.take_append_drop]
  grind
 have a7:=N.step be;rw[<-bd] at a7;exact⟨ξ,⟨k+1,_,V,z,a7,bc.pick 3 [2,0]⟩,bS z⟩
end
section
variable{g:B}{ss:List SQ}
theorem Q3(g:B)(i:Nat)(es:List aN):(iP g i es).length<=es.length:=by simp[iP,mr]
theorem D4(hk:∀q∈ss,q.2.2.length<=130):∀i,(Aj g ss i).length<=i*130
 |0=>by simp[Aj]
 |i+1=>by
  have:=D4 hk i
  grind[Aj,uY,List.length_append,Q3,List.mem_of_getElem?]
theorem G2.Sn{a i f:Int}(h:G2 g ss a i f)(b:f=0):aw g/\bG g ss:=by
 subst b
 rcases h with⟨_,_,_,_,c⟩|⟨_,_,_,_,_,c⟩|⟨d,e,_⟩
 ·omega
 ·omega
 simp_all
def D5(ss:List SQ)(i:Nat)(s:Int):Int:=(dt ss i s).getD (-1)
end
section
variable{w:ga}{L:List aG}{g:B}{x:GA}{ss:List SQ}
theorem Q4{k:Nat}(z:sW (hp w) g ss k)(am:ss.length<=256)(r:∀q∈ss,q.2.2.length<=130):ρ 339 [u (some (Z k))] w λa b=>∃(o:E)(c:Nat),a=.slice o (b_ g ss).length c/\W b (own 2 o (b_ g ss).length c (MM (b_ g ss))::all w):=by
 obtain⟨A,an,ao,ap,av,int,az,s,C,F,aB,aK⟩:=z.ex;have aR:g.T=A.tl:=C.t.1
 refine A_ ⟨_,_,_,s.cell sZ (j:=5) rfl,λo b c d e=>∃a:Nat,d=a/\a<=ss.length/\b=(Aj g ss a).length/\W e (own 2 o b c (MM<|Aj g ss a)::all w),λ_ _ _ a _=>ss.length-a.toNat,
  ⟨0,rfl,gu _,rfl,aH 2<|W.all w⟩,?_⟩
 rintro _ I _ L _ N⟨a,rfl,aS,rfl,f⟩;have P:sub (hp w) (hp N):=aE 1 f.l;refine ae (λQ=>?_) λQ=>?_
 rotate_left
 ·have b:a=ss.length:=G
  subst b;refine ju (bZ (bJ f) ⟨_,_,_,rfl,_,_,rfl,cK f⟩)
 have h:a<ss.length:=η
 obtain⟨q,l⟩:∃q,ss[a]? =some q:=⟨_,gn h⟩;obtain⟨aV,rfl,R,_,S⟩:=F a q l;have b0:=r q<|gg l;have b1:=D4 (g:=g) r a;refine aI rfl h ⟨_,_,_,_,_,_,R.at P rfl,ag f λX b2 e=>aQ e rfl (by simp[aO]) λt e=>?_⟩;have Y:aj (hp t) (Z X) (WX q):=af 0 e.l
 refine⟨_,_,_,Y.cell sZ (j:=1) rfl,λo b c d i=>∃(j:Nat),d=j/\j<=q.2.2.length/\b=(Aj g ss a++iP g a (q.2.2.take j)).length/\W i (own 2 o b c (MM<|Aj g ss a++iP g a (q.2.2.take j))::all w),λ_ _ _ b _=>q.2.2.length-b.toNat,
  ⟨0,rfl,gu _,by simp[iP],by simpa[iP] using(show W t (own 2 I (Aj g ss a).length L (MM<|Aj g ss a)::all w) from e.pick 2 [1])⟩,?_⟩
 clear e;rintro _ b3 _ b4 _ a0⟨j,rfl,b5,rfl,m⟩;have a1:sub (hp w) (hp a0):=aE 1 m.l;have a2:=Q3 g a<|q.2.2.take j;rw[k5] at a2;refine ae (λa3=>?_) λa3=>?_
 rotate_left
 ·have b:j=q.2.2.length:=G
  subst b;rw[jl] at m ⊢;exact⟨ξ,⟨a+1,V,h,by rw[uY l],by simp_all[uY]⟩,bS h⟩
 have d:j<q.2.2.length:=η
 obtain⟨b,b6,b7,a4,a5⟩:=qy S d;have v:q.2.2.take (j+1)=q.2.2.take j++[b]:=by simp_all[iw]
 refine aI a4 d ⟨_,_,a5.at a1 rfl,ag m λa6 b9 n=>aQ n rfl (by simp[aO]) λba n=>?_⟩;intro p a7;have i:=n.eq<|aW a7;have x:aj (hp p) (Z a6) [O b.sym,O b.to]:=af 0 i.l;have a8:sub (hp w) (hp p):=aE 2 i.l
 refine⟨λy=>Gr p y,Gr.refl _,_,λa9 y=>x.cell0 y,_,_,_,λa9 y=>s.cell0<|sub.trans a8 y,ae (λa9=>?_) λa9=>?_⟩
 ·have aa:(g.T:Int)<=b.sym:=η
  have y:((Aj g ss a++iP g a (q.2.2.take j)).length+1)*16<=140737488355328/\(Aj g ss a++iP g a (q.2.2.take j)).length<9223372036854775807:=G
  refine⟨_,x.cell0 sZ,ag i λbb bc ab=>?_⟩;refine(aU (us:=MM<|Aj g ss a++iP g a (q.2.2.take j)) aY (rfl:ai Ty _=.slice _) (rfl:ai Ty _=.slice _) rfl rfl rfl (ab.pick 3 [0,2]) rfl (by simp[aO]) y.1 y.2).mono ?_;rintro _ bd⟨be,bi,rfl,ac⟩;have ad:iP g a (q.2.2.take (j+1))=iP g a (q.2.2.take j)++[⟨(a:Int),b.sym⟩]:=by rw[v,MN,gD aa]
  have al:MM (Aj g ss a++iP g a (q.2.2.take (j+1)))=MM (Aj g ss a++iP g a (q.2.2.take j))++[O (a:Int),O b.sym]:=by rw[ad,<-jT,I2];rfl
  refine⟨_,_,_,rfl,ξ,⟨j+1,V,d,G,?_⟩,bS d⟩;rw[al];exact ac.pick 2 [0]
 ·have y:¬(g.T:Int)<=b.sym:=η
  have aa:iP g a (q.2.2.take (j+1))=iP g a (q.2.2.take j):=by rw[v,MN,gv y]
  exact⟨ξ,⟨j+1,V,d,G,by rw[aa];exact i.pick 2 [1]⟩,bS d⟩
theorem ZN(j:gR (hp w) g x)(k:jq g):ρ 289 [.agg ⟨x.cells⟩] w λa b=>∃(ss:List SQ)(d int f:Int)(o:E)(c:Nat),a=.tuple #[.slice o (b_ g ss).length c,O f]/\G2 g ss d int f/\W b (own 2 o (b_ g ss).length c (MM (b_ g ss))::all w):=by
 refine J2<|dZ j λy z d l m=>?_;refine⟨_,_,_,_,_,_,_,_,_,_,_,_,_,m.row sZ,(ZM l k).mono ?_⟩;rintro _ A⟨ss,e,int,f,C,rfl,a,h,n,F⟩
 refine⟨_,_,rfl,ae (λp=>?_) λp=>?_⟩
 ·have q:f≠0:=η
  have i:ss=[]:=by rcases a with⟨_,b,_⟩|⟨_,_,b,_⟩|⟨_,_,_,_,b⟩<;>first|omega|omega
  subst i;exact⟨[],e,int,f,none,0,rfl,a,aH 2<|W.here<|d.trans h⟩
 have b:f=0:=η
 obtain⟨I,rfl,q⟩:=n b;obtain⟨r,i⟩:=a.Sn b;have s:=i.LQ r;refine(Q4 q i.dn.2.1 λt v=>(s t v).2).mono ?_;rintro _ v⟨o,c,rfl,t⟩;subst b;exact⟨_,_,_,rfl,ss,e,int,0,o,c,rfl,a,W.fy t<|bM<|d.trans h⟩
end
theorem eZ{g:B}{ss:List SQ}(a:aw g)(b:bG g ss){i:Nat}{s j:Int}(h:dt ss i s=some j):0<=j/\j<ss.length:=by
 obtain⟨e,f,k,c,d,rfl,rfl⟩:=j8 h;obtain⟨_,_,l,m,n,o,p,_⟩:=dj a b c d
 grind
section
variable{g:B}{ss:List SQ}
def HV(g:B)(es:List aN):Az:=(es.filter λe=>decide (e.sym<(g.T:Int))).map (·.sym)
theorem Q5{es:List aN}{e:aN}:HV g (es++[e])=if e.sym<(g.T:Int) then HV g es++[e.sym] else HV g es:=by grind[HV]
theorem I3(g:B)(es:List aN):(HV g es).length<=es.length:=by simp[HV,mr]
def pH(g:B)(t:aJ):Az:=if t=⟨0,g.start⟩ then[0] else[]
theorem ZO(g:B)(t:aJ):(pH g t).length<=1:=by grind[pH]
theorem me{t:aJ}:∀{n:Nat},t∈Aj g ss n->∃(i:Nat)(q:SQ)(k:Nat)(e:aN),i<n/\ss[i]? =some q/\q.2.2[k]? =some e/\(g.T:Int)<=e.sym/\t=⟨(i:Int),e.sym⟩
 |0,h=>by grind[Aj]
 |n+1,h=>by
  cases hq:ss[n]? with
  |none=>
   simp[Aj,hq] at h
   obtain⟨i,q,k,e,h1,h2⟩:=me h
   grind
  |some q=>
   rw[uY hq,iU] at h
   rcases h with h|h
   ·obtain⟨i,q,k,e,h1,h2⟩:=me h
    grind
   ·unfold iP at h
    obtain⟨e,he,rfl⟩:=iz.1 h
    obtain⟨h1,h2⟩:=kh.1 he
    obtain⟨k,hk⟩:=jR h1
    grind
theorem J3{t:aJ}{j:Nat}{q:SQ}(h:dt ss t.st.toNat t.sym=some (j:Int))(a:ss[j]? =some q):lz g ss t=pH g t++HV g q.2.2:=by
 unfold lz;rw[h]
 show _++(match ss[(j:Int).toNat]? with|none=>[]|some q=>_)=_
 rw[je,a];rfl
end
section
variable{w:ga}{L:List aG}{g:B}{x:GA}{ss:List SQ}
theorem I4(w:ga)(xo yo:St)(x y:aJ):Sem.run prog (sK .eql pn xo yo (.agg ⟨JZ x⟩) (.agg ⟨JZ y⟩)) w=.ok (J (decide (x=y))) w:=by
 unfold sK;rw[Sem.run_bind,run_eqGuard_agg w _ _ _ _ _ _ Lp];simp only[Result.andThen_ok];rw[run_eql_struct]
 have e:decide (x=y)=decide (x.st=y.st/\x.sym=y.sym):=by
  cases x;cases y;simp
 rw[e]
 show((Op.equal pn (.agg #[O x.st,O x.sym])<|.agg #[O y.st,O y.sym]).run prog w).andThen _=_
 rw[ZL MP];rfl
theorem Tx(an:gR (hp w) g x)(ao:jq g):ρ qA [.agg ⟨x.cells⟩] w λa b=>∃(ss:List SQ)(d int f:Int)(o:E)(c:Nat)(ds:List (Lq Int)),a=.tuple #[T o ds.length c,O f]/\G2 g ss d int f/\ds.map (·.2)=(b_ g ss).map (lz g ss)/\W b (own 1 o ds.length c (ds.map cf)::aT (ds.map (bU 1 iv))::all w):=by
 refine FY<|dZ an λc9 ap a2 F I=>?_;refine⟨_,_,_,_,_,_,_,_,_,_,_,_,_,I.row sZ,(ZM F ao).mono ?_⟩;rintro _ av⟨ss,a3,int,f,ca,rfl,p,a4,az,cb⟩
 refine⟨_,_,rfl,ae (λaB=>?_) λaB=>?_⟩
 ·have d:f≠0:=η
  have b:ss=[]:=by rcases p with⟨_,a,_⟩|⟨_,_,a,_⟩|⟨_,_,_,_,a⟩<;>first|omega|omega
  subst b;exact⟨[],a3,int,f,none,0,[],rfl,p,rfl,aH 1<|(W.flat (M:=[])).2 (W.here<|a2.trans a4)⟩
 have aK:f=0:=η
 subst aK;obtain⟨cc,rfl,a5⟩:=az rfl;obtain⟨a6,L⟩:=p.Sn rfl;have N:=L.LQ a6;have aR:=L.dn.2.1;have aS:=D4 (g:=g) (λa b=>(N a b).2) ss.length;refine(Q4 a5 aR λa b=>(N a b).2).mono ?_;rintro _ d⟨aV,cL,rfl,P⟩;have a7:Gr av d:=aE 1 P.l;have b0:bf (hp d) (b_ g ss) aV (b_ g ss).length:=Ir rfl (dT 0 P.l);clear P;obtain⟨cd,ce,cg,ch,ci,ck,cl,a8,cm,b1,b2,b3⟩:=(a5.mono a7).ex;have Q:Gr ap d:=a4.trans a7;have cn:g.T=x.tl:=F.t.1;have co:x.s=g.start:=F.s
 refine⟨_,_,_,rfl,λo b c e h=>∃(a:Nat)(ds:List (Lq Int)),e=a/\a<=(b_ g ss).length/\b=ds.length/\ds.map (·.2)=((b_ g ss).take a).map (lz g ss)/\W h (own 1 o b c (ds.map cf)::aT (ds.map<|bU 1 iv)::all d),λ_ _ _ a _=>(b_ g ss).length-a.toNat,
  ⟨0,[],rfl,gu _,rfl,rfl,aH 1<|(W.flat (M:=[])).2 (W.all d)⟩,?_⟩
 rintro _ q _ r _ b4⟨h,ds,rfl,cp,rfl,R,s⟩;have b5:sub (hp d) (hp b4):=aE 2 s.l;have cq:ds.length=h:=by have:=congrArg List.length R;grind
 have cs:(b_ g ss).length<=ss.length*130:=aS;refine ae (λb6=>?_) λb6=>?_
 rotate_left
 ·have a:h=(b_ g ss).length:=G
  rw[a,jl] at R;refine iQ<|bZ (bJ s) ⟨_,_,_,rfl,ss,a3,int,0,_,_,ds,rfl,p,R,?_⟩;exact W.Qf (cK s) (bM<|a2.trans Q)
 have t:h<(b_ g ss).length:=η
 obtain⟨a,bQ,b7,b9,ba⟩:=zq b0 t;obtain⟨ct,cu,cv,S,cx,cy,cz,cA,cB⟩:=me<|gg b7;have v:dt ss a.st.toNat a.sym=some S.to:=by grind[zr]
 obtain⟨cC,bb⟩:=eZ a6 L v;obtain⟨X,bc⟩:∃b:Nat,S.to=b:=⟨S.to.toNat,U⟩;rw[bc] at v bb;have a9:X<ss.length:=U
 obtain⟨b,Y⟩:∃e,ss[X]? =some e:=⟨_,gn a9⟩;have bd:lz g ss a=pH g a++HV g b.2.2:=J3 v Y;have cF:=(N b<|gg Y).2;have cI:=ZO g a;have be:0<=a.st:=η
 have cR:(b_ g ss).take (h+1)=(b_ g ss).take h++[a]:=by simp_all[iw]
 obtain⟨cT,rfl,bi,_,bl⟩:=b1 X b Y;refine aI b9 t ⟨_,_,ba.at b5 rfl,ag s λy d0 a0=>aQ a0 rfl (by simp[aO]) λz a0=>?_⟩;have l:W z (ax y (JZ a)::own 1 q ds.length r (ds.map cf)::aT (ds.map<|bU 1 iv)::all d):=a0;have aa:aj (hp z) (Z y) (JZ a):=af 0 l.l;have ab:sub (hp d) (hp z):=aE 3 l.l
 refine⟨λo e c i=>e=(pH g a).length/\W i (own 1 o e c (iv<|pH g a)::ax y (JZ a)::own 1 q ds.length r (ds.map cf)::aT (ds.map<|bU 1 iv)::all d),⟨_,_,aa.at sZ rfl,_,I.c3<|sub.trans Q ab,_,I4 z _ _ a ⟨0,x.s⟩,_,rfl,ae (λbo=>?_) λbo=>?_⟩,?_⟩
 ·have m:a=⟨0,g.start⟩:=η
  have e:pH g a=[0]:=by simp_all[pH]
  refine ag l λn A i=>?_;refine(aU (us:=[]) aY (rfl:ai Ty _=.slice _) (rfl:ai Ty _=.slice _) rfl rfl rfl ((aH 1 i).pick 5 [1,0,2,3,4]) rfl (by simp[aO]) V V).mono ?_;rintro _ C⟨a1,ac,rfl,k⟩;rw[e];exact⟨_,_,_,rfl,rfl,k.pick 5 [0,2,3,4]⟩
 ·have i:¬a=⟨0,g.start⟩:=η
  have e:pH g a=[]:=by simp_all[pH,gv]
  rw[e];exact⟨rfl,aH 1 l⟩
 clear l aa ab;rintro _ bs _ bu d1⟨rfl,bz⟩;intro m bE;have A:=bz.eq<|aW bE;have C:sub (hp d) (hp m):=aE 4 A.l;have ac:aj (hp m) (Z y) (JZ a):=af 1 A.l;refine⟨λe=>Gr m e,Gr.refl _,_,_,_,λi e=>a8.cell (sub.trans C e) (j:=5) rfl,_,λi e=>a8.cell (sub.trans C e) (j:=8) rfl,_,_,λi e=>ac.at e rfl,(fp (κ:=aJ) b2 C aY (rfl:ai Ty _=.map _ _) gV rfl rfl a).mono ?_⟩;rintro _ d2⟨rfl,bN⟩;rw[bN];rw[b3.all be,v]
 refine⟨_,rfl,λe=>Gr m e,Gr.refl _,λ_ e=>e,aI rfl a9 ⟨_,_,_,λi e=>bi.cell (sub.trans C e) (j:=1) rfl,λo e c i k=>∃j:Nat,i=j/\j<=b.2.2.length/\e=(pH g a++HV g (b.2.2.take j)).length/\
  W k (own 1 o e c (iv<|pH g a++HV g (b.2.2.take j))::own 1 q ds.length r (ds.map cf)::aT (ds.map<|bU 1 iv)::all d),λ_ _ _ e _=>b.2.2.length-e.toNat,
  ⟨0,rfl,gu _,by simp[HV],by simpa[HV] using(show W m (own 1 bs (pH g a).length bu (iv<|pH g a)::own 1 q ds.length r (ds.map cf)::aT (ds.map<|bU 1 iv)::all d) from A.pick 4 [0,2,3])⟩,?_⟩⟩
 clear A ac;rintro _ a1 _ d3 _ bO⟨j,rfl,d4,rfl,n⟩;have bP:sub (hp d) (hp bO):=aE 3 n.l;have bT:=I3 g<|b.2.2.take j;rw[k5] at bT
 refine ae (λc0=>?_) λc0=>?_
 ·have i:j<b.2.2.length:=η
  obtain⟨e,d5,d6,c1,c2⟩:=qy bl i;have d7:b.2.2.take (j+1)=b.2.2.take j++[e]:=by simp_all[iw]
  refine aI c1 i ⟨_,_,c2.at bP rfl,ag n λc3 d8 k=>aQ k rfl (by simp[aO]) λad k=>?_⟩;have al:aj (hp ad) (Z c3) [O e.sym,O e.to]:=af 0 k.l;have c4:sub (hp d) (hp ad):=aE 4 k.l
  refine⟨_,al.cell0 sZ,_,_,_,I.c0<|sub.trans Q c4,ae (λc5=>?_) λc5=>?_⟩
  ·have d9:e.sym<(g.T:Int):=η
   have am:((pH g a++HV g (b.2.2.take j)).length+1)*8<=140737488355328/\(pH g a++HV g (b.2.2.take j)).length<9223372036854775807:=G
   refine⟨_,al.cell0 sZ,ag k λdc df c6=>?_⟩;refine(aU (us:=iv<|pH g a++HV g (b.2.2.take j)) aY (rfl:ai Ty _=.slice _) (rfl:ai Ty _=.slice _) rfl rfl rfl (c6.pick 5 [0,2,3,4]) rfl (by simp[aO]) am.1 am.2).mono ?_;rintro _ dk⟨dl,dn,rfl,c7⟩;have dv:pH g a++HV g (b.2.2.take (j+1))=pH g a++HV g (b.2.2.take j)++[e.sym]:=by simp_all[Q5]
   have c8:iv (pH g a++HV g (b.2.2.take (j+1)))=iv (pH g a++HV g (b.2.2.take j))++[O e.sym]:=by simp_all[iv]
   refine⟨_,_,_,rfl,ξ,⟨j+1,V,i,G,?_⟩,bS i⟩;rw[c8];exact c7.pick 4 [0,2,3]
  ·have c6:¬e.sym<(g.T:Int):=η
   have am:HV g (b.2.2.take (j+1))=HV g (b.2.2.take j):=by simp_all[Q5,gv]
   exact⟨ξ,⟨j+1,V,i,G,by rw[am];exact k.pick 4 [1,2,3]⟩,bS i⟩
 have i:j=b.2.2.length:=G
 rw[i,jl,<-bd] at n ⊢;refine bw<|bZ (bJ n) ⟨_,_,_,rfl,?_⟩;have k:=cK n;refine ag k λc4 c5 ad=>?_;have e:(ds.length+1)*24<=140737488355328/\ds.length<9223372036854775807:=U
 refine(aU (us:=ds.map cf) aY (rfl:ai Ty _=.slice _) (rfl:ai Ty _=.slice _) rfl rfl rfl (ad.pick 4 [0,2,1,3]) rfl (by simp[aO]) e.1 e.2).mono ?_;rintro _ al⟨am,c1,rfl,c2⟩;have c3:=W.snoc<|c2.pick 4 [2,3,0];refine⟨_,_,_,rfl,ξ,⟨h+1,ds++[((f_ a1 0 (lz g ss a).length 1,(lz g ss a).length),lz g ss a)],V,t,V,η,?_⟩,bS t⟩;have c6:W al (own 1 am (ds.length+1) c1 (ds.map cf++[.slice (f_ a1 0 (lz g ss a).length 1) (lz g ss a).length (lz g ss a).length])::aT (ds.map (bU 1 iv)++[own 1 (f_ a1 0 (lz g ss a).length 1) (lz g ss a).length (lz g ss a).length (iv<|lz g ss a)])::all d):=c3.pick 2 [1,0]
 simp_all[cf,bU]
end
section
variable{g:B}{ss k:List SQ}
theorem ZP(h:cN ss=cN k)(i:Nat):(ss[i]?).map (λa=>a.2.2)=(k[i]?).map λa=>a.2.2:=by
 have:=congrArg (λa=>a[i]?) h
 grind[cN]
theorem J4(h:cN ss=cN k)(i:Nat)(s:Int):dt ss i s=dt k i s:=by grind[ZP,dt]
theorem ZQ(h:cN ss=cN k):∀i,Aj g ss i=Aj g k i
 |0=>rfl
 |i+1=>by
  have:=ZP h i
  show Aj g ss i++_=Aj g k i++_
  rw[ZQ h i]
  grind
theorem OE(h:cN ss=cN k):ss.length=k.length:=by have:=congrArg List.length h;grind[cN]
theorem zu(h:cN ss=cN k):b_ g ss=b_ g k:=by grind[b_,OE,ZQ]
theorem ZR(h:cN ss=cN k)(t:aJ):lz g ss t=lz g k t:=by grind[lz,J4,dt,ZP]
theorem OF(h:cN ss=cN k):∀(l:Az)(q:Int),dI ss q l=dI k q l
 |[],q=>rfl
 |s::l,q=>by
  unfold dI
  rw[J4 h]
  cases dt k q.toNat s with
  |none=>rfl
  |some j=>exact OF h l j
end
section
variable{g:B}{ss:List SQ}
theorem Vf:∀(n i:Nat),i<=n->∃t,Aj g ss n=Aj g ss i++t
 |0,i,h=>⟨[],η⟩
 |n+1,i,h=>by
  by_cases e:i=n+1
  ·simp_all
  ·obtain⟨t,ht⟩:=Vf n i U
   exact⟨t++(match ss[n]? with|some q=>iP g n q.2.2|none=>[]),by rw[<-jT,<-ht];rfl⟩
theorem ZS(i:Nat)(a b:List aN):iP g i (a++b)=iP g i a++iP g i b:=by simp[iP]
theorem Tz{i:Nat}{q:SQ}(a:ss[i]? =some q){j:Nat}{e:aN}(d:q.2.2[j]? =some e)(h:(g.T:Int)<=e.sym):(b_ g ss)[(Aj g ss i++iP g i (q.2.2.take j)).length]? =some ⟨(i:Int),e.sym⟩:=by
 have f:=(gJ.1 a).1;obtain⟨k,b⟩:=Vf (g:=g) (ss:=ss) ss.length (i+1) U;have l:q.2.2=q.2.2.take j++e::q.2.2.drop (j+1):=by grind[List.getElem?_eq_some_iff,List.drop_eq_getElem_cons,List.take_append_drop]
 have c:iP g i q.2.2=iP g i (q.2.2.take j)++⟨(i:Int),e.sym⟩::iP g i (q.2.2.drop (j+1)):=by grind[ZS,iP,List.filter_cons_of_pos]
 unfold b_;rw[b,uY a,c,<-jT,jT,kL<|gP _,lH];rfl
end
section
variable{g:B}{ss:List SQ}
theorem ZT(a:Nat->Bool)(n:Nat):(List.range (n+1)).filter a=(List.range n).filter a++if a n=true then[n] else[]:=by grind[List.range_succ]
def sX(g:B)(ss:List SQ)(t:aJ)(j n:Nat):Bool:=if n=0 then decide (t=⟨0,g.start⟩) else(dt ss j n).isSome
theorem u4(h:bG g ss){j:Nat}{r:SQ}(b:ss[j]? =some r){n:Nat}(c:n<g.T+g.N):(dt ss j (n:Int)).isSome=decide (bI g r.1.2 (n:Int)≠[]):=by
 have d:=J0 h b;rw[uZ b,Option.isSome_map,lG,jV,List.find?_isSome]
 constructor
 ·rintro⟨a,e,f⟩;have i:a.sym=n:=gZ f;have:a.sym∈r.2.2.map (·.sym):=iz.2 ⟨a,e,rfl⟩
  grind[Int.ofNat.inj,Ae]
 ·intro a
  have:(n:Int)∈r.2.2.map (·.sym):=by
   rw[d];exact iz.2 ⟨n,kh.2 ⟨jY.2 c,kG a⟩,rfl⟩
  grind
theorem ZU:∀(T N:Nat)(p:Nat->Bool),((List.range (T+N)).filter p).filter (λn=>decide (n<T))=(List.range T).filter p
 |T,0,p=>by simp_all[Nat.add_zero,List.filter_filter,sm]
 |T,N+1,p=>by
  rw[<-Nat.add_assoc,ZT,lX,ZU T N p]
  simp
theorem ZV(h:bG g ss){j:Nat}{r:SQ}(a:ss[j]? =some r):HV g r.2.2=((List.range g.T).filter λb=>decide (bI g r.1.2 (b:Nat)≠[])).map Int.ofNat:=by
 have b:=J0 h a
 have c:HV g r.2.2=(r.2.2.map (·.sym)).filter λd=>decide (d<(g.T:Int)):=by
  unfold HV;rw[List.filter_map];rfl
 have d:=ZU g.T g.N λe=>decide (bI g r.1.2 (e:Nat)≠[]);rw[c,b,List.filter_map,<-d];congr 1;refine sm λe f=>?_;simp
theorem I5(c:aw g)(h:bG g ss){t:aJ}{j:Nat}{r:SQ}(b:ss[j]? =some r):pH g t++HV g r.2.2=((List.range g.T).filter (sX g ss t j)).map Int.ofNat:=by
 obtain⟨n,o,p,q,s,_⟩:=c.cR;have d:=(iO h b).1;have e:=(ik (g:=g) U j).fit _ (gg d);have v:=H4 c e;rw[ZV h b];obtain⟨a,f⟩:∃i,g.T=i+1:=⟨g.T-1,U⟩;rw[f,List.range_succ_eq_map];have i:((0::(List.range a).map Nat.succ).filter λk=>decide (bI g r.1.2 (k:Nat)≠[]))=((List.range a).map Nat.succ).filter λk=>decide (bI g r.1.2 (k:Nat)≠[]):=η
 have w:((List.range a).map Nat.succ).filter (sX g ss t j)=((List.range a).map Nat.succ).filter λk=>decide (bI g r.1.2 (k:Nat)≠[]):=by
  refine sm λx l=>?_;obtain⟨y,m,rfl⟩:=iz.1 l;rw[jY] at m;unfold sX;rw[gv U,u4 h b U]
 rw[i];unfold pH
 by_cases l:t=⟨0,g.start⟩
 ·simp_all[List.filter_cons_of_pos,sX]
 simp_all[List.filter_cons_of_neg,sX]
end
section
variable{g:B}{ss:List SQ}
theorem ng(q s:Int)(l:Az):dI ss q (s::l)=match dt ss q.toNat s with|none=>-1|some j=>dI ss j l:=rfl
theorem D6(hn:∀i s j,dt ss i s=some j->0<=j/\j<ss.length):∀(l:Az)(q:Int),0<=q->q<ss.length->dI ss q l=-1\/(0<=dI ss q l/\dI ss q l<ss.length)
 |[],q,h1,h2=>.inr ⟨h1,h2⟩
 |s::l,q,h1,h2=>by
  unfold dI
  cases h:dt ss q.toNat s with
  |none=>simp
  |some j=>exact D6 hn l j (hn _ _ _ h).1 (hn _ _ _ h).2
theorem D7(hn:∀i s j,dt ss i s=some j->0<=j/\j<ss.length)(b:Az):∀(l:Az)(q:Int),0<=q->q<ss.length->dI ss q (l++b)=if dI ss q l=-1 then-1 else dI ss (dI ss q l) b
 |[],q,h1,h2=>by
  show dI ss q b=if q=-1 then-1 else dI ss q b
  omega
 |s::l,q,h1,h2=>by
  show dI ss q (s::(l++b))=_
  rw[ng q s (l++b),ng q s l]
  cases h:dt ss q.toNat s with
  |none=>simp
  |some j=>exact D7 hn b l j (hn _ _ _ h).1 (hn _ _ _ h).2
end
section
variable{g:B}{ss:List SQ}
theorem nF(a:aw g)(b:bG g ss){i:Nat}{q:SQ}(c:ss[i]? =some q){y:aq}{s:Int}(f:wS g q.1.2 y)(h:nS g y=s)(h0:0<=s):∃(j:Nat)(r:SQ),dt ss i s=some (j:Int)/\ss[j]? =some r/\(⟨y.prod,y.dot+1⟩:aq)∈r.1.2:=by
 obtain⟨p,t,v,w,_,_⟩:=a.cR;have k:=(iO b c).1;have l:=(ik (g:=g) U i).fit _ (gg k);have m:(⟨y.prod,y.dot+1⟩:aq)∈bI g q.1.2 s:=dh.2 ⟨y,f,h,rfl⟩;have d:bI g q.1.2 s≠[]:=List.ne_nil_of_mem m;have x:=zi a l h0 d;obtain⟨n,rfl⟩:∃n:Nat,s=n:=⟨s.toNat,U⟩;have e:=u4 b c (n:=n) U;rw[kG d] at e;obtain⟨z,o⟩:=sy.1 e;obtain⟨A,C,F,I,L,N,P⟩:=j8 o
 grind[dj]
theorem CF(hc:aw g)(hA:bG g ss){n:Nat}{p:aD}(hp:g.prods[n]? =some p):∀(d m:Nat),m+d=p.right.length->∀(i:Nat)(q:SQ),ss[i]? =some q->wS g q.1.2 ⟨(n:Int),(m:Int)⟩->
  ∃(j:Nat)(r:SQ),dI ss (i:Int) (p.right.drop m)=(j:Int)/\ss[j]? =some r/\wS g r.1.2 ⟨(n:Int),(p.right.length:Int)⟩
 |0,m,hm,i,q,hq,hy=>⟨i,q,by rw[List.drop_of_length_le U];rfl,hq,η⟩
 |d+1,m,hm,i,q,hq,hy=>by
  have hlt:m<p.right.length:=U
  have hpm:p∈g.prods:=gg hp
  have hs:nS g ⟨(n:Int),(m:Int)⟩=p.right[m]:=by simp_all[yC]
  have hsy:=hc.sym hpm (pL hlt)
  obtain⟨j,r,h1,h2,h3⟩:=nF hc hA hq hy hs U
  have h4:wS g r.1.2 ⟨(n:Int),((m+1:Nat):Int)⟩:=.base η
  obtain⟨j',r',e1,e2,e3⟩:=CF hc hA hp d (m+1) U j r h2 h4
  grind[List.drop_eq_getElem_cons,ng,Int.toNat_natCast]
theorem I6(hc:aw g)(hA:bG g ss){i:Nat}{q:SQ}(hq:ss[i]? =some q){n:Nat}{p:aD}(hp:g.prods[n]? =some p)(hy:wS g q.1.2 ⟨(n:Int),0⟩):(dt ss i p.left).isSome=decide (n≠0):=by
 have a0:=hc;obtain⟨_,a5,O,p0,a,Z,a4,_⟩:=a0;obtain⟨hT,hN,hP,a8,_,a6⟩:=hc.cR
 have V:∀(m:Nat) J,g.prods[m]? =some J->m≠0->tf g 1 J:=λm J hm h0=>by
  refine O.2.2.1 J (gg (i:=m-1) ?_)
  grind
 by_cases h0:n=0
 ·subst h0;rw[a] at hp;cases hp;rw[Z,u4 hA hq U];have hK:=(iO hA hq).1;have hf:=(ik (g:=g) U i).fit _ (gg hK)
  have:bI g q.1.2 (g.T:Int)=[]:=by
   refine mw λW=>?_;obtain⟨x,hx⟩:=oZ _ W;obtain⟨y,h1,h2,_⟩:=dh.1 hx;obtain⟨J,u,_,X⟩:=JE (h1.fit hf) h2 (kF _)
   by_cases h4:y.prod.toNat=0
   ·rw[h4,a] at u;cases u;rw[a4] at X;have:=gg X;rw[jA] at this;have:=O.2.2.2.2.1;omega
   ·have:=(V _ _ u h4).2 _ (gg X)
    grind[gI]
  simp_all
 ·have a7:=V n p hp h0
  have Y:∃j:Int,dt ss i p.left=some j:=by
   generalize hz:(⟨(n:Int),0⟩:aq)=z at hy;cases hy with
   |base h=>
    subst hz;cases i with
    |zero=>
     have hK:=(iO hA hq).1
     have e:q.1.2=[⟨0,0⟩]:=by
      have:(gb g 0).1[0]? =some [⟨0,0⟩]:=rfl
      simp_all
     simp_all
    |succ i=>
     have:=(OA hc hA U hq h).2.1
     simp_all
   |step hy' h1 u hl'=>
    rename_i y i' J;have e:i'=n:=G
    grind[nF]
  grind
end
section
variable{g:B}{ss:List SQ}
theorem W1{h:Hp}{xs:List aq}{a:E}{l:Nat}(r:bf h xs a l){i:Nat}(hi:i<l):∃x b,xs[i]? =some x/\a=some b/\aj h (b.add (ew i 2)) (fB x):=by
 obtain⟨x,c,d,e,f,b,g⟩:=r.get hi;rw[show d=fB x from g] at b;exact⟨x,c,e,f,b⟩
end
section
variable{a b c d:E}{i j k l m n o p:Nat}{A:Int}{w:ga}{R:ah->WP}
theorem CH(h:new w (ψ a i j b k l c m n A d o p) λa b=>χ b (Z a) λc=>iu 267 [c] b λd c=>br (!d) (R (vU [D,O 1]) c) (gj c λb c=>∃d e f g h i j k l m n o p,(∀b,c b->rA b (Z a) 5 [T d e f,T g h i,T j k l,O m,T n o p])/\gz c (Z a) λq r s=>kV 268 [vG [T d e f,T g h i,T j k l,O m,T n o p]] b λd b=>oL c b λa=>nn d λc=>gz a (c.add 5) λd e f=>mA d e f (some (r:Int)) none none 1 λ(a:E)(c d:Nat)=>R (vU [T a c d,O 0]) b)):ρ 179 [φ a i j b k l c m n A d o p] w R:=rv func179 h
theorem F5(h:new w (ψ a i j b k l c m n A d o p) λa b=>χ b (Z a) λc=>iu 166 [c] b λd c=>br d (R (J true) c) (χ c (Z a) λa=>iu 81 [a] c λc b=>R (J c) b)):ρ 267 [φ a i j b k l c m n A d o p] w R:=rv func267 h
theorem OH(h:new w (ψ a i j b k l c m n A d o p) λa b=>gp b (Z a) λc d e=>hU b a 1 λc e f=>K ((d:Int)+(e:Int))/\gj b λc b=>∃f g h i j k l m n o p q r,(∀c,b c->rA c (Z a) 5 [T f g h,T i j k,T l m n,O o,T p q r])/\qT ((d:Int)+(e:Int)) ((d:Int)+(e:Int)) 1/\new c (Obj.cells (Array.mk (ir (Int.toNat ((d:Int)+(e:Int))) [J false])) 4) λc s=>b s/\H s [T f g h,T i j k,T l m n,O o,T p q r,T (some (Z c)) (Int.toNat ((d:Int)+(e:Int))) (Int.toNat ((d:Int)+(e:Int))),D] 422 λc f=>b f/\gT 0 f λb g f h=>bQ (f<(d:Int)+(e:Int)) (gj h λd e=>jo e c 6 λi j k=>gz e (Z a) λl m n=>H d [O f] 3 λa d=>e d/\kV 102 [O (m:Int),T (some (Z a)) 1 1] d λl d=>e d/\H d [u l] 178 λa d=>e d/\iT 179 i j k a d λi j k d=>e d/\gh d (Addr.add (Z c) 6) (T i j k) λa=>gx b g f a h) (gT 1 h λb d e f=>bQ (0<e) (hU f a 4 λg h i=>τ [(6,aP),(48,aP)] λa i=>a 0 0 f/\∀(_:ν) j k l,a j k l->bQ (k<(h:Int)) (M g h k 3 λb=>∃d e f g h,rA l b 3 [O d,T e f g,O h]/\H l [O 0,D,O 0] 134 λb m=>bC m (Z b) [O d,T e f g,O h] λd=>gj d λe d=>jo d c 6 λf g h=>gy d (Z b) λh=>M f g h 1 λf=>jc d f λg=>jo d b 1 λf h m=>sR 324 [u (some (Z c)),u g,T f h m] e λg h f=>d f/\K (j+g)/\gj f λd e=>br h (jo e c 5 λf h m=>gy e (Z b) λm=>M f h m 1 λf=>qd e f λh=>br (!h) (gj d λe d=>jo d c 5 λf h m=>gy d (Z b) λc=>M f h c 1 λb=>gh e b (J true) λb=>K (j+g+1)/\K (k+1)/\nB a i (j+g+1) (k+1) b j k l) (K (k+1)/\nB a i (j+g) (k+1) d j k l)) (K (k+1)/\nB a i (j+g) (k+1) d j k l)) (nA b d j l e f)) (R (u (some (Z c))) f))):ρ 268 [φ a i j b k l c m n A d o p] w R:=rv func268 h ⟨[(4,[(24,aP)]),(9,[(6,aP)]),(12,[(6,aP),(48,aP)])],[],[],[]⟩
theorem CJ(h:τ [(8,aP),(13,aP)] λd e=>d 0 0 w/\∀(_:ν) f g h,d f g h->bQ (g<(i:Int)) (M c i g 1 λc=>gX h c λi=>nn a λc=>gp h (c.add 6) λj k l=>M j k i 1 λc=>jQ h c λj=>H h [u j] 178 λc j=>iC 349 [u b,T (some (Z c)) 1 1] j λj c=>K (f+j)/\nn a λa=>gp c (a.add 5) λb k l=>M b k i 1 λa=>mH c a λb=>br (!b) (R (vU [O (f+j),J false]) c) (K (g+1)/\nB d e (f+j) (g+1) c f g h)) (R (vU [O f,J true]) h)):ρ 324 [.pointer a,.pointer b,T c i j] w R:=rv func324 h ⟨[(3,[(8,aP),(13,aP)])],[],[],[]⟩
end
def qB(nl:At)(vs:A5):At->Az->At
 |bs,[]=>bs
 |bs,s::r=>if bt nl s.toNat then qB nl vs (dw bs (jC (vs.getD s.toNat []))) r else dw bs (jC (vs.getD s.toNat []))
def HW(nl:At)(row:Az):Bool:=row.all λs=>bt nl s.toNat
theorem Q6(nl:At)(vs:A5)(bs:At):qB nl vs bs []=bs:=rfl
theorem MQ(nl:At)(vs:A5)(bs:At)(s:Int)(r:Az):qB nl vs bs (s::r)=if bt nl s.toNat then qB nl vs (dw bs (jC (vs.getD s.toNat []))) r else dw bs (jC (vs.getD s.toNat [])):=rfl
theorem J6(nl:At)(vs:A5):∀(row:Az)(bs:At),(qB nl vs bs row).length=bs.length
 |[],bs=>rfl
 |s::r,bs=>by
  unfold qB
  split
  ·rw[J6 nl vs r,bF]
  ·rw[bF]
theorem D8(nl:At)(vs:A5):∀(row:Az)(bs:At)(k:Nat),bt bs k=true->bt (qB nl vs bs row) k=true
 |[],bs,k,h=>h
 |s::r,bs,k,h=>by
  unfold qB
  have:bt (dw bs (jC (vs.getD s.toNat []))) k=true:=by simp_all[iK]
  split
  ·exact D8 nl vs r _ k this
  omega
theorem MR(nl:At)(vs:A5):∀(row:Az)(bs:At),bK bs<=bK (qB nl vs bs row)
 |[],bs=>gP _
 |s::r,bs=>by
  unfold qB
  split
  ·exact j3 (uu _ _) (MR nl vs r _)
  simp[uu]
section
variable{w:ga}{L:List aG}{a k r:E}{l c nl y F N ks:Nat}{p:E}{bs nulls:At}{row:Az}{os:List (E)}{vss:A5}{gs:Ay}
theorem I7(h:W w (cZ p bs::L))(a0:∀h,aL L h->aj h ⟨ks,0,none⟩ (gs++[T k nl y,T r F N]))(bc:gs.length=5)(a1:∀h,aL L h->bf h nulls k nl)(a2:∀h,aL L h->bf h os r F)(bd:vss.length=os.length)(be:nulls.length=os.length)
  (a3:∀h,aL L h->∀(i:Nat) q v,os[i]? =some q->vss[i]? =some v->fm h q v\/(q=p/\v=bs)) (a4:∀h,aL L h->ec h)
  (a5:∀h,aL L h->bf h row a l) (a6:∀s∈row,0<=s/\s.toNat<os.length) (bi:l<=4611686018427387904):
  ρ 324 [.pointer (some ⟨ks,0,none⟩),.pointer p,T a l c] w λv b=>v=.tuple #[O ((bK (qB nulls vss bs row):Int)-bK bs),J (HW nulls row)]/\W b (cZ p (qB nulls vss bs row)::L):=by
 obtain⟨b,g,_,P⟩:=h.freeze;have Q:=a0 b g;have t:=a1 b g;have x:=a2 b g;have a7:=a3 b g;have a8:ec b:=a4 b g;have R:=a5 b g;have bl:=h.fm.le;have a9:∀d e,W d (cZ p e::[has b])->W d (cZ p e::L):=λd e h=>h.fy g;clear h g;have aa:∀d,sub b (hp d)->d.cell? ((⟨ks,0,none⟩:vP).add 5)=some (T k nl y):=λd s=>Q.cell s (j:=5) η;have ab:∀d,sub b (hp d)->d.cell? ((⟨ks,0,none⟩:vP).add 6)=some (T r F N):=λd s=>Q.cell s (j:=6) η;refine CJ ?_;refine⟨λf m n=>∃(j:Nat)(d:At),m=j/\j<=l/\f=(bK d:Int)-bK bs/\bK bs<=bK d/\d.length=bs.length/\(∀e,bt bs e=true->bt d e=true)/\qB nulls vss bs row=qB nulls vss d (row.drop j)/\HW nulls row=HW nulls (row.drop j)/\W n [cZ p d,has b],λ_ d _=>l-d.toNat,⟨0,bs,rfl,U,U,gP _,rfl,λ_ h=>h,V,V,P⟩,?_⟩;clear P;rintro _ _ bo ac⟨j,e,rfl,bu,rfl,bz,bE,bN,f,m,h⟩;have z:sub b (hp ac):=(h.pick 2 [1]).has;have bO:=dH e
 refine ae (λad=>?_) λad=>?_
 ·have C:j<l:=η
  obtain⟨d,bP,al,am,an⟩:=R.dy C;obtain⟨bT,c0⟩:=a6 d<|gg al;obtain⟨q,c1,ao,ap,av⟩:=x.dy (i:=d.toNat) (by have:=x.1;omega);obtain⟨v,az⟩:∃v,vss[d.toNat]? =some v:=⟨vss[d.toNat]'U,gn _⟩;obtain⟨n,c2,c3,aB,aK⟩:=t.dy (i:=d.toNat) (by have:=t.1;omega);have aR:vss.getD d.toNat []=v:=η
  have aS:bt nulls d.toNat=n:=by grind[bt,List.getD]
  have aV:row.drop j=d::row.drop (j+1):=by grind[List.drop_eq_getElem_cons,List.getElem?_eq_some_iff]
  refine au am C ⟨d,an _ z,_,_,_,ab _ z,?_⟩;have b0:d=((d.toNat:Nat):Int):=U
  rw[b0];refine au ap (by have:=x.1;omega) ⟨q,av _ z,ag h λb1 c4 b2=>?_⟩;have b3:=a7 _ _ _ ao az
  obtain⟨S,b4,b5⟩:∃o,(∀h,aL [ax b1 [.pointer q],has b] h->fm h q o\/(q=p/\o=e))/\dw e (jC o)=dw e (jC v):=by
   rcases b3 with I|⟨rfl,rfl⟩
   ·exact⟨v,λh X=>.inl<|I.mono (iL (A:=has b) (ou _<|List.mem_singleton_self _) X|>.elim λY o=>o.2.trans o.1),rfl⟩
   ·exact⟨e,λh o=>.inr ⟨rfl,rfl⟩,by grind[MA]⟩
  refine(UT (vss:=[S]) (os:=[q]) (l:=1) (b2.pick 3 [1,0,2]) (λh o=>?_) rfl (λh o i c5 c6 hi hw=>?_) (λh o=>?_) U).mono ?_
  ·obtain⟨b6,_,_,I,_,⟨X,Y⟩,_⟩:=o;exact(iJ (xs:=[q]) rfl (.inr ⟨_,rfl,j6 ⟨X,Y⟩⟩)).mono I
  ·match i,hi,hw with
   |0,hi,hw=>cases hi;cases hw;exact b4 h o
   |i+1,hi,_=>grind
  ·exact dX.mono (iL (A:=has b) (ou _<|List.mem_singleton_self _) o|>.elim λX I=>I.2.trans I.1) a8
  rintro _ b6⟨rfl,X⟩;have b7:dP e [S]=dw e (jC v):=b5;rw[b7] at X ⊢;have I:=X.pick 3 [0,2];have Y:sub b (hp b6):=(I.pick 2 [1]).has;have c7:=uu e<|jC v;have b9:=dH<|dw e<|jC v;rw[bF] at b9;rw[aV] at f m;rw[MQ,aR,aS] at f;rw[show HW nulls (d::row.drop (j+1))=(n&&HW nulls (row.drop<|j+1)) from by grind[HW]] at m;refine⟨_,rfl,ξ,_,_,_,aa _ Y,?_⟩
  refine au aB (by have:=t.1;omega) ⟨n,aK _ Y,ae (λba=>?_) λba=>?_⟩
  ·have bb:n=false:=G
   subst bb;simp only[o8,if_false] at f
   refine⟨?_,?_⟩
   ·grind
   ·rw[f];exact a9 _ _ I
  ·have bb:n=true:=G
   subst bb;simp only[if_true] at f;rw[oJ] at m;refine⟨ξ,⟨j+1,dw e<|jC v,V,U,U,U,by grind[bF],λc8 c9=>by grind[iK],f,m,I⟩,bS C⟩
 ·have d:j=l:=G
  subst d;rw[List.drop_of_length_le (by have:=R.1;omega)] at f m;rw[Q6] at f
  refine⟨?_,?_⟩
  ·rw[f,m];rfl
  simp_all
end
end Go.Proofs.YtaoaemnefghnbaaGreatDoor
