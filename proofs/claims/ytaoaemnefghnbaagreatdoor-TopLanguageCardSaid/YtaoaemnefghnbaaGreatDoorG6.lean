/- A part of the claim. -/
import Derived.Test.YtaoaemnefghnbaaGreatDoorG2
import Derived.Test.YtaoaemnefghnbaaGreatDoorG5
import Derived.Test.YtaoaemnefghnbaaGreatDoorG4
import Derived.Test.YtaoaemnefghnbaaGreatDoorG3
set_option linter.unusedVariables false
set_option linter.unusedSectionVars false
set_option maxRecDepth 100000
set_option maxHeartbeats 16000000
namespace Go.Proofs.YtaoaemnefghnbaaGreatDoor
open Tryz
section
variable{a b c d:E}{i j k l m n o p:Nat}{A B C q:Int}{w:ga}{R:ah->WP}
theorem Ek(h:new w (ψ a i j b k l c m n A d o p) λa b=>χ b (Z a) λa=>kX 114 [a,O 2] b λc d e f b=>R (vU [T c d e,O f]) b):ρ 45 [φ a i j b k l c m n A d o p] w R:=rv func45 h
theorem Gh(h:new w (ψ a i j b k l c m n A d o p) λa b=>χ b (Z a) λa=>kX 114 [a,O 1] b λc d e f b=>R (vU [T c d e,O f]) b):ρ 105 [φ a i j b k l c m n A d o p] w R:=rv func105 h
theorem H6(h:new w (ψ a i j b k l c m n A d o p) λa b=>χ b (Z a) λc=>rE 213 [c] b λb c=>∃d e f,b=vU [Value.map d,O e,O f]/\br (f !=0) (R (vU [D,O f]) c) (τ [(9,jG),(23,aP)] λb f=>b none 0 0 0 c/\∀(_:ν) c g h i j,b c g h i j->bQ (i<e) (gp j (Z a) λe k l=>τ [(9,jG),(29,aP)] λa e=>a c g h 0 j/\∀(_:ν) l m n o p,a l m n o p->bQ (o<(k:Int)) (bg prog (Instr.lookup 369 (Value.map d) (vG [O i,O o]) false) p λb c=>∃d f g,b=T d f g/\bQ (B<=(f:Int)) (H c [O i,O o,T d f g] 90 λb c=>iT 83 l m n b c λd f g c=>K (o+1)/\nD a e d f g (o+1) c l m n o p) (K (o+1)/\nD a e l m n (o+1) c l m n o p)) (K (i+1)/\nD b f l m n (i+1) p c g h i j)) (R (vU [T c g h,O 0]) j))):ρ 114 [φ a i j b k l c m n A d o p,O B] w R:=rv func114 h ⟨[(6,[(9,jG),(23,aP)]),(9,[(9,jG),(29,aP)])],[],[],[]⟩
theorem Gj(h:new w (ψ a i j b k l c m n A d o p) λa b=>χ b (Z a) λc=>rE 41 [c] b λb c=>∃d e f g h i,b=vU [vG [T d e f,O g,O h],O i]/\H c [D,O 0,O 0] 76 λb c=>bC c (Z b) [T d e f,O g,O h] λc=>br (i !=0) (R (vU [Value.map none,O 0,O i]) c) (χ c (Z a) λd=>kX 42 [d] c λe f g h d=>br (h !=0) (R (vU [Value.map none,O 0,O h]) d) (new d (Obj.map (Array.mk []) 0) λc d=>gp d (Z b) λh i j=>gT 0 d λj k d l=>bQ (d<(i:Int)) (M h i d 2 λb=>∃e f g h i m,rA l b 2 [T e f g,T h i m]/\H l [D,D] 199 λb n=>bC n (Z b) [T e f g,T h i m] λe=>hU e b 1 λf g h=>gT 0 e λh i e m=>bQ (e<(g:Int)) (M f g e 2 λb=>∃f g,rA m b 2 [O f,O g]/\H m [O 0,O 0] 203 λb j=>bC j (Z b) [O f,O g] λf=>gX f (Z b) λg=>gp f (Z a) λj k l=>bQ (g<(k:Int)) (gX f (Z b) λa=>i_ f b 1 λg=>H f [O 1,O g] 170 λb f=>rE 296 [Value.map (some c),vG [O d,O a],T (some (Z b)) 1 1] f λa b=>a=vU []/\gx h i e b m) (gx h i e f m)) (gp m (Z b) λa e f=>iu 297 [T a e f,vG [O 0,O 1]] m λe b=>br e (H b [O 3,O 0] 170 λa b=>rE 296 [Value.map (some c),vG [O d,O 0],T (some (Z a)) 1 1] b λa b=>a=vU []/\gx j k d b l) (gx j k d b l))) (rE 298 [T e f g,vF 299 []] l λa d=>a=vU []/\gT 0 d λa g d h=>bQ (d<(f:Int)) (M e f d 3 λb=>∃e f i j k,rA h b 3 [O e,O f,T i j k]/\H h [O 0,O 0,D] 216 λb l=>bC l (Z b) [O e,O f,T i j k] λe=>hU e b 2 λf i j=>gT 0 e λj k e l=>bQ (e<(i:Int)) (M f i e 1 λa=>gX l a λd=>gX l (Z b) λa=>i_ l b 1 λf=>H l [O 2,O f] 170 λb f=>rE 296 [Value.map (some c),vG [O a,O d],T (some (Z b)) 1 1] f λa b=>a=vU []/\gx j k e b l) (gx a g d l h)) (gj h λa d=>gz d (Z b) λe f g=>R (vU [Value.map (some c),O (f:Int),O 0]) a))))):ρ 213 [φ a i j b k l c m n A d o p] w R:=rv func213 h ⟨[(9,[(37,aP)]),(12,[(45,aP)]),(22,[(81,aP)]),(25,[(88,aP)])],[],[],[]⟩
theorem Bj{F:Option Nat}(h:H w [O A,O B] 373 λb c=>∃d e,rA c (Z b) 2 [O d,O e]/\bg prog (Instr.mapEntry 369 (Value.map F) (vG [O d,O e])) c λb c=>∃d e f g,b=vU [T d e f,O g]/\rS (kR 86 [T d e f,T a i j]) c λa b=>∃c d e,a=T c d e/\bg prog (Instr.entryStore 369 (Value.map F) (O g) (T c d e)) b λ(_:Unit)(a:ga)=>R (vU []) a):ρ 296 [.map F,(.agg #[O A,O B]),T a i j] w R:=rv func296 h
abbrev sC:aM:=299
theorem Bl(h:H w [O A,O B,T a i j] 216 λa c=>H c [O C,O q,T b k l] 216 λb c=>i_ c a 1 λd=>i_ c b 1 λa=>K (d-a)/\R (O (d-a)) c):ρ 299 [(.agg #[O A,O B,T a i j]),(.agg #[O C,O q,T b k l])] w R:=rv func299 h
end
instance:oY jv:={ val:=λk=>.agg ⟨[O k.st,O k.tm]⟩,inj:=λa b h=>by cases a;simp_all,a:=jv.st,b:=jv.tm,val2:=λ_=>rfl,ext:=λk l h1 h2=>by cases k;simp_all }
def bR(x:aF):Ay:=[O x.kind,O x.to]
def dE(xs:List aF):Ay:=xs.flatMap bR
theorem pI(xs:List aF):(dE xs).length=xs.length*2:=qu (f:=bR) (n:=2) (λ_=>rfl) xs
theorem VD(xs a:List aF):dE (xs++a)=dE xs++dE a:=kr
instance:tV aF:={ n:=2,rd:=λ_ x vs=>vs=bR x,mono:=λ_ h=>h,len:=λh=>by rw[h];rfl }
def H7(ps:List (jv×Lq aF))(pt:Gd):Prop:=(ps.map Prod.fst).Nodup/\∀p,kQ p ps=K7 pt p
theorem H7.nil:H7 [] []:=⟨V,λp=>rfl⟩
theorem H7.put{ps:List (jv×Lq aF)}{b:Gd}(h:H7 ps b){p:jv}{a:aF}{q:Lq aF}(d:q.2=kQ p ps++[a]):H7 (qt p q ps) (b++[(p,a)]):=by
 refine⟨On _ h.1,λe=>?_⟩;rw[nX,Iw]
 by_cases c:e=p
 ·subst c;rw[gD rfl,d,h.2];simp[K7]
 ·rw[gv c,h.2]
  grind[K7,Kp]
section
variable{w:ga}{L:List aG}{g:B}{x:GA}
theorem Xg:sT prog yy eQ { name:="state",type:=eQ,offset:=0,embedded:=false,tag:="",pkgPath:="presage/table",byteOffset:=0 } { name:="term",type:=eQ,offset:=1,embedded:=false,tag:="",pkgPath:="presage/table",byteOffset:=8 } where
 ht:=by kernel_rfl
 hf:=by kernel_rfl
 hi:=bX
 ht0:=rfl
 ht1:=rfl
 n0:=V
 n1:=V
 o0:=rfl
 o1:=rfl
 sih:=Hy
theorem M5:yx prog yy jv:=yx.two Xg
theorem w_{b e:Nat}{ps:List (jv×Lq aF)}{c:Gd}{q t:Int}{a:aF}(h:W w (ax e (bR a)::hZ b (mV ps)::aT (mO 2 dE ps)::L))(f:H7 ps c)(n:c.length<=100000000):
  ρ 296 [.map (some b),.agg #[O q,O t],T (some (Z e)) 1 1] w λi j=>i=.tuple #[]/\∃d,H7 d (c++[(⟨q,t⟩,a)])/\W j (hZ b (mV d)::aT (mO 2 dE d)::L):=by
 refine Bj<|ag h λo p h=>⟨_,_,(af 0 h.l).at sZ rfl,?_⟩;refine(map_take (κ:=jv) aY (rfl:ai Ty _=.map _ _) M5 rfl rfl (h.pick 3 [2,0,1]) ⟨q,t⟩).mono ?_;rintro _ r⟨s,rfl,h⟩;obtain⟨d,v,k,l,g,m⟩:=we rfl (h.pick 4 [3,0,1,2]) ⟨q,t⟩
 have x:d.2.length<=c.length:=by
  rw[l,f.2];simp[K7,mr]
 rw[k] at g ⊢;refine⟨_,_,_,_,rfl,?_⟩;refine(aU (us:=dE d.2) (vs:=bR a) aY (rfl:ai Ty _=.slice _) (rfl:ai Ty _=.slice _) rfl rfl rfl (g.pick 5 [4,0,1,2,3]) rfl (by simp[aO,bR]) G U).mono ?_;rintro _ y⟨z,A,rfl,h⟩;refine⟨_,_,_,rfl,(Rb (h.pick 5 [3,0,2]) _).mono ?_⟩;rintro _ C h;rw[Al] at h;have h:=CA m (d.2++[a]) V (by rw[VD];rfl) h;exact⟨rfl,_,f.put η,h⟩
end
def pJ(l:Az):Int:=(0::l).getLast V
abbrev rN:=Option (Bool×List aF×Az)
def rQ(g:B)(A:Int->Int->aF)(G:Int->Int->Int)(t:Int)(k:Az->List aF->rN)(l:Az)(ms:List aF):rN:=
 if(A (pJ l) t).kind=1 then(if 64<=l.length then none else some (true,ms++[A (pJ l) t],l))
 else if(A (pJ l) t).kind=3 then some (true,ms++[A (pJ l) t],l)
 else if(A (pJ l) t).kind=2 then
  match g.prods[(A (pJ l) t).to.toNat]? with
  |some p=>if 64<=l.length-p.right.length then none else k (l.take (l.length-p.right.length)++[G (pJ (l.take (l.length-p.right.length))) (p.left-g.T)]) (ms++[A (pJ l) t])
  |none=>none
 else some (false,ms,l)
def X2(g:B)(A:Int->Int->aF)(G:Int->Int->Int)(t:Int):Nat->Az->List aF->rN
 |0=>rQ g A G t λ_ _=>none
 |n+1=>rQ g A G t (X2 g A G t n)
structure zQ(T:aC)(v:ah)(H:Hp)(A:Int->Int->aF)(G:Int->Int->Int):Prop where
 act:∀(w:ga)(q t:Int),sub H (hp w)->∃g cs,(callMethod (.iface T v) "presage/trial.action" (Array.mk [O q,O t])).run prog w=.ok (.enter g ⟨cs⟩) w/\jm prog Ev g cs w λu w'=>u=.agg ⟨bR (A q t)⟩/\Gr w w'
 tgt:∀(w:ga)(q n:Int),sub H (hp w)->∃g cs,(callMethod (.iface T v) "presage/trial.target" (Array.mk [O q,O n])).run prog w=.ok (.enter g ⟨cs⟩) w/\jm prog Ev g cs w λu w'=>u=O (G q n)/\Gr w w'
section
variable{w:ga}{p:dO}{x:PA}
theorem Ph(r:Xf (hp w) p x)(q t:Int):ρ mK [.agg ⟨x.cells⟩,O q,O t] w λd e=>d=.agg ⟨bR (bB p q t)⟩/\Gr w e:=by
 refine uO<|ag (W.all w) λf m g=>ag g λn b a=>?_;have h:Gr w b:=a.tail.aS
 have i:aj (hp b) (Z f) x.cells:=by
  obtain⟨k,c,j⟩:=a.tail.first;exact(j6 j).mono c
 refine⟨_,_,_,_,_,_,_,_,_,_,_,_,_,_,_,_,_,_,_,_,_,_,_,_,i.at sZ rfl,(OC (x:=x) (r.mono h) q t).mono ?_⟩;rintro _ o⟨rfl,j⟩;refine⟨_,_,rfl,aQ (a.gr j) rfl (by intro k c;simp at c;rcases c with rfl|rfl<;>rfl) λs c=>⟨_,_,?_,rfl,c.ahb⟩⟩;obtain⟨v,k,l⟩:=c.first;exact((j6 l).mono k).at sZ rfl
theorem PS(r:Xf (hp w) p x)(q n:Int):ρ mL [.agg ⟨x.cells⟩,O q,O n] w λd e=>d=O (cD p q n)/\Gr w e:=by
 refine uQ<|ag (W.all w) λf a b=>?_;have c:Gr w a:=b.aS
 have g:aj (hp a) (Z f) x.cells:=by
  obtain⟨j,h,i⟩:=b.first;exact(j6 i).mono h
 refine⟨_,_,_,_,_,_,_,_,_,_,_,_,_,_,_,_,_,_,_,_,_,_,_,_,g.at sZ rfl,(OG (x:=x) (r.mono c) q n).mono ?_⟩;rintro _ i⟨rfl,h⟩;exact⟨_,rfl,rfl,c.trans h⟩
theorem P9{H:Hp}(r:Xf H p x):zQ 379 (.agg ⟨x.cells⟩) H (bB p) (cD p) where
 act:=λw q t s=>⟨mK,[.agg ⟨x.cells⟩,O q,O t],by kernel_rfl,Ph (r.mono s) q t⟩
 tgt:=λw q n s=>⟨mL,[.agg ⟨x.cells⟩,O q,O n],by kernel_rfl,PS (r.mono s) q n⟩
end
def fV(n j:Nat):At:=Jo n λk=>decide (k<j)
theorem nk(n j:Nat):(fV n j).length=n:=ur _ _
theorem pX{n j:Nat}(h:j<=n)(k:Nat):bt (fV n j) k=decide (k<j):=by grind[fV,Ij]
theorem G_{n j:Nat}(h:j<n):dw (fV n j) [(j:Int)]=fV n (j+1):=by
 refine lV (by simp[bF,nk]) λk=>?_;rw[fl,nk,gE,pX U,pX U,lG]
 grind
theorem Rz{n:Nat}(h:n<=1000):Aa (n:Int) []=fV n 0:=by
 have a:Mv (n:Int)=n:=by grind[Mv]
 refine lV (by rw[NL,a,nk]) λb=>?_;simp[Aa,fl,gE,j7,pX]
def xN(bs:At)(row:Az):Bool:=row.all (kZ bs)
section
variable{w:ga}{L:List aG}{g:B}{x:GA}{a:E}{l c:Nat}{row:Az}{q:E}{bs:At}
theorem QA{a:vP}{s:Int}(b:w.cell? a=some (.pointer q))(h:fm (hp w) q bs):ρ iN [O s,.pointer (some a)] w λc d=>c=J (!kZ bs s)/\d=w:=by
 refine wj ?_;refine⟨_,b,(My h s).mono ?_⟩;simp
theorem QE{e:vP}(g:w.cell? e=some (.pointer q))(h:fm (hp w) q bs)(f:bf (hp w) row a l)(t:l<=4611686018427387904):ρ 90 [T a l c,.func (.func iN) #[] #[.pointer (some e)]] w λi j=>(∃n:Int,i=O n/\(decide (0<=n)= !xN bs row))/\j=w:=by
 refine bW ?_;refine⟨λn d=>∃b:Nat,n=b/\b<=l/\xN bs (row.take b)=true/\d=w,λn _=>l-n.toNat,⟨0,rfl,U,rfl,rfl⟩,?_⟩;rintro _ n v⟨b,rfl,x,k,rfl⟩
 refine ae (λm=>?_) λm=>?_
 ·have d:b<l:=η
  obtain⟨o,y,z,p,r⟩:=f.dy d;refine au p d ⟨o,r _ sZ,bn.2 ⟨rfl,(QA g h).mono ?_⟩⟩;rintro _ _⟨rfl,rfl⟩
  refine⟨_,rfl,ae (λs=>⟨⟨_,rfl,?_⟩,rfl⟩) λs=>⟨ξ,⟨b+1,V,U,?_,rfl⟩,bS d⟩⟩
  ·grind[xN,List.all_eq_false,List.mem_of_getElem?]
  simp_all[xN,cH,List.all_append]
 ·have d:b=l:=G
  subst d;rw[jy (by have:=f.1;omega)] at k
  simp_all
theorem xb{f:Int}(h:fm (hp w) q bs)(g:bf (hp w) row a l)(i:l<=4611686018427387904):ρ 173 [.agg #[.pointer q,O f],T a l c] w λj k=>j=J (xN bs row)/\Gr w k:=by
 refine A6 ?_;refine ag (W.all w) λm b d=>?_;have e:Gr w b:=d.aS
 have n:ρ 126 [T a l c,.func (.func iN) #[] #[.pointer (some ⟨m,0,none⟩)]] b λo p=>o=J (!xN bs row)/\p=b:=by
  refine cr ?_;refine(QE (d.cell 0) (h.mono e) (g.mono e) i).mono ?_
  simp_all
 refine n.mono ?_
 simp_all
theorem zT(v:gR (hp w) g x)(R:g.T<=65)(S:g.N<=65):ρ 259 [.agg ⟨x.cells⟩] w λy z=>∃a:Nat,y=.agg #[.pointer (some ⟨a,0,none⟩),O (g.T:Int)]/\W z (cZ (some ⟨a,0,none⟩) (fV (g.T+g.N) g.T)::all w):=by
 refine JW ?_;refine dZ v λX e A j b=>?_;have Y:g.T=x.tl:=j.t.1;have a0:g.N=x.nl:=j.n.1;have k:sub (hp w) (hp e):=A;have m:=W.all e;unfold Proofs.YtaoaemnefghnbaaGreatDoor.all at m;generalize a1:hp e=f at*;refine ag m λn a2 C=>λa3 F=>?_;have h:=C.drawn F;have o:(x.tl:Int)+(x.nl:Int)=((g.T+g.N:Nat):Int):=U
 refine⟨λw=>sub f<|hp w,aE 1 h.l,_,_,_,λw a=>b.c0 a,_,_,_,λw a=>b.c1 a,ξ,_,_,_,λw a=>b.c0 a,?_,?_⟩
 ·rw[o];refine(WE (xs:=[]) (l:=0) ((g.T+g.N:Nat):Int) (bA rfl (.inl rfl)) U).mono ?_;rintro _ Q⟨c,rfl,t⟩;have p:=t.fy h;refine⟨_,rfl,aE 2 p.l,ag p λq a4 a=>⟨aE 3 a.l,aQ a rfl (by simp[aO]) λa5 a=>?_⟩⟩;rw[Rz U] at a;refine⟨_,_,_,b.c0<|aE 3 a.l,?_⟩;refine⟨λi r=>∃d:Nat,i=d/\d<=g.T/\W r [cZ (some ⟨c,0,none⟩) (fV (g.T+g.N) d),ax q [.pointer (some ⟨c,0,none⟩),O (x.tl:Int)],ax n [u none,O 0],has f],λd _=>g.T-d.toNat,⟨0,rfl,U,a.pick 4 [1,0,2,3]⟩,?_⟩;clear a;rintro _ a6 I⟨d,rfl,a7,i⟩;have r:aj (hp I) ⟨q,0,none⟩ [.pointer (some ⟨c,0,none⟩),O (x.tl:Int)]:=af 1 i.l
  refine ae (λL=>?_) λL=>?_
  ·have N:d<g.T:=η
   refine⟨_,r.cell0 sZ,ag i λa8 a9 P=>?_⟩;refine(BB (xs:=[(d:Int)]) (l:=1) (P.pick 5 [1,0,2,3,4]) (λaa s=>bA rfl (.inr ⟨_,rfl,af 0 s⟩)) U).mono ?_;rintro _ aa⟨rfl,s⟩;rw[G_ U] at s;exact⟨_,rfl,ξ,⟨d+1,V,U,s.pick 5 [0,2,3,4]⟩,bS N⟩
  ·have N:d=g.T:=G
   subst N;refine⟨_,_,r.at sZ rfl,aQ (i.pick 4 [2,0,1,3]) rfl (by simp[aO]) λP s=>?_⟩;exact⟨_,_,s.row.at sZ rfl,c,G,(s.pick 4 [1,3]).fy (bM k)⟩
 ·refine ag h λp a4 q=>⟨aE 2 q.l,?_⟩;rw[o];refine(WE (xs:=[]) (l:=0) ((g.T+g.N:Nat):Int) (bA rfl (.inl rfl)) U).mono ?_;rintro _ a5⟨a,rfl,I⟩;have r:=I.fy q;refine⟨_,rfl,aE 3 r.l,aQ (r.pick 4 [1,0,2,3]) rfl (by simp[aO]) λa6 c=>?_⟩;rw[Rz U] at c;refine⟨_,_,_,b.c0<|aE 3 c.l,?_⟩;refine⟨λi s=>∃d:Nat,i=d/\d<=g.T/\W s [cZ (some ⟨a,0,none⟩) (fV (g.T+g.N) d),ax p [.pointer (some ⟨a,0,none⟩),O (x.tl:Int)],ax n [u none,O 0],has f],λd _=>g.T-d.toNat,⟨0,rfl,U,c.pick 4 [1,0,2,3]⟩,?_⟩;clear c;rintro _ a7 L⟨d,rfl,a8,i⟩;have s:aj (hp L) ⟨p,0,none⟩ [.pointer (some ⟨a,0,none⟩),O (x.tl:Int)]:=af 1 i.l
  refine ae (λN=>?_) λN=>?_
  ·have P:d<g.T:=η
   refine⟨_,s.cell0 sZ,ag i λa9 aa Q=>?_⟩;refine(BB (xs:=[(d:Int)]) (l:=1) (Q.pick 5 [1,0,2,3,4]) (λab t=>bA rfl (.inr ⟨_,rfl,af 0 t⟩)) U).mono ?_;rintro _ ab⟨rfl,t⟩;rw[G_ U] at t;exact⟨_,rfl,ξ,⟨d+1,V,U,t.pick 5 [0,2,3,4]⟩,bS P⟩
  ·have P:d=g.T:=G
   subst P;refine⟨_,_,s.at sZ rfl,aQ (i.pick 4 [2,0,1,3]) rfl (by simp[aO]) λQ t=>?_⟩;exact⟨_,_,t.row.at sZ rfl,a,G,(t.pick 4 [1,3]).fy (bM k)⟩
end
inductive Pd (g:B):Int->Prop
 |tm (t:Nat):t<g.T->Pd g (t:Int)
 |mk (p:aD):p∈g.prods->(∀s∈p.right,Pd g s)->Pd g p.left
def n9(g:B)(row:Az):Prop:=∀s∈row,Pd g s
inductive Us (g:B):Int->Prop
 |start:Pd g g.start->Us g g.start
 |zero:aw g->Pd g g.start->Us g (g.T:Int)
 |pr (p:aD) (s:Int):p∈g.prods->Us g p.left->n9 g p.right->s∈p.right->Us g s
theorem u_{g:B}(h:bL g):(g.T:Int)<=g.start/\g.start<(g.T:Int)+g.N:=by
 rcases h with⟨b,a,_⟩|⟨c,b,a,d,e,f,i,j⟩
 ·have:=a.2.2.2.2;omega
 ·have:=a.2.2.2.2;omega
theorem va{bs:At}{s:Int}(h:0<=s):kZ bs s=bt bs s.toNat:=by simp_all[kZ]
theorem Kt{g:B}{bs:At}{row:Az}(a:∀s∈row,0<=s/\s<(g.T:Int)+g.N):xN bs row=true↔∀s∈row,bt bs s.toNat=true:=by simp_all[xN,va]
def mS(g:B)(bs:At):Prop:=bs.length=g.T+g.N/\∀i,bt bs i=true↔Pd g (i:Int)
def rR(g:B)(bs:At):Prop:=bs.length=g.T+g.N/\∀i,bt bs i=true↔(i<g.T\/Us g (i:Int))
theorem mS.all{g:B}{bs:At}(h:mS g bs){row:Az}(c:∀s∈row,0<=s/\s<(g.T:Int)+g.N):xN bs row=true↔n9 g row:=by
 rw[Kt c]
 refine forall_congr' λs=>⟨λa b=>?_,λa b=>?_⟩
 ·have:=(h.2 _).1 (a b);grind
 ·exact(h.2 _).2 G
def mU(p:aD)(bs:At):At:=if xN bs p.right then dw bs [p.left] else bs
def Pt(may:At)(p:aD)(bs:At):At:=if kZ bs p.left&&xN may p.right then dw bs p.right else bs
theorem dm{bs:At}{xs:Az}{k:Nat}:bt (dw bs xs) k=true↔bt bs k=true\/(k<bs.length/\(k:Int)∈xs):=by
 rw[fl,gE,kj,jn,jV,List.contains_iff_mem]
def r5(g:B)(bs:At):Prop:=bs.length=g.T+g.N/\(∀i,bt bs i=true->Pd g (i:Int))/\∀t,t<g.T->bt bs t=true
theorem r5.step{g:B}(iG:Q8 g){p:aD}(hp:p∈g.prods){bs:At}(h:r5 g bs):r5 g (mU p bs):=by
 unfold mU
 split
 ·rename_i ha;obtain⟨hl,u⟩:=iG p hp;refine⟨by rw[bF];exact h.1,λi hi=>?_,λt ht=>dm.2<|.inl<|h.2.2 t ht⟩
  rcases dm.1 hi with hi|⟨_,hi⟩
  ·exact h.2.1 i hi
  ·rw[jA] at hi;rw[hi];refine .mk p hp λs hs=>?_;have:=h.2.1 _ ((Kt (g:=g) u).1 ha s hs)
   grind
 omega
theorem r5.all{g:B}(b:Q8 g){bs:At}(h:r5 g bs)(c:∀p∈g.prods,mU p bs=bs):mS g bs:=by
 refine⟨h.1,λd=>⟨h.2.1 d,λj=>?_⟩⟩
 have k:∀a,Pd g a->bt bs a.toNat=true:=λl a=>by
  induction a with
  |tm e f=>exact h.2.2 e f
  |mk p hp _ e=>
   obtain⟨m,f⟩:=b p hp;have i:xN bs p.right=true:=(Kt (g:=g) f).2 e;have:=c p hp;unfold mU at this;rw[gD i] at this;rw[<-this];exact dm.2 (.inr ⟨by rw[h.1];omega,G⟩)
 grind
def nb(g:B)(bs:At):Prop:=bs.length=g.T+g.N/\(∀i,bt bs i=true->i<g.T\/Us g (i:Int))/\(∀t,t<g.T->bt bs t=true)/\(Pd g g.start->bt bs g.start.toNat=true/\(aw g->bt bs g.T=true))
theorem nb.step{g:B}(iG:Q8 g){may:At}(hm:mS g may){p:aD}(hp:p∈g.prods){bs:At}(h:nb g bs):nb g (Pt may p bs):=by
 unfold Pt
 split
 ·rename_i ha;rw[jn] at ha;obtain⟨hl,O⟩:=iG p hp;refine⟨by rw[bF];exact h.1,λi hi=>?_,λt ht=>dm.2<|.inl<|h.2.2.1 t ht,λhs=>⟨dm.2<|.inl (h.2.2.2 hs).1,λhc=>dm.2<|.inl<|(h.2.2.2 hs).2 hc⟩⟩
  rcases dm.1 hi with hi|⟨_,hi⟩
  ·exact h.2.1 i hi
  ·have J:=ha.1;rw[va U] at J;have u:=h.2.1 _ J;rw[kU U] at u
   rcases u with u|u
   ·omega
   ·exact .inr (.pr p _ hp u ((hm.all O).1 ha.2) hi)
 omega
theorem nb.all{g:B}(a:bL g){b:At}(e:mS g b){bs:At}(h:nb g bs)(f:∀p∈g.prods,Pt b p bs=bs):rR g bs:=by
 obtain⟨i,m,n,o,q,r⟩:=EP a;have s:=u_ a;refine⟨h.1,λc=>⟨h.2.1 c,?_⟩⟩
 have t:∀d,Us g d->bt bs d.toNat=true:=λv d=>by
  induction d with
  |start hp=>exact(h.2.2.2 hp).1
  |zero j hp=>have:=(h.2.2.2 hp).2 j;simp_all
  |pr p w hp _ j x y=>
   obtain⟨z,k⟩:=i p hp;have:=f p hp;unfold Pt at this;have l:kZ bs p.left=true:=by grind[va]
   rw[gD (by rw[l,(e.all k).2 j];rfl)] at this;rw[<-this];exact dm.2 (.inr ⟨by rw[h.1];simp_all,G⟩)
 rintro(d|j)
 ·exact h.2.2.1 c d
 grind
section
variable{w:ga}{L:List aG}{g:B}{x:GA}{a:E}{l c:Nat}{row:Az}{q:E}{bs:At}
theorem Iy{H:Hp}{fg:aM}{fc:Ay}{J:At->Prop}{st:aD->At->At}{bs0:At}(hg:gR H g x)(hP:g.prods.length<=97)(hF:Fn fg=true)
  (hlen:∀p bs,(st p bs).length=bs.length) (hle:∀p bs k,bt bs k=true->bt (st p bs) k=true) (hJ:∀p∈g.prods,∀bs,J bs->J (st p bs)) (hb0:bs0.length<=1000)
  (hst:∀H',sub H H'->∀p∈g.prods,∀bs a l c w,J bs->bf H' p.right a l->W w [cZ q bs,has H']->ρ fg (.agg #[O p.left,T a l c,O p.level]::fc) w λv w'=>v=O ((bK (st p bs):Int)-bK bs)/\W w' [cZ q (st p bs),has H'])
  (hJ0:J bs0) (h:W w [cZ q bs0,has H]):ρ 260 [.agg ⟨x.cells⟩,.func (.func fg) #[] ⟨fc⟩] w λv w'=>v=.tuple #[]/\∃bs,J bs/\bs.length=bs0.length/\(∀p∈g.prods,st p bs=bs)/\W w' [cZ q bs,has H]:=by
 refine HU ?_;refine ag h λk1 w1 h1=>?_;obtain⟨Z,a6,_,h⟩:=h1.swap.freeze;have sH:sub H Z:=aE 1 a6;have B:GB Z k1 x:=Y6<|af 0 a6;have hg:=hg.mono sH;have pl:=hg.p.1;clear h1;have aa:∀p bs,bK bs<=bK (st p bs):=λp bs=>by simp_all[bK,Ak]
 obtain⟨Q,hQ⟩:=su (λ(n:Int)(w:ga)(m:Nat)=>∃bs:At,J bs/\bs.length=bs0.length/\0<=n/\m=EO bs+(if 0<n then 1 else 0)/\(n=0->∀p∈g.prods,st p bs=bs)/\W w [cZ q bs,has Z]);obtain⟨μ,a9,am⟩:=zv (λ(y:Int×ga) m=>Q y.1 y.2 m)
 refine⟨λn w'=>∃m,Q n w' m,λn w=>μ (n,w),⟨EO bs0+1,?_⟩,?_⟩
 ·rw[hQ]
  grind
 clear h;intro _ n w2 o;have o:=am (n,w2) o;dsimp only at o;generalize hμ:μ (n,w2)=μ0 at*;rw[hQ] at o;obtain⟨bs,a4,Y,hn,az,hc,h⟩:=o;refine ae (λu=>?_) λu=>?_
 rotate_left
 ·have u:=hY u;exact⟨rfl,bs,a4,Y,hc U,h.fy<|bM sH⟩
 have u:=gZ u;rw[gD u] at az;refine⟨_,_,_,B.c4<|aE 1 h.l,λn m w'=>∃(j:Nat)(cs:At),m=j/\j<=g.prods.length/\J cs/\cs.length=bs0.length/\n=(bK cs:Int)-bK bs/\(∀k,bt bs k=true->bt cs k=true)/\(cs=bs->∀p∈g.prods.take j,st p bs=bs)/\W w' [cZ q cs,has Z],λ_ m _=>g.prods.length-m.toNat,⟨0,bs,rfl,U,a4,Y,U,λ_ h=>h,V,h⟩,?_⟩;clear h;rintro _ n2 n3 w3⟨j,cs,rfl,hj,X,f,rfl,b,a0,h⟩;have aV:bK bs<=bK cs:=by unfold bK;rw[f,Y];exact(Ak b _).1
 have b1:=dH cs;have aR:=dH bs;refine ae (λd=>?_) λd=>?_
 rotate_left
 ·have d:j=g.prods.length:=G
  subst d;rw[jl] at a0
  have key:Q ((bK cs:Int)-bK bs) w3 (EO cs+(if(0:Int)<(bK cs:Int)-bK bs then 1 else 0)):=by
   rw[hQ];refine⟨cs,X,f,U,rfl,λh0=>?_,h⟩;have e:cs=bs:=J7 U b U
   grind
  refine⟨⟨_,key⟩,?_⟩;have:=a9 (_,w3) _ key
  grind[EO]
 have d:j<g.prods.length:=G
 obtain⟨p,ad,vs,aK,av,a7,ra,rl,rc,rfl,b2,a8⟩:=hg.p.get (i:=j) U;have a5:=gg aK;have et:g.prods.take (j+1)=g.prods.take j++[p]:=by grind[List.take_add_one]
 refine aI av U ⟨_,_,_,_,_,a7.at (aE 1 h.l) rfl,ag h λk6 w4 h=>aQ h rfl (by simp[aO]) λw5 h=>⟨_,_,_,_,_,h.row.at sZ rfl,bn.2 ⟨hF,?_⟩⟩⟩;have h:W w5 [cZ q cs,has Z]:=h.pick 3 [1,2];refine(hst Z sH p a5 cs ra rl rc w5 X a8 h).mono ?_;rintro _ w6⟨rfl,h⟩;have h3:=aa p cs;have h4:=dH<|st p cs;rw[hlen] at h4;refine⟨_,rfl,ξ,ξ,⟨j+1,st p cs,V,U,hJ p a5 cs X,G,U,λk hk=>hle p cs k<|b k hk,λe r hr=>?_,h⟩,bS d⟩
 have e1:cs=bs:=by
  refine J7 U b ?_
  grind
 grind
theorem QI{H:Hp}{d:Nat}{m:Int}{p:aD}(y:p.right.length<=17592186043904)(e:aj H ⟨d,0,none⟩ [.pointer q,O m])(f:bf H p.right a l)(h:W w [cZ q bs,has H]):
  ρ mM [.agg #[O p.left,T a l c,O p.level],.pointer (some ⟨d,0,none⟩)] w λn o=>n=O ((bK (mU p bs):Int)-bK bs)/\W o [cZ q (mU p bs),has H]:=by
 refine uX ?_;have z:=f.1;refine ag h λr b h=>?_;have g:sub H (hp b):=aE 2 h.l;have i:aj (hp b) ⟨r,0,none⟩ [O p.left,T a l c,O p.level]:=af 0 h.l;have s:fm (hp b) q bs:=h.swap.fm;refine⟨_,_,e.at g rfl,_,_,_,i.cell sZ (j:=1) rfl,(xb s (f.mono g) U).mono ?_⟩;rintro _ A⟨rfl,k⟩;have h:=h.gr k
 refine⟨_,rfl,ae (λt=>?_) λt=>?_⟩
 ·have v:xN bs p.right=false:=η
  unfold mU;rw[v];exact⟨V,h.pick 3 [1,2]⟩
 ·have v:xN bs p.right=true:=η
  refine⟨_,e.cell0<|aE 2 h.l,_,(i.mono k).cell0 sZ,ag h λC F h=>?_⟩;refine(BB (xs:=[p.left]) (l:=1) (h.pick 4 [2,0,3]) (λh x=>bA rfl (.inr ⟨_,rfl,af 0 x⟩)) U).mono ?_;rintro _ x⟨rfl,h⟩;unfold mU;rw[gD v];exact⟨_,rfl,rfl,h.pick 3 [0,2]⟩
theorem TV{H:Hp}{i k:Nat}{r s:Int}{m:E}{b:At}{p:aD}(P:p.right.length<=17592186043904)(n:aj H ⟨i,0,none⟩ [.pointer q,O r])(t:aj H ⟨k,0,none⟩ [.pointer m,O s])(v:fm H m b)(e:bf H p.right a l)(h:W w [cZ q bs,has H]):
  ρ im [.agg #[O p.left,T a l c,O p.level],.pointer (some ⟨i,0,none⟩),.pointer (some ⟨k,0,none⟩)] w λx y=>x=O ((bK (Pt b p bs):Int)-bK bs)/\W y [cZ q (Pt b p bs),has H]:=by
 refine A8 ?_;have Q:=e.1;refine ag h λz f h=>?_;have d:sub H (hp f):=aE 2 h.l;have g:aj (hp f) ⟨z,0,none⟩ [O p.left,T a l c,O p.level]:=af 0 h.l;have A:fm (hp f) q bs:=h.swap.fm;refine⟨_,n.cell0 d,_,g.cell0 sZ,(My A p.left).mono ?_⟩;rintro _ _⟨rfl,rfl⟩
 refine⟨_,rfl,ae (λC=>?_) λC=>?_⟩
 ·have o:kZ bs p.left=false:=η
  unfold Pt;rw[o,Bool.false_and,gv V];exact⟨V,h.pick 3 [1,2]⟩
 have F:kZ bs p.left=true:=η
 refine⟨_,_,t.at d rfl,_,_,_,g.cell sZ (j:=1) rfl,(xb (v.mono d) (e.mono d) U).mono ?_⟩;rintro _ R⟨rfl,o⟩;have h:=h.gr o
 refine⟨_,rfl,ae (λI=>?_) λI=>?_⟩
 ·have L:xN b p.right=false:=η
  unfold Pt;rw[L,Bool.and_false,gv V];exact⟨V,h.pick 3 [1,2]⟩
 ·have L:xN b p.right=true:=η
  refine⟨_,n.cell0<|aE 2 h.l,_,_,_,(g.mono o).cell sZ (j:=1) rfl,?_⟩;refine(BB (xs:=p.right) (l:=l) (h.pick 3 [1,2]) (λh N=>e.mono<|aE 0 N) U).mono ?_;rintro _ N⟨rfl,h⟩;unfold Pt;rw[F,L,Bool.and_self,gD rfl];exact⟨_,rfl,rfl,h⟩
end
def wU(T N:Nat)(ks:A0):At:=Jo N λk=>decide (k<N)&&decide (T+k∈ks)
theorem lB(a N:Nat)(ks:A0):(wU a N ks).length=N:=ur _ _
theorem vb{a N:Nat}{ks:A0}(k:Nat):bt (wU a N ks) k=(decide (k<N)&&decide (a+k∈ks)):=by grind[wU,Ij]
theorem Ku{a N m:Nat}{ks:A0}(h:m<a):wU a N (ks++[m])=wU a N ks:=
 lV (by simp[lB]) λb=>by
  rw[vb,vb,lG]
  grind
theorem Kv{a N m:Nat}{ks:A0}(h:a<=m)(b:m<a+N):(wU a N ks).set (m-a) true=wU a N (ks++[m]):=
 lV (by simp[lB]) λc=>by
  rw[qC (by grind[lB]),vb,vb,lG]
  grind
theorem Gk{a N:Nat}{bs:At}(h:bs.length=a+N):wU a N (mb bs)=bs.drop a:=
 lV (by grind[lB,List.length_drop]) λc=>by
  rw[vb,fU,lG]
  simp only[jn,jV,vx]
  exact⟨λh=>h.2,λb=>⟨by have:=NO b;omega,b⟩⟩
theorem Gl(a N:Nat):wU a N []=List.replicate N false:=
 lV (by rw[lB,oF]) λb=>by simp[vb,j7]
section
variable{w:ga}{L:List aG}{g:B}{x:GA}{a:E}{l c:Nat}{row:Az}{q:E}{bs:At}
theorem wD(n:gR (hp w) g x)(o:jq g)(p:bL g):ρ 167 [.agg ⟨x.cells⟩] w λq r=>∃(a:Nat)(bs:At),q=.agg #[.pointer (some ⟨a,0,none⟩),O (g.T:Int)]/\mS g bs/\W r (cZ (some ⟨a,0,none⟩) bs::all w):=by
 refine zl ?_;refine dZ n λa0 b s h i=>?_;obtain⟨j,t,v,a1,a2,y⟩:=EP p;have z:sub (hp w) (hp b):=s;have k:=W.all b;unfold Proofs.YtaoaemnefghnbaaGreatDoor.all at k;generalize a3:hp b=a4 at*;refine ag k λa5 a6 c=>?_;refine⟨_,_,_,_,_,_,_,_,_,_,_,_,_,i.row<|aE 1 c.l,(zT (x:=x) (h.mono<|aE 1 c.l) t v).mono ?_⟩;rintro _ a7⟨d,rfl,A⟩;have C:=A.fy c;refine⟨_,_,rfl,ag C λe a8 a=>aQ a rfl (by simp[aO]) λa9 a=>?_⟩;refine⟨_,_,_,_,_,_,_,_,_,_,_,_,_,i.row<|aE 3 a.l,?_⟩;obtain⟨F,f,_,I⟩:=(a.pick 4 [1,0,2,3]).freeze;have L:aj F ⟨e,0,none⟩ [.pointer (some ⟨d,0,none⟩),O (g.T:Int)]:=af 0 f
 refine(Iy (J:=r5 g) (st:=mU) (fg:=mM) (fc:=[.pointer (some ⟨e,0,none⟩)]) (h.mono<|aE 2 f) y rfl (λl bs=>by grind[mU,bF]) (λl bs m N=>by grind[mU,dm]) (λm hp bs l=>l.step j hp) (by grind[nk]) (λQ l m hp bs R S X w Y N P=>QI (o.2.2.2.2.2.2 m hp) (L.mono l) N P) ⟨nk _ _,λN P=>?_,λaa ab=>?_⟩ I).mono ?_
 ·rw[pX U] at P;exact .tm N η
 ·simp_all[pX]
 rintro _ Q⟨rfl,bs,R,_,S,X⟩;have l:=X.fy f;have Y:aj (hp Q) ⟨e,0,none⟩ [.pointer (some ⟨d,0,none⟩),O (g.T:Int)]:=af 1 l.l;refine⟨rfl,_,_,Y.at sZ rfl,aQ (l.pick 4 [2,0,3]) rfl (by simp[aO]) λac m=>⟨_,_,m.row.at sZ rfl,d,bs,rfl,R.all j S,(m.pick 3 [1,2]).fy (bM z)⟩⟩
theorem Kw{k:At}(a5:gR (hp w) g x)(r:jq g)(n:bL g)(a6:fm (hp w) q k)(f:mS g k):ρ 169 [.agg ⟨x.cells⟩,.agg #[.pointer q,O (g.T:Int)]] w λa7 a8=>∃(a:Nat)(bs:At),a7=.agg #[.pointer (some ⟨a,0,none⟩),O (g.T:Int)]/\rR g bs/\W a8 (cZ (some ⟨a,0,none⟩) bs::all w):=by
 refine FV ?_;refine dZ a5 λbc C a9 h i=>?_;obtain⟨F,aa,ab,bd,be,I⟩:=EP n;obtain⟨bi,bl⟩:=u_ n;have bo:g.T=x.tl:=h.t.1;have s:sub (hp w) (hp C):=a9;have t:=a6.mono s;have P:=W.all C;unfold Proofs.YtaoaemnefghnbaaGreatDoor.all at P;have Q:=h.s;generalize bu:hp C=ac at*;refine ag P λd bz o=>ag o λad bE o=>?_;refine⟨_,_,_,_,_,_,_,_,_,_,_,_,_,i.row<|aE 2 o.l,(zT (x:=x) (h.mono<|aE 2 o.l) aa ab).mono ?_⟩;rintro _ bN⟨a,rfl,al⟩;have am:=al.fy o;refine⟨_,_,rfl,ag am λc bO L=>aQ L rfl (by simp[aO]) λR L=>?_⟩;have an:W R [ax c [.pointer (some ⟨a,0,none⟩),O (g.T:Int)],cZ (some ⟨a,0,none⟩)<|fV (g.T+g.N) g.T,ax ad [u none,O 0],ax d [.pointer q,O (g.T:Int)],has ac]:=L;have e:=an.pick 5 [1,0,3,2,4];have v:(fV (g.T+g.N) g.T).length=g.T+g.N/\(∀m,bt (fV (g.T+g.N) g.T) m=true->m<g.T\/Us g (m:Int))/\∀m,m<g.T->bt (fV (g.T+g.N) g.T) m=true:=by simp_all[nk,pX]
 have ao:R.cell? ⟨d,0,none⟩=some (.pointer q):=(af (b:=d) (vs:=[.pointer q,O (g.T:Int)]) 2 e.l).cell0 sZ;refine⟨_,ao,_,i.c3<|aE 4 e.l,?_⟩;rw[Q];refine(My (t.mono<|aE 4 e.l) g.start).mono ?_;rintro _ ap⟨rfl,rfl⟩
 have av:kZ k g.start=true↔Pd g g.start:=by
  rw[va U,f.2,kU U]
 refine⟨_,rfl,ae (λS=>?_) λS=>?_⟩
 ·have X:=av.1 S;have az:aj (hp ap) ⟨c,0,none⟩ [.pointer (some ⟨a,0,none⟩),O (g.T:Int)]:=af 1 e.l;refine⟨_,az.cell0 sZ,_,i.c3<|aE 4 e.l,ag e λbP bT aB=>?_⟩;refine(BB (xs:=[x.s]) (l:=1) (aB.pick 6 [1,0,2,3,4,5]) (λp m=>bA rfl (.inr ⟨_,rfl,af 0 m⟩)) U).mono ?_;rintro _ c0⟨rfl,aK⟩;have y:=aK.pick 6 [0,2,3,4,5];rw[Q] at y;refine⟨_,rfl,_,_,_,_,_,_,_,_,_,_,_,_,_,i.row<|aE 4 y.l,(uy (x:=x) (h.mono<|aE 4 y.l) r).mono ?_⟩;rintro _ aR⟨⟨c1,rfl,aS⟩,aV⟩;have z:=y.gr aV
  have m:(dw (fV (g.T+g.N) g.T) [g.start]).length=g.T+g.N/\(∀p,bt (dw (fV (g.T+g.N) g.T) [g.start]) p=true->p<g.T\/Us g (p:Int))/\(∀p,p<g.T->bt (dw (fV (g.T+g.N) g.T) [g.start]) p=true)/\bt (dw (fV (g.T+g.N) g.T) [g.start]) g.start.toNat=true:=by
   refine⟨by simp_all[bF],λY A=>?_,λp N=>dm.2<|.inl<|v.2.2 p N,dm.2<|.inr ⟨U,G⟩⟩
   rcases dm.1 A with p|⟨_,p⟩
   ·simp_all
   ·rw[jA] at p;exact .inr (p▸.start X)
  generalize dw (fV (g.T+g.N) g.T) [g.start]=A at*
  refine⟨_,rfl,ae (λY=>?_) λY=>?_⟩
  ·have b0:=aS.1 Y;have a0:aj (hp aR) ⟨c,0,none⟩ [.pointer (some ⟨a,0,none⟩),O (g.T:Int)]:=af 1 z.l;refine⟨_,a0.cell0 sZ,_,a0.cell sZ (j:=1) rfl,ag z λc2 c3 b1=>?_⟩;refine(BB (xs:=[(g.T:Int)]) (l:=1) (b1.pick 6 [1,0,2,3,4,5]) (λN p=>bA rfl (.inr ⟨_,rfl,af 0 p⟩)) U).mono ?_;rintro _ c4⟨rfl,b2⟩;have a1:=b2.pick 6 [0,2,3,4,5]
   have a2:nb g (dw A [(g.T:Int)]):=by
    refine⟨by simp_all[bF],λa4 N=>?_,λp a3=>dm.2<|.inl<|m.2.2.1 p a3,λ_=>⟨dm.2<|.inl m.2.2.2,λ_=>dm.2<|.inr ⟨U,V⟩⟩⟩
    rcases dm.1 N with p|⟨_,p⟩
    ·simp_all
    ·rw[jA] at p;exact .inr (p▸.zero b0 X)
   generalize dw A [(g.T:Int)]=c5 at*;refine⟨_,rfl,?_⟩;refine⟨_,_,_,_,_,_,_,_,_,_,_,_,_,i.row<|aE 4 a1.l,?_⟩;obtain⟨a3,p,_,b3⟩:=a1.freeze;have b4:aj a3 ⟨c,0,none⟩ [.pointer (some ⟨a,0,none⟩),O (g.T:Int)]:=af 0 p;have b5:aj a3 ⟨d,0,none⟩ [.pointer q,O (g.T:Int)]:=af 1 p;have c6:=a2.1;refine(Iy (J:=nb g) (st:=Pt k) (fg:=im) (fc:=[.pointer (some ⟨c,0,none⟩),.pointer<|some ⟨d,0,none⟩]) (h.mono<|aE 3 p) I rfl (λN bs=>by grind[Pt,bF]) (λN bs a4 b6=>by grind[Pt,dm]) (λa4 hp bs N=>N.step F f hp) U (λb9 N a4 hp bs ba l bb w c7 b6 b7=>TV (r.2.2.2.2.2.2 a4 hp) (b4.mono N) (b5.mono N) (t.mono<|sub.trans (aE 3 p) N) b6 b7) a2 b3).mono ?_;rintro _ b6⟨rfl,bs,b7,_,b9,ba⟩;have N:=ba.fy p;have bb:aj (hp b6) ⟨c,0,none⟩ [.pointer (some ⟨a,0,none⟩),O (g.T:Int)]:=af 1 N.l;exact⟨rfl,_,_,bb.at sZ rfl,aQ (N.pick 5 [3,0,4]) rfl (by simp[aO]) λc7 a4=>⟨_,_,a4.row.at sZ rfl,a,bs,rfl,b7.all n f b9,(a4.pick 3 [1,2]).fy (bM s)⟩⟩
  ·have a0:nb g A:=⟨m.1,m.2.1,m.2.2.1,λ_=>⟨m.2.2.2,λp=>η⟩⟩;generalize A=b6 at*;refine⟨_,_,_,_,_,_,_,_,_,_,_,_,_,i.row<|aE 4 z.l,?_⟩;obtain⟨a1,p,_,a3⟩:=z.freeze;have a4:aj a1 ⟨c,0,none⟩ [.pointer (some ⟨a,0,none⟩),O (g.T:Int)]:=af 0 p;have b0:aj a1 ⟨d,0,none⟩ [.pointer q,O (g.T:Int)]:=af 1 p;have b7:=a0.1;refine(Iy (J:=nb g) (st:=Pt k) (fg:=im) (fc:=[.pointer (some ⟨c,0,none⟩),.pointer<|some ⟨d,0,none⟩]) (h.mono<|aE 3 p) I rfl (λN bs=>by grind[Pt,bF]) (λN bs a2 b1=>by grind[Pt,dm]) (λa2 hp bs N=>N.step F f hp) U (λb3 N a2 hp bs b4 l b5 w b9 b1 b2=>TV (r.2.2.2.2.2.2 a2 hp) (a4.mono N) (b0.mono N) (t.mono<|sub.trans (aE 3 p) N) b1 b2) a0 a3).mono ?_;rintro _ b1⟨rfl,bs,b2,_,b3,b4⟩;have N:=b4.fy p;have b5:aj (hp b1) ⟨c,0,none⟩ [.pointer (some ⟨a,0,none⟩),O (g.T:Int)]:=af 1 N.l;exact⟨rfl,_,_,b5.at sZ rfl,aQ (N.pick 5 [3,0,4]) rfl (by simp[aO]) λb9 a2=>⟨_,_,a2.row.at sZ rfl,a,bs,rfl,b2.all n f b3,(a2.pick 3 [1,2]).fy (bM s)⟩⟩
 ·have y:nb g (fV (g.T+g.N) g.T):=⟨v.1,v.2.1,v.2.2,λm=>η⟩
  ·generalize fV (g.T+g.N) g.T=az at*;refine⟨_,_,_,_,_,_,_,_,_,_,_,_,_,i.row<|aE 4 e.l,?_⟩;obtain⟨z,m,_,N⟩:=e.freeze;have X:aj z ⟨c,0,none⟩ [.pointer (some ⟨a,0,none⟩),O (g.T:Int)]:=af 0 m;have Y:aj z ⟨d,0,none⟩ [.pointer q,O (g.T:Int)]:=af 1 m;have aB:=y.1;refine(Iy (J:=nb g) (st:=Pt k) (fg:=im) (fc:=[.pointer (some ⟨c,0,none⟩),.pointer<|some ⟨d,0,none⟩]) (h.mono<|aE 3 m) I rfl (λp bs=>by grind[Pt,bF]) (λp bs A a0=>by grind[Pt,dm]) (λA hp bs p=>p.step F f hp) U (λa2 p A hp bs a3 l a4 w aK a0 a1=>TV (r.2.2.2.2.2.2 A hp) (X.mono p) (Y.mono p) (t.mono<|sub.trans (aE 3 m) p) a0 a1) y N).mono ?_;rintro _ a0⟨rfl,bs,a1,_,a2,a3⟩;have p:=a3.fy m;have a4:aj (hp a0) ⟨c,0,none⟩ [.pointer (some ⟨a,0,none⟩),O (g.T:Int)]:=af 1 p.l;exact⟨rfl,_,_,a4.at sZ rfl,aQ (p.pick 5 [3,0,4]) rfl (by simp[aO]) λaK A=>⟨_,_,A.row.at sZ rfl,a,bs,rfl,a1.all n f a2,(A.pick 3 [1,2]).fy (bM s)⟩⟩
theorem AB{N a:Nat}(h:fm (hp w) q bs)(l:bs.length=a+N)(aa:N<=65)(ab:a<=65)(m:ec (hp w)):ρ 174 [.agg #[.pointer q,O (a:Int)]] w λA C=>∃k:Nat,A=T (some ⟨k,0,none⟩) N N/\W C (ax k (bv (bs.drop a))::all w):=by
 refine zo ?_;have ac:sub (hp w) (hp w):=sZ;have s:=W.all w;unfold Proofs.YtaoaemnefghnbaaGreatDoor.all at s;generalize ad:hp w=F at*;refine ag s λt al I=>λn L=>?_;have v:=I.drawn L;have P:aj (hp n) ⟨t,0,none⟩ [.pointer q,O (a:Int)]:=af 0 v.l;obtain⟨c,o⟩:=su<|hp n;have d:sub F c:=o▸aE 1 v.l;have b:aj c ⟨t,0,none⟩ [.pointer q,O (a:Int)]:=o▸P;have e:=h;have x:((bs.length:Nat):Int)-(a:Int)=(N:Int):=U
 have f:W n [has c]:=by simp_all[W.all]
 refine⟨λw=>sub c<|hp w,o▸sZ,_,λw g=>b.cell0 g,_,λw g=>b.cell g (j:=1) rfl,?_,?_⟩
 ·refine(NN<|e.mono<|sub.trans d<|aE 0 f.l).mono ?_;rintro _ _⟨rfl,rfl⟩;refine⟨_,rfl,?_⟩
  try dsimp only
  rw[x]
  refine⟨aE 0 f.l,ξ,?_,?_⟩
  ·refine⟨⟨U,rfl,U⟩,?_⟩;rw[je,de,J_];refine ag f λp am h=>ag h λQ an h=>⟨aE 2 h.l,aX h V λao h=>⟨_,b.cell0<|aE 2 h.l,?_⟩⟩;have h:=h.pick 3 [0,1,2];refine(Mz<|e.mono<|sub.trans d<|aE 2 h.l).mono ?_;rintro _ ap⟨R,rfl,S⟩;have h:=S.fy h
   refine⟨_,_,rfl,bn.2 ⟨rfl,tU<|mb bs,YM R bs.length<|bt bs,ec,λg=>aT [ax Q [T (some ⟨p,0,none⟩) N N],ax p<|bv<|wU a N<|(mb bs).take g],pu False,λ_=>pu False,[has c],?_,λh g=>dX.mono (sub.trans d<|aE 0 g) m,pV,?_,?_,?_,?_,trivial⟩⟩
   ·dsimp only;rw[List.take_zero,Gl];exact W.flat.2 (h.pick 4 [1,2,0,3])
   ·intro i g;simp only[tU,iz] at g
    grind
   ·intro g y X av az _ Y;refine⟨_,Y,λaB a0 a1 a2=>?_⟩;have r:=W.flat.1 a2;have a3:(tU<|mb bs)[g]? =some [O y]:=X
    obtain⟨i,a4,rfl⟩:∃k,(mb bs)[g]? =some k/\y=(k:Int):=by
     unfold tU at a3
     grind
    have a5:=vx.1<|gg a4;have aK:=NO a5;have a6:(mb bs).take (g+1)=(mb bs).take g++[i]:=by simp_all[iw]
    have z:sub c (hp a0):=aE 0 (a1 _ r.tail.tail)
    refine⟨_,b.cell z (j:=1) rfl,ae (λa7=>?_) λa7=>?_⟩
    ·have a8:a<=i:=η
     have a9:(i:Int)-(a:Int)=((i-a:Nat):Int):=U
     refine⟨_,_,_,r.cell 0,_,b.cell z (j:=1) rfl,ξ,?_⟩;rw[a9];refine au rfl U ?_;rw[ak];refine aX r.swap (by grind[m_,lB]) λaR h=>?_;rw[Am,Kv a8 U,<-a6] at h;exact W.flat.2 h.swap
    grind[of_decide_eq_false,Ku,W.flat]
   ·intro X i;have g:=W.flat.1 i;have r:(tU<|mb bs).length=(mb bs).length:=by simp[tU]
    rw[r,jl,Gk l] at g;refine⟨_,_,_,g.cell 0,λY y=>⟨p,rfl,?_⟩⟩;have z:=g.eq y;exact(z.pick 4 [1,3]).fy (bM η)
   simp[W.pu]
  ·refine ag f λQ am h=>⟨aE 1 h.l,⟨U,rfl,U⟩,?_⟩;rw[je,de,J_];refine ag h λp an h=>aX h.swap V λao h=>⟨_,b.cell0<|aE 2 h.l,?_⟩;refine(Mz<|e.mono<|sub.trans d<|aE 2 h.l).mono ?_;rintro _ ap⟨R,rfl,S⟩;have h:=S.fy h
   refine⟨_,_,rfl,bn.2 ⟨rfl,tU<|mb bs,YM R bs.length<|bt bs,ec,λg=>aT [ax Q [T (some ⟨p,0,none⟩) N N],ax p<|bv<|wU a N<|(mb bs).take g],pu False,λ_=>pu False,[has c],?_,λh g=>dX.mono (sub.trans d<|aE 0 g) m,pV,?_,?_,?_,?_,trivial⟩⟩
   ·dsimp only;rw[List.take_zero,Gl];exact W.flat.2 (h.pick 4 [1,2,0,3])
   ·intro i g;simp only[tU,iz] at g
    grind
   ·intro g y X av az _ Y;refine⟨_,Y,λaB a0 a1 a2=>?_⟩;have r:=W.flat.1 a2;have a3:(tU<|mb bs)[g]? =some [O y]:=X
    obtain⟨i,a4,rfl⟩:∃k,(mb bs)[g]? =some k/\y=(k:Int):=by
     unfold tU at a3
     grind
    have a5:=vx.1<|gg a4;have aK:=NO a5;have a6:(mb bs).take (g+1)=(mb bs).take g++[i]:=by simp_all[iw]
    have z:sub c (hp a0):=aE 0 (a1 _ r.tail.tail)
    refine⟨_,b.cell z (j:=1) rfl,ae (λa7=>?_) λa7=>?_⟩
    ·have a8:a<=i:=η
     have a9:(i:Int)-(a:Int)=((i-a:Nat):Int):=U
     refine⟨_,_,_,r.cell 0,_,b.cell z (j:=1) rfl,ξ,?_⟩;rw[a9];refine au rfl U ?_;rw[ak];refine aX r.swap (by grind[m_,lB]) λaR h=>?_;rw[Am,Kv a8 U,<-a6] at h;exact W.flat.2 h.swap
    grind[of_decide_eq_false,Ku,W.flat]
   ·intro X i;have g:=W.flat.1 i;have r:(tU<|mb bs).length=(mb bs).length:=by simp[tU]
    rw[r,jl,Gk l] at g;refine⟨_,_,_,g.cell 0,λY y=>⟨p,rfl,?_⟩⟩;have z:=g.eq y;exact(z.pick 4 [1,3]).fy (bM η)
   simp[W.pu]
 ·refine ag f λQ am h=>⟨aE 1 h.l,?_⟩;refine(NN<|e.mono<|sub.trans d<|aE 1 h.l).mono ?_;rintro _ _⟨rfl,rfl⟩;refine⟨_,rfl,?_⟩
  try dsimp only
  rw[x]
  ·refine⟨aE 1 h.l,ξ,⟨U,rfl,U⟩,?_⟩;rw[je,de,J_];refine ag h λp an h=>aX h.swap V λao h=>⟨_,b.cell0<|aE 2 h.l,?_⟩;refine(Mz<|e.mono<|sub.trans d<|aE 2 h.l).mono ?_;rintro _ ap⟨R,rfl,S⟩;have h:=S.fy h
   refine⟨_,_,rfl,bn.2 ⟨rfl,tU<|mb bs,YM R bs.length<|bt bs,ec,λg=>aT [ax Q [T (some ⟨p,0,none⟩) N N],ax p<|bv<|wU a N<|(mb bs).take g],pu False,λ_=>pu False,[has c],?_,λh g=>dX.mono (sub.trans d<|aE 0 g) m,pV,?_,?_,?_,?_,trivial⟩⟩
   ·dsimp only;rw[List.take_zero,Gl];exact W.flat.2 (h.pick 4 [1,2,0,3])
   ·intro i g;simp only[tU,iz] at g
    grind
   ·intro g y X av az _ Y;refine⟨_,Y,λaB a0 a1 a2=>?_⟩;have r:=W.flat.1 a2;have a3:(tU<|mb bs)[g]? =some [O y]:=X
    obtain⟨i,a4,rfl⟩:∃k,(mb bs)[g]? =some k/\y=(k:Int):=by
     unfold tU at a3
     grind
    have a5:=vx.1<|gg a4;have aK:=NO a5;have a6:(mb bs).take (g+1)=(mb bs).take g++[i]:=by simp_all[iw]
    have z:sub c (hp a0):=aE 0 (a1 _ r.tail.tail)
    refine⟨_,b.cell z (j:=1) rfl,ae (λa7=>?_) λa7=>?_⟩
    ·have a8:a<=i:=η
     have a9:(i:Int)-(a:Int)=((i-a:Nat):Int):=U
     refine⟨_,_,_,r.cell 0,_,b.cell z (j:=1) rfl,ξ,?_⟩;rw[a9];refine au rfl U ?_;rw[ak];refine aX r.swap (by grind[m_,lB]) λaR h=>?_;rw[Am,Kv a8 U,<-a6] at h;exact W.flat.2 h.swap
    grind[of_decide_eq_false,Ku,W.flat]
   ·intro X i;have g:=W.flat.1 i;have r:(tU<|mb bs).length=(mb bs).length:=by simp[tU]
    rw[r,jl,Gk l] at g;refine⟨_,_,_,g.cell 0,λY y=>⟨p,rfl,?_⟩⟩;have z:=g.eq y;exact(z.pick 4 [1,3]).fy (bM η)
   simp[W.pu]
end
def Kx(g:B)(nn:At)(row:Az):Prop:=∀s∈row,s<(g.T:Int)\/bt nn (s.toNat-g.T)=true
def Pu(g:B)(nn:At):Prop:=nn.length=g.N/\∀i:Nat,bt nn i=true↔Pd g ((g.T+i:Nat):Int)
def VE(g:B)(nn:At):Prop:=nn.length=g.N/\∀i:Nat,bt nn i=true↔Us g ((g.T+i:Nat):Int)
theorem xd{g:B}{s:Int}(h:(g.T:Int)<=s):((g.T+(s.toNat-g.T):Nat):Int)=s:=U
theorem OV{g:B}{s:Int}(h:0<=s)(a:s<(g.T:Int)):Pd g s:=by
 have:=Pd.tm (g:=g) s.toNat U
 grind
theorem Pu.fit{g:B}{nn:At}(h:Pu g nn){row:Az}(d:∀s∈row,0<=s/\s<(g.T:Int)+g.N):Kx g nn row↔n9 g row:=by
 refine forall_congr' λs=>⟨λa b=>?_,λa b=>?_⟩
 ·by_cases c:s<(g.T:Int)
  ·simp_all[OV]
  ·have:=(h.2 _).1 ((a b).resolve_left c)
   grind
 ·by_cases c:s<(g.T:Int)
  ·omega
  ·exact .inr ((h.2 _).2 G)
def Xh(g:B)(nn:At)(p:aD):Prop:=Kx g nn p.right->bt nn (p.left.toNat-g.T)=true
theorem QJ{g:B}{nn:At}(j:Q8 g)(b:nn.length=g.N)(c:∀i,bt nn i=true->Pd g ((g.T+i:Nat):Int))(d:∀p∈g.prods,Xh g nn p):Pu g nn:=by
 refine⟨b,λi=>⟨c i,λe=>?_⟩⟩
 have f:∀a,Pd g a->a<(g.T:Int)\/bt nn (a.toNat-g.T)=true:=λk a=>by
  induction a with
  |tm h l=>exact .inl U
  |mk p hp l h=>exact .inr (d p hp h)
 rcases f _ e with a|a
 ·omega
 ·rwa [show((g.T+i:Nat):Int).toNat-g.T=i from U] at a
theorem mS.b9{g:B}{bs:At}(h:mS g bs):Pu g (bs.drop g.T):=⟨by rw[qR,h.1];omega,λi=>by rw[fU,h.2]⟩
theorem rR.b9{g:B}{bs:At}(h:rR g bs):VE g (bs.drop g.T):=⟨by rw[qR,h.1];omega,λi=>by
 rw[fU,h.2]
 grind⟩
theorem Us.in{g:B}(a:bL g){s:Int}(h:Us g s):0<=s/\s<(g.T:Int)+g.N:=by
 obtain⟨b,e,f,i,j,k⟩:=EP a;have:=u_ a;cases h with
 |start _=>omega
 |zero _ _=>omega
 |pr c s hp _ _ d=>exact(b c hp).2 s d
section
variable{w:ga}{L:List aG}{g:B}{x:GA}{a h:E}{l c nl i:Nat}{row:Az}{nn:At}
theorem AD(P:gR (hp w) g x)(Q:bf (hp w) nn h nl)(a9:nn.length=g.N)(R:bf (hp w) row a l)(S:Jj g row)(aa:l<=4611686018427387904)(ab:g.T<=65)(ac:g.N<=65):ρ 71 [.agg ⟨x.cells⟩,T h nl i,T a l c] w λX Y=>(∃r:Bool,X=J r/\(r=true↔Kx g nn row))/\Gr w Y:=by
 refine xJ ?_;refine dZ P λad e f a0 q=>?_;have a1:g.T=x.tl:=a0.t.1;have s:=Q.mono f;have t:=R.mono f;have al:=s.1;refine⟨λd j=>∃b:Nat,d=b/\b<=l/\Kx g nn (row.take b)/\Gr e j,λb _=>l-b.toNat,⟨0,rfl,U,λd b=>by simp at b,Gr.refl _⟩,?_⟩;rintro _ am an⟨d,rfl,ao,m,v⟩
 refine ae (λn=>?_) λn=>?_
 ·have j:d<l:=by have:=gZ n;omega
  obtain⟨b,ap,y,z,A⟩:=t.dy j;have C:=gg y;have av:=S b C;intro o a2;have p:Gr e o:=v.trans<|Gr.drawn a2;have a3:¬(b<(g.T:Int)\/bt nn (b.toNat-g.T)=true)->(∃r:Bool,J false=J r/\(r=true↔Kx g nn row))/\Gr w o:=λk=>⟨⟨false,rfl,⟨λF=>absurd F (by decide),λF=>absurd (F b C) k⟩⟩,f.trans p⟩
  have F:(b<(g.T:Int)\/bt nn (b.toNat-g.T)=true)->K ((d:Int)+1)/\(∃k:Nat,(d:Int)+1=k/\k<=l/\Kx g nn (row.take k)/\Gr e o)/\l-((d:Int)+1).toNat<l-(d:Int).toNat:=λL=>by
   refine⟨ξ,⟨d+1,V,U,λN I=>?_,p⟩,bS j⟩;rw[cH y] at I
   rcases iU.1 I with k|k
   ·exact m N k
   ·simp at k;subst k;exact L
  refine⟨λw=>Gr e w,p,au z j ⟨b,λw k=>A _ k,_,_,_,λw k=>q.c0 k,ae (λa4=>?_) λk=>F<|.inl (by have:=hY k;omega)⟩⟩;have az:=gZ a4;have I:b.toNat-g.T<nl:=U
  obtain⟨a5,aB,L,a6,a7⟩:=s.dy I;have a8:b-(x.tl:Int)=((b.toNat-g.T:Nat):Int):=by rw[<-a1];omega
  refine au z j ⟨b,λw k=>A _ k,_,_,_,λw k=>q.c0 k,ξ,?_⟩;rw[a8]
  refine au a6 I ⟨a5,λw k=>a7 _ k,ae (λk=>a3 ?_) λk=>F<|.inr ?_⟩
  ·rw[Ab L]
   rintro(N|N)
   ·omega
   ·rw[N] at k;cases k
  ·rw[Ab L];simpa using k
 ·have b:d=l:=by have:=hY n;omega
  subst b;rw[jy (by have:=t.1;omega)] at m;exact⟨⟨true,rfl,by simp[m]⟩,f.trans v⟩
theorem QK(hg:gR (hp w) g x)(hb:jq g)(he:bL g):ρ 68 [.agg ⟨x.cells⟩] w λv w'=>∃(k:Nat)(nn:At),v=T (some ⟨k,0,none⟩) g.N g.N/\Pu g nn/\W w' (ax k (bv nn)::all w):=by
 refine wh ?_;refine dZ hg λk1 w1 gw hg B=>?_;obtain⟨iG,bT,bN,pN,pT,bP⟩:=EP he;have tl:g.T=x.tl:=hg.t.1;have nl:g.N=x.nl:=hg.n.1;have pl:=hg.p.1;have gs:sub (hp w) (hp w1):=gw;have h1:=W.all w1;unfold Proofs.YtaoaemnefghnbaaGreatDoor.all at h1;generalize hH:hp w1=H at*;refine⟨_,_,_,B.c1<|aE 0 h1.l,?_⟩;rw[<-nl];refine⟨⟨U,rfl,U⟩,?_⟩;rw[je,de,J_];refine ag h1 λk4 w2 h2=>?_;obtain⟨Q,hQ⟩:=su (λ(b:Bool)(w:ga)(m:Nat)=>∃nn:At,nn.length=g.N/\(∀i,bt nn i=true->Pd g ((g.T+i:Nat):Int))/\m=EO nn+(if b then 1 else 0)/\(b=false->∀p∈g.prods,Xh g nn p)/\W w [ax k4 (bv nn),has H]);obtain⟨μ,b1,az⟩:=zv (λ(y:Bool×ga) m=>Q y.1 y.2 m)
 refine⟨λb w'=>∃m,Q b w' m,λb w=>μ (b,w),⟨EO (List.replicate g.N false)+1,?_⟩,?_⟩
 ·rw[hQ];exact⟨List.replicate g.N false,V,λi h=>(by rw[j7] at h;exact absurd h (by decide)),rfl,λh=>absurd h (by decide),h2⟩
 clear h2;intro _ b w3 hP;have hP:=az (b,w3) hP;dsimp only at hP;generalize hμ:μ (b,w3)=μ0 at*;rw[hQ] at hP;obtain⟨d,a8,a0,aV,a7,h⟩:=hP;refine ae (λf=>?_) λf=>?_
 rotate_left
 ·exact⟨k4,d,rfl,QJ iG a8 a0<|a7 f,h.fy<|bM gs⟩
 subst f;rw[gD rfl] at aV;refine⟨λb n w'=>∃(j:Nat)(nn:At),n=j/\j<=g.prods.length/\nn.length=g.N/\(∀i,bt nn i=true->Pd g ((g.T+i:Nat):Int))/\EO nn+(if b then 1 else 0)<=EO d/\(b=false->∀p∈g.prods.take j,Xh g nn p)/\W w' [ax k4 (bv nn),has H],λ_ n _=>g.prods.length-n.toNat,⟨0,d,rfl,U,a8,a0,V,V,h⟩,?_⟩;clear h a7;rintro _ b n w4⟨j,nn,rfl,hj,hl,hs,hm,hc,h⟩;refine⟨_,_,_,B.c4<|aE 1 h.l,ae (λZ=>?_) λZ=>?_⟩
 rotate_left
 ·have Z:j=g.prods.length:=by have:=hY Z;omega
  subst Z;rw[jl] at hc
  have key:Q b w4 (EO nn+(if b then 1 else 0)):=by
   rw[hQ];exact⟨nn,hl,hs,rfl,hc,h⟩
  refine⟨⟨_,key⟩,?_⟩;have:=b1 (b,w4) _ key;dsimp only;rw[hμ];omega
 have Z:j<g.prods.length:=by have:=gZ Z;omega
 obtain⟨p,ad,vs,aa,aR,av,ra,rl,rc,rfl,b4,a6⟩:=hg.p.get (i:=j) U;have X:=gg aa;obtain⟨b2,Y⟩:=iG p X;have b6:=hb.2.2.2.2.2.2 p X;have b3:=a6.1;have et:g.prods.take (j+1)=g.prods.take j++[p]:=by rw[iw,aa];rfl
 have am:p.left.toNat-g.T<g.N:=U
 have eu:p.left-(x.tl:Int)=((p.left.toNat-g.T:Nat):Int):=by rw[<-tl];omega
 have nx:∀{w':ga}{nn':At}{b':Bool},nn'.length=g.N->(∀i,bt nn' i=true->Pd g ((g.T+i:Nat):Int))->EO nn'+(if b' then 1 else 0)<=EO d->(b'=false->(∀p∈g.prods.take j,Xh g nn' p)/\Xh g nn' p)->W w' [ax k4 (bv nn'),has H]->K ((j:Int)+1)/\(∃(j':Nat)(nn:At),(j:Int)+1=j'/\j'<=g.prods.length/\nn.length=g.N/\(∀i,bt nn i=true->Pd g ((g.T+i:Nat):Int))/\EO nn+(if b' then 1 else 0)<=EO d/\(b'=false->∀p∈g.prods.take j',Xh g nn p)/\W w' [ax k4 (bv nn),has H])/\g.prods.length-((j:Int)+1).toNat<g.prods.length-(j:Int).toNat:=λ{w' nn' b'} a1 a2 a3 a4 a5=>by
  refine⟨ξ,⟨j+1,nn',V,U,a1,a2,a3,λu q o=>?_,a5⟩,bS Z⟩;rw[et] at o
  rcases iU.1 o with o|o
  ·exact(a4 u).1 q o
  ·simp at o;subst o;exact(a4 u).2
 refine⟨_,_,_,B.c4<|aE 1 h.l,aI aR U ⟨_,_,_,_,_,av.at (aE 1 h.l) rfl,ag h λaK w5 h=>aQ h rfl (by simp[aO]) λw6 h=>?_⟩⟩;have e:aj (hp w6) ⟨aK,0,none⟩ [O p.left,T ra rl rc,O p.level]:=af 0 h.l;refine⟨_,e.cell0 sZ,_,_,_,B.c0<|aE 2 h.l,ξ,?_⟩;rw[eu];have h:=h.pick 3 [1,2];refine au rfl am ⟨_,ON (af 0 h.l) U,ae (λh4=>?_) λh4=>nx hl hs hm (λu=>⟨hc u,λ_=>by simpa using h4⟩) h⟩;have h4:bt nn (p.left.toNat-g.T)=false:=by simpa using h4
 have rn:bf (hp w6) nn (some ⟨k4,0,none⟩) g.N:=BY hl<|.inr ⟨_,rfl,af 0 h.l⟩;refine⟨_,_,_,_,_,_,_,_,_,_,_,_,_,B.row<|aE 1 h.l,_,_,_,e.cell sZ (j:=1) rfl,(AD (x:=x) (hg.mono<|aE 1 h.l) rn hl (a6.mono<|aE 1 h.l) (λs hs=>⟨(Y s hs).1,(Y s hs).2⟩) U bT bN).mono ?_⟩;rintro _ w7⟨⟨r,rfl,hr⟩,g7⟩;have h:=h.gr g7
 refine⟨_,rfl,ae (λh5=>?_) λh5=>nx hl hs hm (λu=>⟨hc u,λhv=>?_⟩) h⟩
 ·have J:p.left.toNat-g.T<nn.length:=U
  refine⟨_,e.cell0 g7,_,_,_,B.c0<|aE 1 h.l,ξ,?_⟩;rw[eu];refine au rfl am ?_;rw[ak];refine aX h (by rw[m_];exact J) λbb h=>?_;rw[Am] at h;have b5:=Is J h4
  refine nx (by rw[ky];exact hl) (λi hi=>?_) ?_ (λu=>absurd u (by decide)) h
  ·rw[qC J,kj,beq_iff_eq] at hi
   rcases hi with hi|rfl
   ·exact hs i hi
   ·rw[xd U];refine .mk p X λs a9=>?_
    by_cases hT:s<(g.T:Int)
    ·exact OV (Y s a9).1 hT
    ·have:=hs _<|(hr.1 h5 s a9).resolve_left hT;rwa [xd U] at this
  ·have:=hm;rw[gD rfl]
   split at this<;>omega
 ·rw[hr.2 hv] at h5;cases h5
end
theorem CT(n:Nat)(m:Nat->Bool):dJ (n+1) m=dJ n m++(if m n then[n] else[]):=by grind[dJ,List.range_succ]
theorem Ap{m:Nat->Bool}:∀{n i s:Nat},(dJ n m)[i]? =some s->m s=true/\s<n/\(dJ n m).take i=dJ s m
 |0,i,s,h=>by grind[dJ]
 |n+1,i,s,h=>by
  rw[CT] at h ⊢
  by_cases hi:i<(dJ n m).length
  ·rw[ki hi] at h
   obtain⟨h1,h2,h3⟩:=Ap h
   grind
  grind
theorem Ky(T:Nat)(m:Nat->Bool):∀d:Nat,(dJ (T+d) m).filter (λk=>decide (T<=k))=(dJ d λk=>m (T+k)).map λk=>T+k
 |0=>by grind[List.filter_eq_nil_iff,dJ]
 |d+1=>by
  rw[show T+(d+1)=(T+d)+1 from rfl,CT,CT,lX,jI,Ky T m d]
  grind
def fE(T:Nat)(uns:At)(s:Int):Int:=if s<(T:Int) then s else if bt uns (s.toNat-T) then(T:Int)+1+(du (s.toNat-T) (bt uns):Int) else 0
def wV(g:B)(pds uns:At)(p:aD):Bool:=bt uns (p.left.toNat-g.T)&&p.right.all λs=>decide (s<(g.T:Int))||bt pds (s.toNat-g.T)
def jh(g:B)(uns:At)(p:aD):aD:=⟨fE g.T uns p.left,p.right.map<|fE g.T uns,p.level⟩
def BF(g:B)(k:Nat):vS:=g.b9.getD k .empty
def fh(g:B)(uns:At):List vS:=.empty::(dJ g.N (bt uns)).map (BF g)
def mj(g:B)(uns:At):aD:=⟨g.T,[fE g.T uns g.start],0⟩
def lD(g:B)(pds uns:At)(ps:List aD):List aD:=(ps.filter (wV g pds uns)).map (jh g uns)
def fq(g:B)(pds uns:At):B:=⟨g.terms,fh g uns,g.levels,fE g.T uns g.start,mj g uns::lD g pds uns g.prods⟩
theorem TW{g:B}{pds uns:At}{ps:List aD}{p:aD}:lD g pds uns (ps++[p])=lD g pds uns ps++(if wV g pds uns p then[jh g uns p] else[]):=by grind[lD,wV]
def M6(T n:Nat)(uns:At)(pre:A0):Az:=(List.range n).map λs=>if s∈pre then fE T uns (s:Int) else 0
theorem VF(a n:Nat)(uns:At)(pre:A0):(M6 a n uns pre).length=n:=by simp[M6]
theorem QL(a n:Nat)(uns:At):M6 a n uns []=List.replicate n 0:=by
 unfold M6;apply kv
 grind
theorem VG{a n:Nat}{uns:At}{pre:A0}{s:Nat}(h:s<n):(M6 a n uns pre).set s (fE a uns (s:Int))=M6 a n uns (pre++[s]):=by
 unfold M6;apply kv
 grind
theorem QM{g:B}{bs:At}(he:bL g)(h:rR g bs){s:Nat}(hs:s<g.T+g.N):(M6 g.T (g.T+g.N) (bs.drop g.T) (mb bs))[s]? =some (fE g.T (bs.drop g.T) (s:Int)):=by
 unfold M6;rw[iE,pC hs];simp only[oI,vx]
 split
 ·rfl
 ·rename_i hf;unfold fE
  by_cases u:s<g.T
  ·exact absurd ((h.2 s).2 (.inl u)) hf
  simp_all[gv,fU]
theorem Ra{a:Nat}{uns:At}{s:Nat}(h:s<a):fE a uns (s:Int)=s:=by simp_all[fE]
theorem RH{a:Nat}{uns:At}{s:Nat}(h:a<=s)(b:bt uns (s-a)=true):fE a uns (s:Int)=(a:Int)+1+(du (s-a) (bt uns):Int):=by simp_all[fE,gv]
def wE(g:B)(pre:A0):List vS:=.empty::(pre.filter λk=>decide (g.T<=k)).map λk=>BF g (k-g.T)
theorem R0{g:B}{bs:At}{s:Nat}(b:g.T<=s):(wE g (dJ s (bt bs))).length=1+du (s-g.T) (bt (bs.drop g.T)):=by
 have:=Ky g.T (bt bs)<|s-g.T;rw[show g.T+(s-g.T)=s from U] at this;unfold wE;rw[this,lQ,jO,jO,mZ];have c:(λa=>bt bs<|g.T+a)=bt (bs.drop g.T):=by grind[fU]
 grind
theorem R1{g:B}{bs:At}(a:bs.length=g.T+g.N):wE g (mb bs)=fh g (bs.drop g.T):=by
 have:=Ky g.T (bt bs) g.N;unfold wE fh mb;rw[a,this,nQ];have c:(λb=>bt bs<|g.T+b)=bt (bs.drop g.T):=by grind[fU]
 simp_all
theorem R2{g:B}{pre:A0}{s:Nat}(h:s<g.T):wE g (pre++[s])=wE g pre:=by simp_all[wE]
theorem Tf{g:B}{pre:A0}{s:Nat}(h:g.T<=s):wE g (pre++[s])=wE g pre++[BF g (s-g.T)]:=by simp_all[wE]
theorem Th{g:B}{a bs:At}(f:Q8 g)(b:mS g a){p:aD}(hp:p∈g.prods):(kZ bs p.left&&xN a p.right)=wV g (a.drop g.T) (bs.drop g.T) p:=by
 obtain⟨j,h⟩:=f p hp;unfold wV;rw[va U,fU,show g.T+(p.left.toNat-g.T)=p.left.toNat from U];congr 1;rw[lG,b.all h,mE]
 refine forall_congr' λc=>⟨λd e=>?_,λd e=>?_⟩
 ·rw[kj,jV,fU]
  by_cases i:c<(g.T:Int)
  ·omega
  ·refine .inr ((b.2 _).2 ?_)
   grind
 ·have:=d e;rw[kj,jV,fU] at this
  by_cases i:c<(g.T:Int)
  ·simp_all[OV]
  ·have:=(b.2 _).1 (this.resolve_left i)
   grind
def Gm:B:=⟨[],[],[],0,[]⟩
def OW(g:B)(e:Int)(G:B):Prop:=(¬kE g/\e=1/\G=Gm)\/(kE g/\¬Pd g g.start/\e=12/\G=Gm)\/(kE g/\Pd g g.start/\e=0/\∃pds uns,Pu g pds/\VE g uns/\G=fq g pds uns)
abbrev RA(k1 k2 k27 k44 k54:Nat)(w:ga)(R:ah->ga->Prop):Prop:=Tv R k1 k2 k27 k44 (some (Z k54)) w
theorem BG:∀(N:List aG){M:List aG}{h:Hp},aL (N++M) h->∃h0,aL M h0/\sub h0 h/\aL (N++[has h0]) h
 |[],M,h,hs=>⟨h,hs,sZ,bM sZ⟩
 |A::N,M,h,⟨h1,h2,d,s1,s2,ha,hl⟩=>by
  obtain⟨h0,k1,k2,k3⟩:=BG N hl
  exact⟨h0,k1,sub.trans k2 s2,h1,h2,d,s1,s2,ha,k3⟩
theorem W.mn{w:ga}(N:List aG){M:List aG}(h:W w (N++M)):∃h0,aL M h0/\W w (N++[Proofs.YtaoaemnefghnbaaGreatDoor.has h0]):=by
 obtain⟨h0,a,_,b⟩:=BG N h;exact⟨h0,a,b⟩
theorem AG{L:List aG}{h:Hp}{p:E}{bs:At}(i:Nat)(b:aL L h)(e:tX L i=cZ p bs:=by rfl)(hi:Nat.blt i (B3 L)=true:=by rfl):fm h p bs:=by
 obtain⟨d,c,a⟩:=dN i (by simp_all[iY]) b;rw[e] at a;exact(Fk a).mono c
theorem AH(xs:Az)(i:Nat)(v:Int):(iv xs).set i (O v)=iv (xs.set i v):=by simp[iv]
theorem Tl(n:Nat):List.replicate n (O 0)=iv (List.replicate n 0):=by simp[iv]
theorem Tm{α:Type}(xs:List α)(i:Nat)(a b:α):(xs.set i a).set i b=xs.set i b:=V
theorem Tn{w:ga}{k a:Nat}{xs:Az}{v:Int}(r:aj (hp w) ⟨k,0,none⟩ (iv xs))(h:xs[a]? =some v):w.cell? ((⟨k,0,none⟩:vP).add a)=some (O v):=r.cell sZ (j:=a) (by simp_all[iv])
section
variable{w:ga}{g:B}{x:GA}
theorem To{H:Hp}{aV s b0 ad o al f k:Nat}{l m b1 b2:E}{S bs:At}{R:ah->ga->Prop}(a1:gR H g x)(B:GB H aV x)(bT:jq g)(b3:bL g)(c0:mS g S)(c1:rR g bs)(c2:fm H b1 S)(hi:fm H b2 bs)
  (c3:aj H ⟨b0,0,none⟩ [.pointer b1,O (g.T:Int)]) (a9:aj H ⟨ad,0,none⟩ [.pointer b2,O (g.T:Int)]) (c4:ec H)
  (h:W w [ax o [T l g.terms.length f,T (some ⟨al,0,none⟩) 1 1,T m g.levels.length k,O 0,D],own 2 l g.terms.length f (cX g.terms),own 1 (some ⟨al,0,none⟩) 1 1 [.string .empty],own 1 m g.levels.length k (iv g.levels),ax s [D,D,D,O 0,D],has H])
  (b4:∀(x':GA) os w',Fq (fq g (S.drop g.T) (bs.drop g.T)) x'->os.length=(fq g (S.drop g.T) (bs.drop g.T)).prods.length->W w' (AF (fq g (S.drop g.T) (bs.drop g.T)) x' os++[has H])->R (.tuple #[.agg ⟨x'.cells⟩,O 0]) w'):RA aV s b0 ad o w R:=by
 unfold RA Tv;dsimp only[nn];obtain⟨b5,cT,d0,d1,d2,d3⟩:=EP b3;obtain⟨d4,d5⟩:=u_ b3;have d6:g.T=x.tl:=a1.t.1;have d7:g.N=x.nl:=a1.n.1;have d8:=a1.p.1;have c5:=a1.s;have am:=c1.1;obtain⟨d9,dc,df,dk,dl,dn,c6⟩:=id bT;obtain⟨n,c7⟩:∃a,a=g.T+g.N:=⟨_,rfl⟩;rw[<-c7] at am;obtain⟨a,b6⟩:∃c,c=bs.drop g.T:=⟨_,rfl⟩;obtain⟨P,b7⟩:∃c,c=S.drop g.T:=⟨_,rfl⟩;rw[<-b6,<-b7] at b4;refine⟨_,a9.cell0<|aE 5 h.l,(NN<|hi.mono<|aE 5 h.l).mono ?_⟩;rintro _ ds⟨rfl,rfl⟩;refine⟨_,rfl,?_⟩;rw[am];refine⟨⟨U,rfl,U⟩,?_⟩;rw[je,de,Tl,<-QL g.T n a];refine ag h λt dv h=>ag h λa2 dx h=>aX h V λdy h=>⟨_,a9.cell0<|aE 7 h.l,?_⟩;refine(Mz<|hi.mono<|aE 7 h.l).mono ?_;rintro _ dA⟨b,rfl,c8⟩;have h:=c8.fy h;obtain⟨c,b9⟩:∃d,d=mb bs:=⟨_,rfl⟩;have aa:∀{w:ga},sub H (hp w)->w.cell? ((⟨ad,0,none⟩:vP).add 1)=some (O (g.T:Int)):=λd=>a9.cell d (j:=1) rfl
 refine⟨_,_,rfl,bn.2 ⟨rfl,tU<|mb bs,YM b bs.length<|bt bs,ec,λi=>ex λd:E×Nat=>aT [ax a2 [T (some ⟨t,0,none⟩) n n],ax t<|iv<|M6 g.T n a<|c.take i,ax o [T l g.terms.length f,.slice d.1 (wE g<|c.take i).length d.2,T m g.levels.length k,O 0,D],own 1 d.1 (wE g<|c.take i).length d.2 ((wE g<|c.take i).map λe=>Value.string e)],pu False,λ_=>pu False,[own 2 l g.terms.length f (cX g.terms),own 1 m g.levels.length k<|iv g.levels,ax s [D,D,D,O 0,D],has H],?_,λh d=>dX.mono (aE 3 d) c4,pV,?_,?_,?_,?_,trivial⟩⟩
 ·refine W.ex.2 ⟨(some ⟨al,0,none⟩,1),W.flat.2 ?_⟩;exact h.pick 9 [1,2,3,5,0,4,6,7,8]
 ·intro e d;simp only[tU,iz] at d
  grind
 ·intro i C a0 bl bo _ a3;refine⟨_,a3,λv a4 F a5=>?_⟩;obtain⟨⟨e,p⟩,a6⟩:=W.ex.1 a5;have a7:=W.flat.1 a6;have a8:(tU<|mb bs)[i]? =some [O C]:=a0
  obtain⟨d,I,rfl⟩:∃q,(mb bs)[i]? =some q/\C=(q:Int):=by
   unfold tU at a8
   grind
  obtain⟨bu,q,ab⟩:=Ap I;rw[am] at q;rw[<-b9] at I;have bz:c.take i=dJ d (bt bs):=by rw[b9];exact ab
  have L:c.take (i+1)=c.take i++[d]:=by simp_all[iw]
  have z:W a4 (ax a2 [T (some ⟨t,0,none⟩) n n]::ax t (iv<|M6 g.T n a<|c.take i)::ax o [T l g.terms.length f,.slice e (wE g<|c.take i).length p,T m g.levels.length k,O 0,D]::own 1 e (wE g<|c.take i).length p ((wE g<|c.take i).map λr=>Value.string r)::v):=a7;have y:∀{w:ga}{r Q X Y:aG},W w (r::Q::X::Y::v)->sub H (hp w):=λh=>aE 3<|F _ h.tail.tail.tail.tail;have bE:=z.l;refine⟨_,_,_,z.cell 0,au rfl q ?_⟩;rw[ak];refine aX (z.pick 4 [1,0,2,3]) (by simp_all[dq,VF]) λQ h=>?_;have h:W Q (ax t ((iv<|M6 g.T n a<|c.take i).set d (O (d:Int)))::ax a2 [T (some ⟨t,0,none⟩) n n]::ax o [T l g.terms.length f,.slice e (wE g<|c.take i).length p,T m g.levels.length k,O 0,D]::own 1 e (wE g<|c.take i).length p ((wE g<|c.take i).map λr=>Value.string r)::v):=h;rw[AH] at h;refine⟨_,aa<|y h,ae (λac=>?_) λac=>?_⟩
  rotate_left
  ·have r:d<g.T:=η
   have X:(M6 g.T n a<|c.take i).set d (d:Int)=M6 g.T n a (c.take<|i+1):=by
    rw[L,<-VG q,Ra r]
   rw[X] at h;refine W.ex.2 ⟨(e,p),W.flat.2 ?_⟩;have Y:wE g (c.take<|i+1)=wE g (c.take i):=by grind[R2]
   dsimp only;rw[Y];exact h.pick 4 [1,0,2,3]
  have an:g.T<=d:=η
  have ao:(wE g<|c.take i).length=1+du (d-g.T) (bt a):=by simp_all[R0]
  have bN:du (d-g.T) (bt a)<=d-g.T:=Fj _ _;have bO:d-g.T<g.N:=U
  obtain⟨r,bP,c9,ap,av⟩:=a1.n.dy (i:=d-g.T) U;have az:aj (hp Q) ⟨o,0,none⟩ [T l g.terms.length f,.slice e (wE g<|c.take i).length p,T m g.levels.length k,O 0,D]:=af 2 h.l;refine⟨_,_,_,h.swap.cell 0,_,aa<|y h,_,_,_,az.cell sZ (j:=1) rfl,ξ,au rfl q ?_⟩;rw[ak];refine aX h (by simp_all[dq,VF]) λca h=>?_;rw[AH,Tm] at h
  have aB:(M6 g.T n a<|c.take i).set d ((g.T:Int)+((wE g<|c.take i).length:Int))=M6 g.T n a (c.take<|i+1):=by
   have X:bt a (d-g.T)=true:=by simp_all[fU]
   rw[L,<-VG q,RH an X,ao]
   grind
  rw[aB] at h;intro aK aR;have h:=h.drawn aR;have aS:aj (hp aK) ⟨o,0,none⟩ [T l g.terms.length f,.slice e (wE g<|c.take i).length p,T m g.levels.length k,O 0,D]:=af 2 h.l;have ba:(d:Int)-(g.T:Int)=((d-g.T:Nat):Int):=U
  refine⟨λw=>aj (hp w) ⟨o,0,none⟩ [T l g.terms.length f,.slice e (wE g<|c.take i).length p,T m g.levels.length k,O 0,D]/\sub H (hp w),⟨aS,y h⟩,_,_,_,λw X=>X.1.cell sZ (j:=1) rfl,_,_,_,λw X=>B.c1 X.2,_,λw X=>aa X.2,ξ,?_⟩;rw[ba];refine au ap U ⟨r,λw X=>av _ X.2,ag h λbb cb h=>⟨⟨af 3 h.l,y h.tail⟩,?_⟩⟩;refine(aU aY (rfl:ai Ty _=.slice _) (rfl:ai Ty _=.slice _) rfl rfl rfl (h.pick 5 [0,4,1,2,3]) rfl (by simp[aO]) G U).mono ?_;rintro _ bc⟨X,Y,rfl,h⟩;have h:W bc (own 1 X ((wE g<|c.take i).length+1) Y (((wE g<|c.take i).map λbd=>Value.string bd)++[.string r])::ax bb [.string r]::ax t (iv<|M6 g.T n a<|c.take<|i+1)::ax a2 [T (some ⟨t,0,none⟩) n n]::ax o [T l g.terms.length f,.slice e (wE g<|c.take i).length p,T m g.levels.length k,O 0,D]::v):=h;refine⟨_,_,_,rfl,⟨af 4 h.l,aE 3<|F _ h.tail.tail.tail.tail.tail⟩,?_⟩;rw[ak];refine aX (h.pick 5 [4,0,2,3]) V λcc h=>?_;refine W.ex.2 ⟨(X,Y),W.flat.2 ?_⟩;have cd:wE g (c.take<|i+1)=wE g (c.take i)++[r]:=by simp_all[Tf,BF]
  have bd:(wE g<|c.take<|i+1).length=(wE g<|c.take i).length+1:=η
  have be:((wE g<|c.take i).map λbi=>Value.string bi)++[.string r]=(wE g<|c.take<|i+1).map λbi=>Value.string bi:=η
  rw[be,<-bd] at h;exact h.pick 4 [3,2,0,1]
 ·intro ba c9;obtain⟨⟨q,r⟩,ca⟩:=W.ex.1 c9;have ab:=W.flat.1 ca;have cb:(tU<|mb bs).length=c.length:=by simp_all[tU]
  dsimp only at ab;rw[cb,jl] at ab;have h:W ba [ax a2 [T (some ⟨t,0,none⟩) n n],ax t<|iv<|M6 g.T n a c,ax o [T l g.terms.length f,.slice q (wE g c).length r,T m g.levels.length k,O 0,D],own 1 q (wE g c).length r ((wE g c).map λd=>Value.string d),YM b bs.length<|bt bs,own 2 l g.terms.length f<|cX g.terms,own 1 m g.levels.length k<|iv g.levels,ax s [D,D,D,O 0,D],has H]:=ab;clear ab;have cc:wE g c=fh g a:=by simp_all[R1]
  rw[cc] at h;have to:∀{d:Int},0<=d->d<(g.T:Int)+g.N->(M6 g.T n a c)[d.toNat]? =some (fE g.T a d):=λ{d} e p=>by grind[QM,kU]
  obtain⟨L,bb⟩:∃d,d=fE g.T a g.start:=⟨_,rfl⟩
  --the vE of numbers is only read from here on
  obtain⟨p,bQ,h⟩:=W.mn [_,_,_,_,_] (M:=[_,_,_])<|h.pick 9 [2,3,5,6,7,0,1,8];have a4:sub H p:=aE 2 bQ;have an:aj p ⟨a2,0,none⟩ [T (some ⟨t,0,none⟩) n n]:=af 0 bQ;have cd:aj p ⟨t,0,none⟩ (iv<|M6 g.T n a c):=af 1 bQ;have h:W ba [ax o [T l g.terms.length f,.slice q (fh g a).length r,T m g.levels.length k,O 0,D],own 1 q (fh g a).length r ((fh g a).map λd=>Value.string d),own 2 l g.terms.length f<|cX g.terms,own 1 m g.levels.length k<|iv g.levels,ax s [D,D,D,O 0,D],has p]:=h;have ao:∀{w:ga}{d:Int},sub p (hp w)->0<=d->d<(g.T:Int)+g.N->w.cell? ((⟨t,0,none⟩:vP).add d.toNat)=some (O<|fE g.T a d):=λd e v=>Tn (cd.mono d)<|to e v;refine⟨_,_,_,an.cell0<|aE 5 h.l,_,B.c3<|sub.trans a4<|aE 5 h.l,?_⟩;rw[c5,<-kU (show(0:Int)<=g.start by omega)];refine au rfl U ⟨_,ao (aE 5 h.l) U U,?_⟩;rw[<-bb,ak];refine aX h V λce h=>?_;have h:W ce [ax o [T l g.terms.length f,.slice q (fh g a).length r,T m g.levels.length k,O L,D],own 1 q (fh g a).length r ((fh g a).map λd=>Value.string d),own 2 l g.terms.length f<|cX g.terms,own 1 m g.levels.length k<|iv g.levels,ax s [D,D,D,O 0,D],has p]:=h;refine⟨_,aa<|sub.trans a4<|aE 5 h.l,_,h.cell 3,ag h λv dC h=>ag h λX dF h=>?_⟩;rw[ak];refine aX (h.pick 8 [2,0,1,3,4,5,6,7]) V λa3 h=>?_;obtain⟨C,a5⟩:=su (λ(d:E)(e y:Nat)=>[T l g.terms.length f,.slice q (fh g a).length r,T m g.levels.length k,O L,T d e y]);have h:W a3 [ax o (C (some ⟨X,0,none⟩) 1 1),ax X [O (g.T:Int),T (some ⟨v,0,none⟩) 1 1,O 0],ax v<|iv [L],own 1 q (fh g a).length r ((fh g a).map λd=>Value.string d),own 2 l g.terms.length f<|cX g.terms,own 1 m g.levels.length k<|iv g.levels,ax s [D,D,D,O 0,D],has p]:=by rw[a5];exact h
  have bc:W a3 (own 1 (some ⟨v,0,none⟩) 1 1 (iv [L])::_):=bq (cs:=[]) (vs:=iv [L]) (h.pick 8 [2,0,1,3,4,5,6,7]) rfl rfl (gP _)
  have bd:W a3 (own 3 (some ⟨X,0,none⟩) 1 1 (eV [(some ⟨v,0,none⟩,1)] [mj g a])::_):=bq (cs:=[]) (vs:=eV [(some ⟨v,0,none⟩,1)] [mj g a]) (b:=X) (by
   have:=bc.pick 8 [2,0,1,3,4,5,6,7];rw[jK];have d:eV [(some ⟨v,0,none⟩,1)] [mj g a]=[O (g.T:Int),T (some ⟨v,0,none⟩) 1 1,O 0]:=rfl;rw[d];exact this) rfl rfl (gP _)
  obtain⟨e,cg⟩:=su (λ(j:Nat)=>mj g a::lD g P a (g.prods.take j))
  have h:W a3 [own 1 (some ⟨v,0,none⟩) 1 1 (iv [L]),aT<|cJ [] [],ax o<|C (some ⟨X,0,none⟩) 1 1,own 3 (some ⟨X,0,none⟩) 1 1<|eV [(some ⟨v,0,none⟩,1)] [mj g a],own 1 q (fh g a).length r ((fh g a).map λd=>Value.string d),own 2 l g.terms.length f<|cX g.terms,own 1 m g.levels.length k<|iv g.levels,ax s [D,D,D,O 0,D],has p]:=by
   have d:W a3 (aT (cJ [] [])::_):=W.flat.2 (show W a3 ([]++_) from bd);exact d.pick 9 [2,0,3,1,4,5,6,7,8]
  have h:=W.snoc (A:=own 1 (some ⟨v,0,none⟩) 1 1<|iv [L]) (M:=cJ [] []) h;have ch:(cJ [] []++[own 1 (some ⟨v,0,none⟩) 1 1 (iv [L])])=cJ [((some ⟨v,0,none⟩:E),1)] [mj g a]:=by simp_all[cJ,mj]
  rw[ch] at h
  have ci:∀j,(e j).length<=1+j:=λj=>by
   rw[cg];have:=mr (wV g P a)<|g.prods.take j;simp only[lQ,lD,jO]
   grind
  refine⟨_,_,_,B.c4<|sub.trans a4<|aE 7 h.l,λz w'=>∃(j:Nat)(d:E)(y:Nat)(os:List (E×Nat)),z=j/\j<=g.prods.length/\os.length=(e j).length/\W w' [ax o (C d (e j).length y),own 3 d (e j).length y (eV os<|e j),aT<|cJ os<|e j,own 1 q (fh g a).length r ((fh g a).map λF=>Value.string F),own 2 l g.terms.length f<|cX g.terms,own 1 m g.levels.length k<|iv g.levels,ax s [D,D,D,O 0,D],has p],λd _=>g.prods.length-d.toNat,⟨0,some ⟨X,0,none⟩,1,[(some ⟨v,0,none⟩,1)],rfl,U,G,?_⟩,?_⟩
  ·have d:e 0=[mj g a]:=by simp_all[lD]
   rw[d];exact h.pick 8 [1,2,0,3,4,5,6,7]
  clear h bc bd;rintro _ dG ck⟨j,F,I,os,rfl,dW,a6,h⟩;refine ae (λcl=>?_) λcl=>?_
  rotate_left
  ·have z:j=g.prods.length:=G
   subst z;have Q:e g.prods.length=(fq g P a).prods:=by grind[fq,List.take_length]
   rw[Q] at h a6;have d:aj (hp ck) ⟨o,0,none⟩ (C F (fq g P a).prods.length I):=af 0 h.l;rw[a5] at d;refine⟨_,_,_,_,_,_,_,_,_,_,_,_,_,d.at sZ rfl,aQ (h.pick 8 [6,1,2,3,4,5,7]) rfl (by intro Y y;simp at y;rcases y with rfl|rfl|rfl|rfl|rfl<;>rfl) λa0 h=>?_⟩;refine⟨_,_,_,_,_,_,_,_,_,_,_,_,_,h.row.at sZ rfl,λy Y=>?_⟩;have h:=h.eq Y;refine b4 ⟨l,g.terms.length,f,q,(fh g a).length,r,m,g.levels.length,k,L,F,(fq g P a).prods.length,I⟩ os y ⟨rfl,rfl,rfl,bb,rfl⟩ a6 ?_;exact W.on (N:=[_,_,_,_,_]) (h.pick 7 [1,2,4,3,5,6]) (bM a4)
  have be:j<g.prods.length:=η
  obtain⟨d,e0,vs,cm,cn,co,ap,Y,av,rfl,e1,az⟩:=a1.p.get (i:=j) U;have aB:=gg cm;obtain⟨e2,cp⟩:=b5 d aB;have e3:=c6 d aB;have e4:=az.1;have e5:g.prods.take (j+1)=g.prods.take j++[d]:=by grind[List.take_add_one]
  have e6:e (j+1)=e j++(if wV g P a d then[jh g a d] else[]):=by grind[TW]
  have cq:=Th b5 c0 (bs:=bs) aB;rw[<-b7,<-b6] at cq;have e7:=ci j;have a0:∀{w:ga},sub p (hp w)->sub H (hp w):=λy=>sub.trans a4 y
  have bi:∀{w':ga},wV g P a d=false->W w' [ax o (C F (e j).length I),own 3 F (e j).length I (eV os<|e j),aT<|cJ os<|e j,own 1 q (fh g a).length r ((fh g a).map λy=>Value.string y),own 2 l g.terms.length f<|cX g.terms,own 1 m g.levels.length k<|iv g.levels,ax s [D,D,D,O 0,D],has p]->K ((j:Int)+1)/\(∃(y:Nat)(z:E)(Q:Nat)(os:List (E×Nat)),(j:Int)+1=y/\y<=g.prods.length/\os.length=(e y).length/\W w' [ax o (C z (e y).length Q),own 3 z (e y).length Q (eV os<|e y),aT<|cJ os<|e y,own 1 q (fh g a).length r ((fh g a).map λa7=>Value.string a7),own 2 l g.terms.length f<|cX g.terms,own 1 m g.levels.length k<|iv g.levels,ax s [D,D,D,O 0,D],has p])/\g.prods.length-((j:Int)+1).toNat<g.prods.length-(j:Int).toNat:=λ{w'} y h=>by
   have z:e (j+1)=e j:=G
   refine⟨ξ,⟨j+1,F,I,os,V,U,G,?_⟩,bS be⟩
   grind
  refine aI cn U ⟨_,_,_,_,_,co.at (a0<|aE 7 h.l) rfl,ag h λaK e8 h=>aQ h rfl (by simp[aO]) λct h=>?_⟩;have bl:aj (hp ct) ⟨aK,0,none⟩ [O d.left,T ap Y av,O d.level]:=af 0 h.l;refine⟨_,a9.cell0<|a0<|aE 8 h.l,_,bl.cell0 sZ,(My (hi.mono<|a0<|aE 8 h.l) d.left).mono ?_⟩;rintro _ e9⟨rfl,rfl⟩;refine⟨_,rfl,ae (λy=>bi G<|h.pick 9 [1,2,3,4,5,6,7,8]) λea=>?_⟩;have eb:kZ bs d.left=true:=G
  refine⟨_,_,c3.at (a0<|aE 8 h.l) rfl,_,_,_,bl.cell sZ (j:=1) rfl,(xb (c2.mono<|a0<|aE 8 h.l) (az.mono<|a0<|aE 8 h.l) U).mono ?_⟩;rintro _ ed⟨rfl,cu⟩;have h:=h.gr cu;refine⟨_,rfl,ae (λy=>bi G<|h.pick 9 [1,2,3,4,5,6,7,8]) λef=>?_⟩;have eg:xN S d.right=true:=G
  have ei:wV g P a d=true:=G
  intro ej cv;have h:=h.drawn cv;have bo:d.left=((d.left.toNat:Nat):Int):=U
  refine⟨λw=>aj (hp w) ⟨aK,0,none⟩ [O d.left,T ap Y av,O d.level]/\sub p (hp w),⟨af 0 h.l,aE 8 h.l⟩,_,_,_,λw y=>an.cell0 y.2,_,λw y=>y.1.cell0 sZ,?_⟩;rw[bo];refine au rfl U ⟨_,λw y=>ao y.2 U U,d.level,λw y=>y.1.cell sZ (j:=2) rfl,ag h λa7 ek h=>⟨⟨by rw[<-bo];exact af 1 h.l,aE 9 h.l⟩,aQ h rfl (by simp[aO]) λcx h=>?_⟩⟩;have cy:aj (hp cx) ⟨aK,0,none⟩ [O d.left,T ap Y av,O d.level]:=af 1 h.l;refine⟨_,_,_,cy.cell sZ (j:=1) rfl,?_⟩;obtain⟨M,aR⟩:∃M,M=[ax o (C F (e j).length I),own 3 F (e j).length I (eV os<|e j),aT<|cJ os<|e j,own 1 q (fh g a).length r ((fh g a).map λy=>Value.string y),own 2 l g.terms.length f<|cX g.terms,own 1 m g.levels.length k<|iv g.levels,ax s [D,D,D,O 0,D],has p]:=⟨_,rfl⟩;have ac:∀{w:ga}{y z:aG},W w (y::z::M)->sub p (hp w):=λ{w y z} h=>by rw[aR] at h;exact aE 9 h.l
  refine⟨λQ w'=>∃(i:Nat)(y:E)(z:Nat),Q=i/\i<=Y/\W w' (ax a7 [O (fE g.T a d.left),T y i z,O d.level]::own 1 y i z (iv<|(d.right.take i).map (fE g.T a))::M),λy _=>Y-y.toNat,⟨0,none,0,rfl,U,?_⟩,?_⟩
  ·have h:=aH 1<|h.pick 10 [0,2,3,4,5,6,7,8,9];rw[aR];exact h.swap
  clear h;rintro _ el bu⟨i,y,z,rfl,em,h⟩
  refine ae (λcz=>?_) λcz=>?_
  ·have a8:i<Y:=G
   obtain⟨Q,cR,aS,bN,bO⟩:=az.dy a8;have en:=cp Q<|gg aS;have bP:Q=((Q.toNat:Nat):Int):=U
   have cA:d.right.take (i+1)=d.right.take i++[Q]:=by rw[iw,aS];rfl
   refine au bN a8 ⟨Q,bO _<|a0<|ac h,λeo cB=>?_⟩;have h:=h.drawn cB;refine⟨λw=>aj (hp w) ⟨a7,0,none⟩ [O (fE g.T a d.left),T y i z,O d.level]/\sub p (hp w),⟨af 0 h.l,ac h⟩,_,_,_,λw bz=>bz.1.cell sZ (j:=1) rfl,_,_,_,λw bz=>an.cell0 bz.2,?_⟩;rw[bP];refine au rfl U ⟨_,λw bz=>ao bz.2 U U,ag h λcC ep h=>⟨⟨af 1 h.l,ac h.tail⟩,?_⟩⟩;refine(aU aY (rfl:ai Ty _=.slice _) (rfl:ai Ty _=.slice _) rfl rfl rfl (h.pick 3 [0,2,1]) rfl (by simp[aO]) G U).mono ?_;rintro _ cF⟨bz,bE,rfl,h⟩;have h:W cF (own 1 bz (i+1) bE (iv ((d.right.take i).map (fE g.T a))++[O (fE g.T a Q)])::ax cC [O (fE g.T a Q)]::ax a7 [O (fE g.T a d.left),T y i z,O d.level]::M):=h;refine⟨_,_,_,rfl,⟨af 2 h.l,ac h.tail⟩,?_⟩;rw[ak];refine aX (h.pick 3 [2,0]) V λer h=>⟨ξ,⟨i+1,bz,bE,V,U,?_⟩,bS a8⟩;have cI:iv ((d.right.take i).map (fE g.T a))++[O (fE g.T a Q)]=iv ((d.right.take<|i+1).map (fE g.T a)):=by rw[cA];simp[iv]
   rw[cI] at h;exact h
  have cA:i=Y:=G
  have bz:=h;subst cA;rw[jy U] at bz;have h:=bz;have bE:(jh g a d).right.length=i:=by show(d.right.map _).length=i;grind
  have h:W bu (ax a7 (sj ((y,z),jh g a d))::own 1 y i z (iv (jh g a d).right)::M):=by
   unfold sj;dsimp only;rw[bE];exact h
  rw[aR] at h;have bN:aj (hp bu) ⟨o,0,none⟩ (C F (e j).length I):=af 2 h.l;rw[a5] at bN;refine⟨_,_,_,bN.cell sZ (j:=4) rfl,_,_,_,_,_,h.row.at sZ rfl,ag h λcB cC h=>?_⟩;have h:W cC [ax cB (sj ((y,z),jh g a d)),ax a7<|sj ((y,z),jh g a d),own 1 y i z<|iv (jh g a d).right,ax o<|C F (e j).length I,own 3 F (e j).length I (eV os<|e j),aT<|cJ os<|e j,own 1 q (fh g a).length r ((fh g a).map λQ=>Value.string Q),own 2 l g.terms.length f<|cX g.terms,own 1 m g.levels.length k<|iv g.levels,ax s [D,D,D,O 0,D],has p]:=h;refine(aU aY (rfl:ai Ty _=.slice _) (rfl:ai Ty _=.slice _) rfl rfl rfl (h.pick 11 [0,4,2,3,5,6,7,8,9,10]) rfl (by simp[aO,sj]) G U).mono ?_;rintro _ en⟨Q,a8,rfl,h⟩;refine⟨_,_,_,rfl,?_⟩;refine aX (h.pick 10 [3,0,2,4,5,6,7,8,9]) (by rw[a5];simp) λcF h=>?_;have cI:(C F (e j).length I).set 4 (T Q ((e j).length+1) a8)=C Q ((e j).length+1) a8:=by rw[a5];rfl
  have bO:e (j+1)=e j++[jh g a d]:=G
  have bP:(e<|j+1).length=(e j).length+1:=by rw[bO,jw];rfl
  have h:W cF [ax o (C Q ((e j).length+1) a8),own 3 Q ((e j).length+1) a8<|eV os (e j)++sj ((y,z),jh g a d),own 1 y i z<|iv (jh g a d).right,aT<|cJ os<|e j,own 1 q (fh g a).length r ((fh g a).map λaS=>Value.string aS),own 2 l g.terms.length f<|cX g.terms,own 1 m g.levels.length k<|iv g.levels,ax s [D,D,D,O 0,D],has p]:=by rw[<-cI];exact h
  have h:=W.snoc (A:=own 1 y i z<|iv (jh g a d).right) (M:=cJ os<|e j)<|h.pick 9 [2,3,0,1,4,5,6,7,8];have aS:=Dy a6 (y,z)<|jh g a d;have cR:=GZ a6 (y,z)<|jh g a d;dsimp only at aS;rw[bE] at aS;rw[<-aS,<-cR,<-bO] at h;refine⟨ξ,⟨j+1,Q,a8,os++[(y,z)],V,U,by rw[bP,jw,a6];rfl,?_⟩,bS be⟩;rw[bP];exact h.pick 8 [1,2,0,3,4,5,6,7]
 simp[W.pu]
end
structure uP(g:B)(A:Int->Int->aF)(G:Int->Int->Int)(t:Int)(Q:Az->Prop):Prop where
 red:∀l,Q l->(A (pJ l) t).kind=2->∃p,0<=(A (pJ l) t).to/\g.prods[(A (pJ l) t).to.toNat]? =some p/\p.right.length<=l.length/\0<=p.left/\p.left<=1000000/\Q (l.take (l.length-p.right.length)++[G (pJ (l.take (l.length-p.right.length))) (p.left-g.T)])
structure s6 where
 kept:Nat
 ab:Az
 ms:List aF
 o:E
 c:Nat
abbrev Sp(m:Nat)(x:GA)(a:aC)(v:ah)(o:E)(n c:Nat):Ay:=[u (some (Z m)),T x.ta x.tl x.tc,T x.na x.nl x.nc,T x.la x.ll x.lc,O x.s,T x.pa x.pl x.pc,.iface a v,T o n c]
structure s9(g:B)(A:Int->Int->aF)(G:Int->Int->Int)(t:Int)(Q:Az->Prop)(m k b:Nat)(x:GA)(T:aC)(v:ah)(st:Az)(r0:rN)(L:List aG)(y:s6)(w:ga):Prop where
 kl:y.kept<=st.length
 hl:y.kept+y.ab.length<=64
 ml:y.ms.length<=1024
 q:Q (st.take y.kept++y.ab)
 e:X2 g A G t (1024-y.ms.length) (st.take y.kept++y.ab) y.ms=r0
 s:W w (LC m k y.kept y.ab::ax b (Sp m x T v y.o y.ms.length y.c)::own 2 y.o y.ms.length y.c (dE y.ms)::L)
section
variable{w:ga}{L:List aG}{g:B}{A:Int->Int->aF}{i:Int->Int->Int}{t:Int}{Q:Az->Prop}{m k b:Nat}{x:GA}{r:aC}{v:ah}{st:Az}{F:rN}{N:s6}{H:Hp}
theorem Tw(n:Nat)(l:Az)(ms:List aF):X2 g A i t n l ms=rQ g A i t (match n with|0=>λ_ _=>none|n+1=>X2 g A i t n) l ms:=by cases n<;>rfl
theorem TA(a0:zQ r v H A i)(aK:uP g A i t Q)(aR:jq g)(I:∀h,aL L h->FH h k st/\sub H h/\gR h g x)(h0:s9 g A i t Q m k b x r v st F L N w):
  ρ 220 [u (some (Z b)),O t] w λaa ab=>
   (F=none/\aa=.tuple #[J false,O 15]/\W ab L)\/
   ∃(y:s6)(f:Bool),F=some (f,y.ms,st.take y.kept++y.ab)/\aa=.tuple #[J f,O 0]/\y.kept<=st.length/\y.kept+y.ab.length<=64/\y.ms.length<=1025/\Q (st.take y.kept++y.ab)/\
    W ab (LC m k y.kept y.ab::ax b (Sp m x r v y.o y.ms.length y.c)::own 2 y.o y.ms.length y.c (dE y.ms)::L):=by
 refine za ⟨λa=>∃y,s9 g A i t Q m k b x r v st F L y a,XZ (s9 g A i t Q m k b x r v st F L) λy=>1024-y.ms.length,⟨N,h0⟩,?_⟩;intro _ c5 ac;obtain⟨y,⟨P,a5,c6,a1,c,h⟩,c7⟩:=Dz (f:=λy:s6=>1024-y.ms.length) ac;clear h0 ac;have aS:(st.take y.kept++y.ab).length=y.kept+y.ab.length:=η
 have ad:∀h,aL (ax b (Sp m x r v y.o y.ms.length y.c)::own 2 y.o y.ms.length y.c (dE y.ms)::L) h->FH h k st:=λh a=>(I _<|ay<|ay a).1;obtain⟨a,R⟩:∃d,d=A (pJ<|st.take y.kept++y.ab) t:=⟨_,rfl⟩;have a2:∀v∈bR a,aO v=true:=λv d=>by simp[bR] at d;rcases d with rfl|rfl<;>rfl
 refine⟨λe l=>∃d,e=some (Z d)/\W l (ax d (bR a)::LC m k y.kept y.ab::ax b (Sp m x r v y.o y.ms.length y.c)::own 2 y.o y.ms.length y.c (dE y.ms)::L),λc8 aV=>?_,?_⟩
 ·have d:=h.drawn aV
  refine⟨λe=>aj (hp e) (Z b)<|Sp m x r v y.o y.ms.length y.c,af 1 d.l,r,v,λl e=>e.cell sZ (j:=6) rfl,some<|Z m,λl e=>e.cell0 sZ,?_,?_⟩
  ·refine(Zx d ad P U).mono ?_;rintro _ o⟨rfl,p⟩;have e:=d.eq p
   refine⟨_,rfl,af 1 e.l,?_,?_⟩
   ·obtain⟨q,s,C,S⟩:=a0.act o (pJ<|st.take y.kept++y.ab) t (I _ e.tail.tail.tail).2.1;refine⟨q,s,C,S.mono ?_⟩;rintro _ a6⟨rfl,Y⟩;rw[<-R];exact⟨_,_,rfl,ag (e.gr Y) λa3 a7 l=>⟨af 2 l.l,aQ l rfl a2 λa8 a4=>⟨a3,rfl,a4⟩⟩⟩
   ·refine ag e λq s l=>⟨af 2 l.l,?_⟩;obtain⟨C,S,Y,a3⟩:=a0.act s (pJ<|st.take y.kept++y.ab) t (I _ l.tail.tail.tail.tail).2.1;refine⟨C,S,Y,a3.mono ?_⟩;rintro _ a7⟨rfl,a4⟩;rw[<-R];exact⟨_,_,rfl,aQ (l.gr a4) rfl a2 λa8 a6=>⟨q,rfl,a6⟩⟩
  ·refine ag d λo a6 e=>⟨af 2 e.l,(Zx e.swap (λh l=>ad h<|ay l) P U).mono ?_⟩;rintro _ p⟨rfl,q⟩;have l:=e.eq q;obtain⟨s,C,S,Y⟩:=a0.act p (pJ<|st.take y.kept++y.ab) t (I _ l.tail.tail.tail.tail).2.1;refine⟨_,rfl,af 2 l.l,s,C,S,Y.mono ?_⟩;rintro _ a7⟨rfl,a3⟩;rw[<-R];exact⟨_,_,rfl,aQ (l.gr a3) rfl a2 λa8 a4=>⟨o,rfl,a4⟩⟩
 ·rintro _ _ c9⟨C,rfl,h⟩
  have a6:∀{l:ga}{o:ga->Prop},W l (ax C (bR a)::LC m k y.kept y.ab::ax b (Sp m x r v y.o y.ms.length y.c)::own 2 y.o y.ms.length y.c (dE y.ms)::L)->
    (∀d e p,W d (LC m k y.kept y.ab::ax b (Sp m x r v e (y.ms++[a]).length p)::own 2 e (y.ms++[a]).length p (dE<|y.ms++[a])::ax C (bR a)::L)->o d)->
    ∀e,drawn l e->∃d:ga->Prop,d e/\∃p q s,(∀S,d S->S.cell? ((Z b).add 7)=some (T p q s))/\∃S Y,(∀a3,d a3->iA a3 (Z C) 0 2=some [O S,O Y])/\
     new e (oC [O S,O Y] td) λal a3=>d a3/\rS (ft bH<|Array.mk [T p q s,T (some<|Z al) 1 1]) a3 λam a4=>∃a7 a8 a9,am=T a7 a8 a9/\d a4/\gh a4 ((Z b).add 7) (T a7 a8 a9) o:=by
   intro av az h a9 aB an;have h:=h.drawn an;refine⟨λz=>aj (hp z) (Z b) (Sp m x r v y.o y.ms.length y.c)/\aj (hp z) (Z C) (bR a),⟨af 2 h.l,af 0 h.l⟩,_,_,_,λz a7=>a7.1.cell sZ (j:=7) rfl,_,_,λz a7=>a7.2.at sZ rfl,ag h λb0 b1 h=>⟨⟨af 3 h.l,af 1 h.l⟩,?_⟩⟩;refine(aU (us:=dE y.ms) (vs:=bR a) aY (rfl:ai Ty _=.slice _) (rfl:ai Ty _=.slice _) rfl rfl rfl (h.pick 5 [0,4,1,2,3]) rfl a2 G U).mono ?_;rintro _ ao⟨a7,a8,rfl,h⟩;refine⟨_,_,_,rfl,⟨af 4 h.l,af 2 h.l⟩,?_⟩;rw[ak];have h:W ao (ax b (Sp m x r v y.o y.ms.length y.c)::own 2 a7 (y.ms.length+1) a8 (dE y.ms++bR a)::LC m k y.kept y.ab::ax C (bR a)::L):=h.pick 5 [4,0,3,2];refine aX h V λb2 h=>a9 _ a7 a8 ?_;have ap:dE (y.ms++[a])=dE y.ms++bR a:=by simp[dE]
   rw[ap,jw,pK];exact h.pick 4 [2,0,1,3]
  rw[Tw] at c;unfold rQ at c;rw[<-R] at c
  refine⟨a.kind,h.cell 0,ae (λb0=>?_) λb0=>ae (λb1=>?_) λb1=>ae (λb2=>?_) λb2=>?_⟩
  ·have e:a.kind=1:=G
   rw[gD e] at c;refine⟨some<|Z m,(af 2 h.l).cell0 sZ,(JL h.swap U U).mono ?_⟩;rintro _ q⟨rfl,l⟩;have h:=h.eq l
   refine⟨_,rfl,ae (λd=>?_) λd=>?_⟩
   ·have o:=gZ d;rw[gD U] at c;exact .inl ⟨c.symm,rfl,h.tail.tail.tail.tail⟩
   ·have s:=hY d;rw[gv U] at c;exact a6 h λS o p h=>.inr ⟨⟨y.kept,y.ab,y.ms++[a],o,p⟩,true,c.symm,rfl,P,a5,η,a1,h.pick 4 [0,1,2]⟩
  ·have d:¬a.kind=1:=G
   have e:a.kind=3:=G
   rw[gv d,gD e] at c;exact a6 h λp l o h=>.inr ⟨⟨y.kept,y.ab,y.ms++[a],l,o⟩,true,c.symm,rfl,P,a5,η,a1,h.pick 4 [0,1,2]⟩
  ·have b3:¬a.kind=1:=G
   have b4:¬a.kind=3:=G
   have b5:a.kind=2:=G
   rw[gv b3,gv b4,gD b5] at c;obtain⟨d,b6,a3,ca,cb,cc,al⟩:=aK.red _ a1 η;rw[<-R] at b6 a3;rw[a3] at c;dsimp only at c
   refine⟨_,_,_,(af 2 h.l).cell sZ (j:=7) rfl,ae (λa7=>?_) λa7=>?_⟩
   ·have l:=gZ a7;have e:1024-y.ms.length=0:=U
    rw[e] at c;dsimp only at c;exact .inl ⟨G,rfl,h.tail.tail.tail.tail⟩
   have cd:=hY a7;refine a6 h λce p q h=>λcg b7=>?_;have h:=h.drawn b7;obtain⟨s,b9⟩:∃e,e=(y.ms++[a]).length:=⟨_,rfl⟩;have ch:s=y.ms.length+1:=η
   rw[<-b9] at h;obtain⟨h0,am,h⟩:=W.mn [_,_,_,_] (M:=L) h;obtain⟨ba,bb,a4⟩:=I h0 am;obtain⟨an,ao⟩:∃e:Nat,a.to=e:=⟨a.to.toNat,U⟩;rw[ao,je] at a3;obtain⟨ci,vs,bc,bd,S,l,Y,rfl,_,be⟩:=a4.p.2 an d a3;have bi:an<x.pl:=by rw[<-a4.p.1];grind
   have bl:d.right.length=l:=be.1;have bo:(g.T:Int)=x.tl:=by have:=a4.t.1;show(g.terms.length:Int)=_;omega
   have ck:x.tl<=17592186044416:=by rw[<-a4.t.1];exact aR.1
   refine⟨λz=>aj (hp z) (Z b) (Sp m x r v p s q)/\aj (hp z) (Z C) (bR a)/\sub h0 (hp z),⟨af 1 h.l,af 3 h.l,aE 4 h.l⟩,x.pa,x.pl,x.pc,λz e=>by rw[ke];exact e.1.cell sZ (j:=5) rfl,a.to,λz e=>e.2.1.cell sZ (j:=1) rfl,?_⟩;rw[ao];refine aI bc bi ⟨d.left,S,l,Y,d.level,λz e=>(bd.mono e.2.2).at sZ rfl,ag h λa8 cl h=>⟨⟨af 2 h.l,af 4 h.l,aE 5 h.l⟩,aQ h rfl (by intro v e;simp at e;rcases e with rfl|rfl|rfl<;>rfl) λcm h=>λcn bs=>?_⟩⟩;have h:=h.drawn bs;refine⟨λz=>aj (hp z) (Z b) (Sp m x r v p s q)/\aj (hp z) (Z a8) [O d.left,T S l Y,O d.level],⟨af 2 h.l,af 0 h.l⟩,some<|Z m,λz e=>e.1.cell0 sZ,S,l,Y,λz e=>e.2.cell sZ (j:=1) rfl,?_⟩;have bu:l<=y.kept+y.ab.length:=U
   refine(Hm (n:=l) h.swap U U bu).mono ?_;rintro _ co⟨rfl,h⟩;obtain⟨o,ap⟩:∃e,e=y.kept-(l-y.ab.length):=⟨_,rfl⟩;obtain⟨e,av⟩:∃a9,a9=y.ab.take (y.ab.length-l):=⟨_,rfl⟩;rw[<-ap,<-av] at h;have cp:e.length=y.ab.length-l:=G
   have bz:(st.take y.kept++y.ab).take ((st.take y.kept++y.ab).length-d.right.length)=st.take o++e:=by
    rw[aS,bl,List.take_append,ap,av,List.take_take,k5]
    grind
   have bE:(st.take y.kept++y.ab).length-d.right.length=o+e.length:=U
   rw[bz] at c al;rw[bE] at c;have bN:∀h,aL (ax a8 [O d.left,T S l Y,O d.level]::ax b (Sp m x r v p s q)::own 2 p s q (dE<|y.ms++[a])::ax C (bR a)::[has h0]) h->FH h k st:=λh a9=>ba.mono<|aE 4 a9;have az:∀{a9:ga}{X:List aG},W a9 (X++[has h0])->W a9 (X++L):=λh=>h.on am
   refine⟨_,rfl,λz a9=>(64<=o+e.length/\z=15/\W a9 L)\/(o+e.length<64/\z=0/\W a9 (LC m k o (e++[i (pJ<|st.take o++e) (d.left-g.T)])::ax b (Sp m x r v p s q)::own 2 p s q (dE<|y.ms++[a])::L)),λcq bO=>?_,?_⟩
   ·have h:=h.drawn bO;refine⟨λz=>aj (hp z) (Z b) (Sp m x r v p s q)/\aj (hp z) (Z a8) [O d.left,T S l Y,O d.level],⟨af 2 h.l,af 1 h.l⟩,some<|Z m,λz a9=>a9.1.cell0 sZ,r,v,λz a9=>a9.1.cell sZ (j:=6) rfl,some<|Z m,λz a9=>a9.1.cell0 sZ,d.left,λz a9=>a9.2.cell0 sZ,x.ta,x.tl,x.tc,λz a9=>a9.1.cell sZ (j:=1) rfl,ξ,?_⟩;refine(Zx h bN U U).mono ?_;rintro _ aB⟨rfl,bP⟩;have h:=h.eq bP;obtain⟨bT,c0,c1,c2⟩:=a0.tgt aB (pJ<|st.take o++e) (d.left-x.tl)<|bb.trans<|aE 5 h.l;refine⟨_,rfl,⟨af 2 h.l,af 1 h.l⟩,bT,c0,c1,c2.mono ?_⟩;rintro _ cs⟨rfl,c3⟩;have h:=h.gr c3;rw[<-bo];refine⟨_,rfl,⟨af 2 h.l,af 1 h.l⟩,(G7 (z:=i (pJ<|st.take o++e)<|d.left-g.T) h U U).mono ?_⟩
    rintro _ ct (⟨a9,rfl,c4⟩|⟨a9,rfl,h⟩)
    ·have h:=h.eq c4;exact⟨_,rfl,⟨af 2 h.l,af 1 h.l⟩,.inl ⟨a9,rfl,az (X:=[]) h.tail.tail.tail.tail.tail⟩⟩
    ·exact⟨_,rfl,⟨af 2 h.l,af 1 h.l⟩,.inr ⟨a9,rfl,az (X:=[_,_,_])<|h.pick 5 [0,2,3]⟩⟩
   ·rintro _ _ bP (⟨a9,rfl,h⟩|⟨a9,rfl,h⟩)
    ·rw[gD a9] at c;exact gd rfl (.inl ⟨c.symm,rfl,h⟩)
    ·rw[gv U] at c;have bT:1024-y.ms.length=(1024-(y.ms++[a]).length)+1:=U
     rw[bT] at c;dsimp only at c
     have aB:s9 g A i t Q m k b x r v st F L ⟨o,e++[i (pJ<|st.take o++e) (d.left-g.T)],y.ms++[a],p,q⟩ bP:=by
      refine⟨G,G,G,?_,?_,?_⟩
      ·show Q (st.take o++(e++[_]));rw[<-jT];exact al
      ·grind
      grind
     refine bm rfl ⟨⟨_,aB⟩,?_⟩;have c0:=B8 (f:=λy:s6=>1024-y.ms.length) aB
     grind
  ·have d:¬a.kind=1:=G
   have e:¬a.kind=3:=G
   have bQ:¬a.kind=2:=G
   rw[gv d,gv e,gv bQ] at c;exact .inr ⟨⟨y.kept,y.ab,y.ms,y.o,y.c⟩,false,c.symm,rfl,P,a5,G,a1,h.tail⟩
end
section
variable{g:B}{nn:At}{ss:List SQ}
theorem VH(a:aw g)(b:bG g ss){q m d:Nat}{r:SQ}{p:aD}{s:Int}(c:ss[q]? =some r)(e:wS g r.1.2 ⟨(m:Int),(d:Int)⟩)(hp:g.prods[m]? =some p)(f:p.right[d]? =some s)(h:(g.T:Int)<=s):∃(v j:Nat)(r':SQ),(b_ g ss)[v]? =some ⟨(q:Int),s⟩/\dt ss q s=some (j:Int)/\ss[j]? =some r'/\(⟨(m:Int),((d+1:Nat):Int)⟩:aq)∈r'.1.2:=by
 obtain⟨j,r',i,k,l⟩:=nF a b c e (e_ hp f) U
 grind[zL]
end
inductive M7 (g:B) (ss:List SQ):Nat->Nat->Nat->Nat->Prop
 |st:M7 g ss 0 0 0 0
 |sh (q m d j x:Nat) (p:aD) (s:Int):g.prods[m]? =some p->p.right[d]? =some s->dt ss q s=some (j:Int)->M7 g ss q m d x->M7 g ss j m (d+1) x
 |fs (q m d n x:Nat) (p p':aD) (s:Int) (r:SQ):ss[q]? =some r->wS g r.1.2 ⟨(m:Int),(d:Int)⟩->g.prods[m]? =some p->p.right[d]? =some s->g.prods[n]? =some p'->p'.left=s->wo g (p.right.drop (d+1)) x->M7 g ss q n 0 x
 |up (q m d n x:Nat) (p p':aD) (s:Int):g.prods[m]? =some p->p.right[d]? =some s->g.prods[n]? =some p'->p'.left=s->W3 g (p.right.drop (d+1))->M7 g ss q m d x->M7 g ss q n 0 x
section
variable{g:B}{nn:At}{ss:List SQ}
theorem M7.RB(hc:aw g)(hA:bG g ss){m i x:Nat}{p:aD}(hp:g.prods[m]? =some p)(h:M7 g ss i m 0 x)(hi:i<ss.length):∀(d q:Nat),d<=p.right.length->dI ss (i:Int) (p.right.take d)=(q:Int)->M7 g ss q m d x/\q<ss.length
 |0,q,_,hw=>by
  rw[List.take_zero] at hw
  have hw:(i:Int)=q:=hw
  grind
 |d+1,q,hd,hw=>by
  have hs:p.right[d]? =some p.right[d]:=gn U
  rw[cH hs,D7 (λi s j h=>eZ hc hA h) _ _ _ (kF _) U] at hw
  obtain⟨k,hk⟩:∃k,k=dI ss (i:Int) (p.right.take d):=⟨_,rfl⟩
  rw[<-hk] at hw
  by_cases h0:k=-1
  ·omega
  ·rw[gv h0] at hw
   have hk0:0<=k:=by
    rcases D6 (ss:=ss) (λi s j h=>eZ hc hA h) (p.right.take d) i (kF _) U with h|h
    ·omega
    omega
   obtain⟨k',rfl⟩:∃k':Nat,k=k':=⟨k.toNat,U⟩
   obtain⟨ih,ihl⟩:=M7.RB hc hA hp h hi d k' U hk.symm
   rw[ng,je] at hw
   cases hn:dt ss k' p.right[d] with
   |none=>simp_all
   |some j=>
    rw[hn] at hw
    have hw:dI ss j []=(q:Int):=hw
    have hj:j=q:=hw
    subst hj
    obtain⟨_,_,_,_,_,_,hto⟩:=j8 hn
    exact⟨.sh k' m d q x p _ hp hs hn ih,(eZ hc hA hn).2 |> λh=>U⟩
theorem TZ(d:aw g){p:aD}(hp:p∈g.prods){s:Int}(a:s∈p.right):s≠g.T:=by
 obtain⟨_,l,b,m,e,n,f,_⟩:=d;obtain⟨h,c⟩:=jR hp;cases h with
 |zero=>
  rw[e] at c;cases c;rw[f,jA] at a;have:=b.2.2.2.2.1;omega
 |succ j=>
  have k:p∈g.prods.drop 1:=by
   refine gg (i:=j) ?_
   simp_all
  have:=(b.2.2.1 p k).2 s a
  grind[gI]
theorem OX(a:aw g){n:Nat}{p b:aD}{s:Int}(hp:p∈g.prods)(c:s∈p.right)(e:g.prods[n]? =some b)(f:b.left=s):n≠0:=λd=>by
 subst d
 have h:=TZ a hp c
 obtain⟨_,_,_,i,j,k,_⟩:=a
 simp_all
theorem T2(a:aw g)(b:bG g ss)(q:tC g nn){v x:Nat}(h:iS (CN g nn ss) (Vs g nn ss) v x):∀(i:Nat) t,(b_ g ss)[v]? =some t->t.st=i->∀(n:Nat) p',g.prods[n]? =some p'->p'.left=t.sym->M7 g ss i n 0 x:=by
 refine iS.least (Q:=λv x=>∀(i:Nat) t,(b_ g ss)[v]? =some t->t.st=i->∀(n:Nat) p',g.prods[n]? =some p'->p'.left=t.sym->M7 g ss i n 0 x) (λv x r i t c s n p' f j=>?_) (λv l x F I i t c s n p' f j=>?_) h
 ·rw[TR (gJ.1 c).1] at r;obtain⟨e,a5,_,L⟩:=ni.1 r;have:e=x:=U
  subst this;obtain⟨d,N,P,R,S,p,a6,X,a7,Y,a0⟩:=CR a b c;have:d=i:=U
  subst this
  rcases LP a b q L d N t c S X with⟨rfl,rfl⟩|a1
  ·have k:d=0:=G
   subst k;obtain⟨_,_,_,m,o,w,z,_⟩:=a;exact .up 0 0 0 n 0 m p' _ o η f j (λA C=>η) .st
  ·obtain⟨a8,w,k⟩:=a1.item a b R Y;rw[a0] at w;obtain⟨y,a2,z,rfl⟩:=dh.1 w;obtain⟨m,hp,A,_⟩:=zC (y:=y) (by rw[z];omega);obtain⟨a9,aa,ab,ac,_,_⟩:=a.cR;have a3:=(iO b p).1;have o:=a2.fit<|(ik (g:=g) U d).fit _ (gg a3);have a4:(y.dot+1).toNat=y.dot.toNat+1:=by have:=o.2.1;omega
   unfold rest at k;rw[show g.prods[((⟨y.prod,y.dot+1⟩:aq).prod).toNat]? =some m from hp] at k;have C:wo g (m.right.drop (y.dot+1).toNat) e:=k;rw[a4] at C;rw[z] at A;refine .fs d y.prod.toNat y.dot.toNat n e m p' _ P p ?_ hp A f j C
   have ad:(⟨(y.prod.toNat:Int),(y.dot.toNat:Int)⟩:aq)=y:=by
    have al:=o.1;have am:=o.2.1;cases y;grind
   simp_all
 ·obtain⟨a2,L,k⟩:=zJ.1 F;have m:(b_ g ss)[l]? =some (b_ g ss)[l]:=gn L;unfold D_ at k;rw[m] at k;simp only[List.any_eq_true] at k;obtain⟨o,a3,w⟩:=k;rw[jn] at w;obtain⟨_,p⟩:=w;cases hp:g.prods[o]? with
  |none=>simp_all
  |some d=>
   rw[hp] at p;simp only[jn,List.any_eq_true,jV] at p;obtain⟨N,e,P,z,R⟩:=p;have a4:=jY.1 P;rw[c] at z;have S:=Option.some.inj z;subst S;obtain⟨X,a5,a6,_,A,Y,_⟩:=CR a b m;have a0:d.right[e]? =some (d.right.getD e 0):=η
   have C:dI ss (b_ g ss)[l].st (d.right.take e)=(i:Int):=s;rw[A] at C;have a1:=I X _ m A o d hp N;have:=(a1.RB a b hp (gJ.1 Y).1 e i U C).1;exact .up i o e n x d p' _ hp a0 f j ((Rr a q).1 R) this
structure V0(g:B)(nn:At)(ss:List SQ)(q m d x:Nat):Prop where
 it:∃r,ss[q]? =some r/\wS g r.1.2 ⟨(m:Int),(d:Int)⟩
 pr:∃p,g.prods[m]? =some p/\d<=p.right.length/\(m=0->x=0/\dI ss 0 (p.right.take d)=(q:Int))/\
  (m≠0->∃(i v:Nat),(b_ g ss)[v]? =some ⟨(i:Int),p.left⟩/\dI ss (i:Int) (p.right.take d)=(q:Int)/\iS (CN g nn ss) (Vs g nn ss) v x)
theorem M7.inv(a:aw g)(b:bG g ss)(v:tC g nn){q m d x:Nat}(h:M7 g ss q m d x):V0 g nn ss q m d x:=by
 have w:=a;obtain⟨_,_,y,z,j,a2,k,_⟩:=w;have a3:=y.2.2.2.2.1;have A:=b.pos
 induction h with
 |st=>
  obtain⟨c,e⟩:∃f,ss[0]? =some f:=⟨_,gn A⟩;have f:=(iO b e).1
  have i:c.1.2=[⟨0,0⟩]:=by
   have:(gb g 0).1[0]? =some [⟨0,0⟩]:=rfl
   simp_all
  exact⟨⟨c,e,.base η⟩,z,j,gu _,λ_=>⟨rfl,rfl⟩,λh=>absurd rfl h⟩
 |sh q m d i x e Q hp c l _ o=>
  obtain⟨⟨R,p,r⟩,S,n,X,s,t⟩:=o;rw[hp] at n;cases n;have C:=(gJ.1 c).1;have Y:=a.sym (gg hp)<|gg c;obtain⟨F,I,L,N,a0⟩:=nF a b p r (e_ hp c) U;rw[l] at L;have:i=F:=G
  subst this
  have a1:∀f:Nat,f<ss.length->dI ss (f:Int) (e.right.take d)=(q:Int)->dI ss (f:Int) (e.right.take<|d+1)=(i:Int):=λP a4 f=>by
   rw[cH c,D7 (λa5 a6 a7 h=>eZ a b h) _ _ _ (kF _) U,f,gv U,ng,je,l];rfl
  refine⟨⟨I,N,.base η⟩,e,hp,C,λf=>⟨(s f).1,?_⟩,λf=>?_⟩
  ·grind
  ·obtain⟨a4,a5,P,a6,a7⟩:=t f;obtain⟨a8,_,a9,_,aa,ab,_⟩:=CR a b P
   grind
 |fs q m d Q x R r s t e f hp i c l C=>
  have F:(g.T:Int)<=s:=by rw[<-l];exact a.left (gg c)
  obtain⟨n,S,X,o,I,L,N⟩:=VH a b e f hp i F;have P:=OX a (gg hp) (gg i) c l;refine⟨⟨t,e,.step f (by grind[e_]) c (by simp_all[e_])⟩,r,c,gu _,λh=>absurd h P,λ_=>⟨q,n,η,rfl,iS.iff.2<|.inl ?_⟩⟩;have p:=(LU.afK a b hp L (.base N) C).has a b v n q _ o rfl I;have Y:=LR a b p;obtain⟨a0,_⟩:=a.cR;rw[TR (gJ.1 o).1];exact ni.2 ⟨x,rfl,U,p⟩
 |up q m d a4 x a5 C l hp c e n a6 _ F=>
  obtain⟨⟨I,o,p⟩,a7,r,a8,L,N⟩:=F;rw[hp] at r;cases r;have P:(g.T:Int)<=l:=by rw[<-n];exact a.left (gg e)
  obtain⟨s,a9,aa,f,Q,ab,ac⟩:=VH a b o p hp c P;have R:=OX a (gg hp) (gg c) e n;refine⟨⟨I,o,.step p (by grind[e_]) e (by simp_all[e_])⟩,C,e,gu _,λh=>absurd h R,λ_=>⟨q,s,η,rfl,?_⟩⟩
  by_cases i:m=0
  ·subst i;obtain⟨rfl,t⟩:=L rfl;rw[j] at hp;cases hp;have S:=(gJ.1 c).1;rw[k] at S;have X:d=0:=η
   subst X;have ad:(0:Int)=q:=t;have Y:q=0:=U
   subst Y;rw[k] at c;have a0:g.start=l:=Option.some.inj c;subst a0;obtain⟨al,_⟩:=a.cR;have a1:iS (zw g nn ss) (xM g ss) s 0:=iS.iff.2<|.inl<|(OS a b f rfl Q).2 (.inl ⟨rfl,rfl⟩);refine iS.iff.2<|.inl ?_;rw[TR (gJ.1 f).1];exact ni.2 ⟨0,rfl,U,a1⟩
  ·obtain⟨Y,S,t,a0,X⟩:=N i;refine iS.iff.2<|.inr ⟨S,zJ.2 ⟨(gJ.1 f).1,(gJ.1 t).1,?_⟩,X⟩;unfold D_;rw[t];simp only[List.any_eq_true,jY];refine⟨m,(gJ.1 hp).1,?_⟩;rw[kG i,oJ,hp];simp only[decide_true,oJ,List.any_eq_true,jY,jn,jV]
   grind[List.getElem?_eq_some_iff,Rr]
theorem RC(a:aw g)(b:bG g ss)(d:tC g nn){q m:Nat}{p:aD}(hp:g.prods[m]? =some p)(l:m≠0){z:Int}:z∈(mh g (Ro g nn ss) ⟨(q:Int),(m:Int),dK (b_ g ss).length (fA g ss q m)⟩).tm↔∃x:Nat,z=x/\x<g.T/\M7 g ss q m p.right.length x:=by
 rw[Rs];refine exists_congr λx=>and_congr_right λ_=>and_congr_right λF=>?_
 constructor
 ·rintro⟨I,n,e⟩;obtain⟨f,rfl,h,o⟩:=gL.1 n;have c:(b_ g ss)[f]? =some (b_ g ss)[f]:=gn h;obtain⟨r,L,i,s⟩:=(An c).1 o;rw[hp] at i;cases i;obtain⟨_,N,j,t⟩:=sx.1 r;rw[hp] at j;cases j;rw[je,zN h] at e;obtain⟨v,P,_,w⟩:=ni.1 e;have:v=x:=U
  subst this;obtain⟨y,_,Q,_,k,A,_⟩:=CR a b c;have C:=T2 a b d w y _ c k m p hp t;rw[k] at s;exact(C.RB a b hp (gJ.1 A).1 p.right.length q (gP _) η).1
 ·intro j;obtain⟨_,o,c,_,_,k⟩:=j.inv a b d;rw[hp] at c;cases c;obtain⟨r,e,f,h,n⟩:=k l;rw[jl] at h;have i:=(gJ.1 f).1;obtain⟨s,_⟩:=a.cR;refine⟨(e:Int),gL.2 ⟨e,rfl,i,(An f).2 ⟨sx.2 ⟨U,p,hp,rfl⟩,p,hp,h⟩⟩,?_⟩;rw[je,zN i];exact ni.2 ⟨x,rfl,U,n⟩
end
inductive Tr where
 |lf (s:Int) (k:Nat)
 |nd (n:Nat) (l:List Tr)
abbrev Tk:=Int×Nat
inductive Dv (g:B):List Tr->Az->List Tk->Prop
 |nil:Dv g [] [] []
 |lf (s:Int) (k:Nat) (l:List Tr) (r:Az) (y:List Tk):0<=s->s<g.T->Dv g l r y->Dv g (.lf s k::l) (s::r) ((s,k)::y)
 |nd (n:Nat) (p:aD) (ks l:List Tr) (r:Az) (z y:List Tk):g.prods[n]? =some p->Dv g ks p.right z->Dv g l r y->Dv g (.nd n ks::l) (p.left::r) (z++y)
abbrev xO:=Int×Nat×Tr
def bV:List xO->Nat
 |[]=>0
 |e::_=>e.2.1
def lK(ss:List SQ):List xO->Prop
 |[]=>True
 |e::l=>dt ss (bV l) e.1=some (e.2.1:Int)/\lK ss l
abbrev nh:=List xO×List Tk
def Kz(g:B)(A:Nat->Int->aF)(G:Nat->Int->Nat):nh->Option nh
 |(l,[])=>none
 |(l,(s,k)::y)=>
  if(A (bV l) s).kind=1 then some ((s,(A (bV l) s).to.toNat,.lf s k)::l,y)
  else if(A (bV l) s).kind=2 then
   match g.prods[(A (bV l) s).to.toNat]? with
   |none=>none
   |some p=>some ((p.left,G (bV (l.drop p.right.length)) p.left,.nd (A (bV l) s).to.toNat ((l.take p.right.length).map (·.2.2)).reverse)::l.drop p.right.length,(s,k)::y)
  else none
inductive Rn (g:B) (A:Nat->Int->aF) (G:Nat->Int->Nat):nh->nh->Prop
 |refl (c:nh):Rn g A G c c
 |step (c d e:nh):Kz g A G c=some d->Rn g A G d e->Rn g A G c e
section
variable{g:B}{nn:At}{ss:List SQ}{A:Nat->Int->aF}{i:Nat->Int->Nat}
theorem Rn.trans{c d e:nh}(h:Rn g A i c d)(h':Rn g A i d e):Rn g A i c e:=by
 induction h with
 |refl c=>exact h'
 |step c d e a _ b=>exact .step _ _ _ a (b h')
theorem Rn.det{c d e:nh}(h:Rn g A i c d)(h':Rn g A i c e)(b:Kz g A i d=none)(j:Kz g A i e=none):d=e:=by
 induction h with
 |refl c=>
  cases h' with
  |refl=>rfl
  |step _ _ _ a _=>rw[b] at a;cases a
 |step c m d a _ k=>
  cases h' with
  |refl=>rw[j] at a;cases a
  |step _ _ _ f l=>rw[a] at f;cases f;exact k l b
theorem Dv.len{l:List Tr}{r:Az}{y:List Tk}(h:Dv g l r y):l.length=r.length:=by
 induction h with
 |nil=>rfl
 |lf=>simp_all
 |nd=>simp_all
theorem Dv.nul{l:List Tr}{r:Az}{y:List Tk}(h:Dv g l r y)(a:y=[]):W3 g r:=by
 induction h with
 |nil=>exactλs hs=>by cases hs
 |lf=>cases a
 |nd f b i l r j y hp _ _ c d=>
  obtain⟨rfl,rfl⟩:=List.append_eq_nil_iff.1 a;intro e hs
  rcases jb.1 hs with rfl|hs
  ·exact .mk b (gg hp) (c rfl)
  ·exact d rfl e hs
theorem Dv.fst{l:List Tr}{r:Az}{y:List Tk}(h:Dv g l r y):∀{s:Int}{k:Nat}{v:List Tk},y=(s,k)::v->wo g r s.toNat/\0<=s/\s<g.T:=by
 induction h with
 |nil=>intro s k v a;cases a
 |lf s k l r y a b _ _=>
  intro d e v c;cases c;refine⟨wo.head ?_,a,b⟩;have:=W2.tm (g:=g) s.toNat U;rwa [Int.toNat_of_nonneg a] at this
 |nd i b j l r c y hp d _ e f=>
  intro s k v a;cases c with
  |nil=>
   have h:=f a;exact⟨wo.skip (.mk b (gg hp)<|d.nul rfl) h.1,h.2⟩
  |cons m n=>
   cases a;have h:=e rfl;exact⟨wo.head<|wo.left (gg hp) h.1,h.2⟩
structure nr(g:B)(nn:At)(ss:List SQ)(A:Nat->Int->aF)(i:Nat->Int->Nat):Prop where
 one:∀(q t:Nat)(a:aF),q<ss.length->t<g.T->a∈fe g nn ss q t->A q t=a
 gt:∀(q j:Nat)(s:Int),(g.T:Int)<=s->dt ss q s=some (j:Int)->i q s=j
theorem TX{q:Nat}{s j:Int}(h:dt ss q s=some j):q<ss.length:=by
 obtain⟨b,_,_,a,_⟩:=j8 h;exact(gJ.1 a).1
theorem nr.shift(a:nr g nn ss A i){q j s:Nat}(b:s<g.T)(h:dt ss q (s:Int)=some (j:Int)):A q s=⟨1,j⟩:=by
 refine a.one q s _ (TX h) b ?_;unfold fe Vy;rw[h];simp
theorem V1(a:aw g)(b:bG g ss)(c:tC g nn){q m x:Nat}{p:aD}(hp:g.prods[m]? =some p)(f:m≠0)(i:x<g.T)(h:M7 g ss q m p.right.length x):(⟨2,(m:Int)⟩:aF)∈Ps (dD g nn ss) q x:=by
 have d:=(RC a b c hp f (z:=(x:Int))).2 ⟨x,rfl,i,h⟩;obtain⟨r,j,_⟩:=(h.inv a b c).it;have k:=(gJ.1 j).1;have l:=(gJ.1 hp).1
 have n:dK (b_ g ss).length (fA g ss q m)≠[]:=λo=>by
  obtain⟨_,_,_,s,e,_⟩:=Rs.1 d;rw[o] at e;cases e
 unfold Ps
 refine iz.2 ⟨mh g (Ro g nn ss) ⟨(q:Int),(m:Int),dK (b_ g ss).length (fA g ss q m)⟩,kh.2 ⟨?_,?_⟩,rfl⟩
 ·unfold dD wq gM;refine iz.2 ⟨_,lR.2 ⟨q,jY.2 k,lR.2 ⟨m,jY.2 l,?_⟩⟩,rfl⟩;unfold zx;rw[gv n];simp
 ·have:(mh g (Ro g nn ss) ⟨(q:Int),(m:Int),dK (b_ g ss).length (fA g ss q m)⟩).st=(q:Int):=rfl;rw[kG this,kG d];rfl
theorem nr.red(a:aw g)(b:bG g ss)(c:tC g nn)(e:nr g nn ss A i){q m x:Nat}{p:aD}(hp:g.prods[m]? =some p)(f:m≠0)(d:x<g.T)(h:M7 g ss q m p.right.length x):A q x=⟨2,m⟩:=by
 obtain⟨k,j,_⟩:=(h.inv a b c).it;refine e.one q x _ (gJ.1 j).1 d ?_;unfold fe;exact iU.2 (.inr<|V1 a b c hp f d h)
theorem nr.acc(b:aw g)(d:bG g ss)(c:nr g nn ss A i){q:Nat}{r:SQ}(a:ss[q]? =some r)(h:(⟨0,1⟩:aq)∈r.1.2):A q 0=⟨3,0⟩:=by
 have:=b.cR;refine c.one q 0 _ (gJ.1 a).1 U ?_;unfold fe Xe;rw[a];simp[h]
theorem WO{α:Type}{a l:List α}{n:Nat}(h:a.length=n):(a++l).take n=a/\(a++l).drop n=l:=by
 subst h;exact⟨List.take_left,List.drop_left⟩
theorem WS(c:aw g)(f:bG g ss)(q:tC g nn)(s:nr g nn ss A i){ks:List Tr}{r:Az}{y:List Tk}(h:Dv g ks r y):
  ∀(m d x k:Nat)(p:aD)(l:List xO)(v:List Tk),g.prods[m]? =some p->p.right.drop d=r->lK ss l->x<g.T->M7 g ss (bV l) m d x->
   ∃a,Rn g A i (l,y++((x:Int),k)::v) (a++l,((x:Int),k)::v)/\(a.map (·.2.2)).reverse=ks/\a.length=ks.length/\lK ss (a++l)/\M7 g ss (bV (a++l)) m (d+ks.length) x:=by
 induction h with
 |nil=>exactλm d x k p l v hp W X hx J=>⟨[],.refl _,rfl,rfl,X,J⟩
 |lf e b ks r y R S _ o=>
  intro m d x k p l v hp W X hx J;obtain⟨a,rfl⟩:∃j:Nat,e=j:=⟨e.toNat,U⟩
  have n:p.right[d]? =some (a:Int):=by
   have:=congrArg (·[0]?) W;simpa[kI] using this
  obtain⟨Y,t,w⟩:=(J.inv c f q).it;obtain⟨e,a0,j,a1,_⟩:=nF c f t w (e_ hp n) U;have z:=s.shift U j;obtain⟨C,F,I,L,N,P⟩:=o m (d+1) x k p (((a:Int),e,.lf a b)::l) v hp (by rw[<-o9,W];rfl) ⟨j,X⟩ hx (.sh _ m d e x p _ hp n j J)
  refine⟨C++[((a:Int),e,.lf a b)],?_,?_,?_,?_,?_⟩
  ·refine .step _ _ _ ?_ (by simpa using F);unfold Kz;simp[z]
  ·simp[I]
  ·simp[L]
  ·simpa using N
  ·have Q:d+1+ks.length=d+(Tr.lf (a:Int) b::ks).length:=by simp;omega
   rw[<-Q];simpa using P
 |nd a b j ks r aK y e a0 L a1 a2=>
  intro m d x k p l v hp W X hx J
  have n:p.right[d]? =some b.left:=by
   have:=congrArg (·[0]?) W;simpa[kI] using this
  have t:p.right.drop (d+1)=r:=by rw[<-o9,W];rfl
  obtain⟨a3,N,P⟩:=(J.inv c f q).it;have a4:=c.left<|gg e;obtain⟨o,aR,w,aS,_⟩:=nF c f N P (e_ hp n) U;have a5:a≠0:=OX c (gg hp) (gg n) e rfl
  --the token behind the tree
  obtain⟨z,C,F,Q,R,a6⟩:∃(I S:Nat)(Y:List Tk),y++((x:Int),k)::v=((I:Int),S)::Y/\I<g.T/\M7 g ss (bV l) a 0 I:=by
   cases y with
   |nil=>exact⟨x,k,v,rfl,hx,.up _ m d a x p b _ hp n e rfl (by rw[t];exact L.nul rfl) J⟩
   |cons I y=>
    obtain⟨S,Y⟩:=I;obtain⟨a7,a8,a9⟩:=L.fst rfl;refine⟨S.toNat,Y,y++((x:Int),k)::v,by rw[Int.toNat_of_nonneg a8];rfl,U,.fs _ m d a _ p b _ a3 N P hp n e rfl (by rw[t];exact a7)⟩
  obtain⟨a7,a8,a9,S,aV,I⟩:=a1 a 0 z C b l F e rfl X R a6;rw[lS] at I;have aa:j.length=b.right.length:=a0.len;rw[aa] at I S;have ab:=s.red c f q e a5 R I;have ac:=s.gt _ _ _ a4 w;obtain⟨ad,al⟩:=WO (l:=l) S
  have am:Kz g A i (a7++l,((z:Int),C)::F)=some ((b.left,o,.nd a j)::l,((z:Int),C)::F):=by
   unfold Kz;simp[ab,e,ad,al,ac,a9]
  obtain⟨an,Y,ao,ap,av,az⟩:=a2 m (d+1) x k p ((b.left,o,.nd a j)::l) v hp t ⟨w,X⟩ hx (.sh _ m d o x p _ hp n w J)
  refine⟨an++[(b.left,o,.nd a j)],?_,?_,?_,?_,?_⟩
  ·rw[jT,Q];rw[Q] at Y;exact a8.trans (.step _ _ _ am (by simpa using Y))
  ·simp[ao]
  ·simp[ap]
  ·simpa using av
  ·have aB:d+1+ks.length=d+(Tr.nd a j::ks).length:=by simp;omega
   rw[<-aB];simpa using az
theorem X1(a:aw g)(b:bG g ss)(r:tC g nn)(v:nr g nn ss A i){t:Tr}{y:List Tk}(h:Dv g [t] [g.start] y)(k:Nat):
  ∃q,Rn g A i ([],y++[((0:Int),k)]) ([(g.start,q,t)],[((0:Int),k)])/\A q 0=⟨3,0⟩:=by
 have P:=a;obtain⟨_,_,_,j,l,ac,o,_⟩:=P;have ad:=a.cR;obtain⟨Q,w,x,R,z,C⟩:=WS a b r v h 0 0 0 k j [] [] l (by rw[o];rfl) trivial U .st;rw[jK] at w z C
 match Q,R with
 |[(s,q,al)],_=>
  simp only[kn,List.map_nil,List.reverse_singleton,List.cons.injEq,and_true] at x;subst x;obtain⟨e,S,_,F⟩:=Pg a b;obtain⟨⟨f,X,am⟩,an,hp,_,Y,_⟩:=C.inv a b r;rw[l] at hp;cases hp;have c:ss[q]? =some f:=X;have a0:=(Y rfl).2
  have a1:q=e:=by
   have:dI ss 0 (j.right.take 1)=(e:Int):=by
    rw[o]
    show dI ss 0 [g.start]=_
    rw[ng]
    show(match dt ss (0:Int).toNat g.start with|none=>-1|some e=>dI ss e [])=_
    rw[show(0:Int).toNat=0 from rfl,S];rfl
   have d:dI ss 0 (j.right.take 1)=(q:Int):=a0;omega
  subst a1
  have a2:s=g.start:=by
   have a3:dt ss 0 s=some (q:Int):=z.1;have d:=(F q f c).2 rfl
   have:=OA a b (by
    rcases Nat.eq_zero_or_pos q with p|p
    ·subst p;exfalso;have I:=(iO b c).1
     have L:f.1.2=[⟨0,0⟩]:=by
      have:(gb g 0).1[0]? =some [⟨0,0⟩]:=rfl;rw[this] at I;exact(Option.some.inj I).symm
     rw[L,jA] at d;cases d
    ·exact p) c d
   obtain⟨_,_,ao,ap,_,av⟩:=this;obtain⟨az,aB,aK,a4,a5,a6,aR⟩:=j8 a3;obtain⟨a7,_,a8,aS,aV,_,p,I,a9⟩:=dj a b a4 a5;have:a8=q:=U
   subst this;rw[c] at p;cases p;rw[a6] at I a9 a7;rw[I] at d;obtain⟨L,_,N,aa⟩:=dh.1 d
   have ab:L=⟨0,0⟩:=by
    cases L;simp only[aq.mk.injEq] at aa ⊢;omega
   rw[ab] at N;have:=e_ (g:=g) (n:=0) (m:=0) l (s:=g.start) (by rw[o];rfl);rw[<-N];exact this
  subst a2;exact⟨q,w,v.acc a b c<|(F q f c).2 rfl⟩
end
section
variable{g:B}{nn:At}{ss:List SQ}{A:Nat->Int->aF}{w:Nat->Int->Nat}
theorem Gn(hA:bG g ss)(hc:aw g):∀{l:List xO},lK ss l->∃r,ss[bV l]? =some r
 |[],_=>⟨_,gn hA.pos⟩
 |e::l,h=>by
  obtain⟨h1,h2⟩:=eZ hc hA h.1
  exact⟨_,gn (by show e.2.1<_;omega)⟩
theorem Em:∀{l:List xO}(n:Nat),lK ss l->lK ss (l.drop n)
 |l,0,h=>h
 |[],n+1,h=>h
 |e::l,n+1,h=>Em (l:=l) n h.2
theorem zF(b:bG g ss){r:SQ}(c:ss[0]? =some r):r.1.2=[⟨0,0⟩]:=by
 have a:=(iO b c).1;have:(gb g 0).1[0]? =some [⟨0,0⟩]:=rfl;rw[this] at a;exact(Option.some.inj a).symm
theorem KA(hc:aw g)(hA:bG g ss){m:Nat}{p:aD}(hp:g.prods[m]? =some p):∀(d:Nat)(l:List xO)(r:SQ),lK ss l->ss[bV l]? =some r->wS g r.1.2 ⟨(m:Int),(d:Int)⟩->
  d<=l.length/\((l.take d).map (·.1)).reverse=p.right.take d/\∃r',ss[bV (l.drop d)]? =some r'/\wS g r'.1.2 ⟨(m:Int),0⟩
 |0,l,r,_,hr,hy=>⟨gu _,V,r,hr,hy⟩
 |d+1,l,r,hw,hr,hy=>by
  have hx:(⟨(m:Int),((d+1:Nat):Int)⟩:aq)∈r.1.2:=by
   generalize hz:(⟨(m:Int),((d+1:Nat):Int)⟩:aq)=z at hy
   cases hy with
   |base h=>subst hz;exact h
   |step _ _ _ _=>have:=congrArg aq.dot hz;simp at this;omega
  cases l with
  |nil=>
   have hr:ss[0]? =some r:=hr
   rw[zF hA hr,jA] at hx
   have:=congrArg aq.dot hx
   simp at this
   omega
  |cons e l=>
   obtain⟨q0,k,ed,hq0,he,he1,he2⟩:=j8 hw.1
   obtain⟨_,_,j,r2,hj,_,hr2,hrk,_⟩:=dj hc hA hq0 he
   have hr:ss[e.2.1]? =some r:=hr
   have:j=e.2.1:=U
   subst this
   rw[hr] at hr2;cases hr2
   rw[hrk,he1] at hx
   obtain⟨y,hy1,hy2,hy3⟩:=dh.1 hx
   have e4:y=⟨(m:Int),(d:Int)⟩:=by
    cases y
    simp only[aq.mk.injEq] at hy3 ⊢
    omega
   subst e4
   obtain⟨i1,i2,i3⟩:=KA hc hA hp d l q0 hw.2 hq0 hy1
   have hf:p.right[d]? =some e.1:=by
    rw[yC (p:=p) (by show g.prods[(m:Int).toNat]? =_;rw[je];exact hp)] at hy2
    have hy2:p.right.getD (d:Int).toNat (-1)=e.1:=hy2
    rw[je,jX] at hy2
    cases hg:p.right[d]? with
    |none=>
     rw[hg] at hy2
     have hpos:=(dj hc hA hq0 he).1
     have hy2:(-1:Int)=e.1:=hy2
     omega
    |some s=>rw[hg] at hy2;rw[show s=e.1 from hy2]
   refine⟨by simp;omega,?_,?_⟩
   ·rw[List.take_succ_cons,kn,List.reverse_cons,i2,iw,hf]
    rfl
   ·simpa using i3
structure Sd(g:B)(ss:List SQ)(A:Nat->Int->aF)(w:Nat->Int->Nat):Prop where
 sh:∀(q t:Nat),q<ss.length->t<g.T->(A q t).kind=1->dt ss q (t:Int)=some (A q t).to
 rd:∀(q t:Nat)(r:SQ),ss[q]? =some r->t<g.T->(A q t).kind=2->∃(m:Nat)(p:aD),(A q t).to=m/\m≠0/\g.prods[m]? =some p/\wS g r.1.2 ⟨(m:Int),(p.right.length:Int)⟩
 ac:∀(q t:Nat)(r:SQ),ss[q]? =some r->t<g.T->(A q t).kind=3->t=0/\(⟨0,1⟩:aq)∈r.1.2
 gt:∀(q j:Nat)(s:Int),(g.T:Int)<=s->dt ss q s=some (j:Int)->w q s=j
theorem Sd.reduce(a:aw g)(b:bG g ss)(e:Sd g ss A w){l:List xO}{t:Nat}(f:lK ss l)(o:t<g.T)(q:(A (bV l) t).kind=2):
  ∃(m:Nat)(p:aD),(A (bV l) t).to=m/\m≠0/\g.prods[m]? =some p/\p.right.length<=l.length/\((l.take p.right.length).map (·.1)).reverse=p.right/\
   dt ss (bV (l.drop p.right.length)) p.left=some (w (bV (l.drop p.right.length)) p.left:Int):=by
 obtain⟨h,i⟩:=Gn b a f;obtain⟨m,p,r,j,c,s⟩:=e.rd _ t h i o q;obtain⟨v,x,F,y,z⟩:=KA a b c _ l h f i s;have k:=I6 a b y c z;rw[kG j] at k;obtain⟨n,d⟩:=sy.1 k;have I:=(eZ a b d).1;obtain⟨L,rfl⟩:∃C:Nat,n=C:=⟨n.toNat,U⟩;refine⟨m,p,r,j,c,v,by rw[x,jl],?_⟩;rw[d,e.gt _ _ _ (a.left<|gg c) d]
theorem Dv.app{l a:List Tr}{r r':Az}{y b:List Tk}(h:Dv g l r y)(h':Dv g a r' b):Dv g (l++a) (r++r') (y++b):=by
 induction h with
 |nil=>exact h'
 |lf c d l r y e f _ i=>exact .lf c d _ _ _ e f i
 |nd c d e l r f y hp i _ _ j=>rw[jT];exact .nd c d e _ _ f _ hp i j
theorem Dv.split{l':List Tr}{r':Az}:∀{l:List Tr}{r:Az}{y:List Tk},l.length=r.length->Dv g (l++l') (r++r') y->∃y1 y2,y=y1++y2/\Dv g l r y1/\Dv g l' r' y2
 |[],[],y,_,h=>⟨[],y,rfl,.nil,h⟩
 |t::l,s::r,y,hl,h=>by
  generalize e1:t::l++l'=a at h
  generalize e2:s::r++r'=b at h
  cases h with
  |nil=>cases e1
  |lf s' k l2 r2 y2 h0 hT h2=>
   cases e1;cases e2
   obtain⟨y1,y3,rfl,f1,f2⟩:=Dv.split (by simpa using hl) h2
   exact⟨_,y3,rfl,.lf s k l r y1 h0 hT f1,f2⟩
  |nd n p ks l2 r2 z y2 hp hz h2=>
   cases e1;cases e2
   obtain⟨y1,y3,rfl,f1,f2⟩:=Dv.split (by simpa using hl) h2
   exact⟨z++y1,y3,V,.nd n p ks l r z y1 hp hz f1,f2⟩
structure X3(g:B)(ss:List SQ)(all:List Tk)(c:nh):Prop where
 RB:lK ss c.1
 dv:∃y,Dv g (c.1.map (·.2.2)).reverse (c.1.map (·.1)).reverse y/\y++c.2=all
theorem X3.start{all:List Tk}:X3 g ss all ([],all):=⟨trivial,[],.nil,rfl⟩
theorem X3.step(hc:aw g)(hA:bG g ss)(hS:Sd g ss A w){all:List Tk}(ha:∀x∈all,0<=x.1/\x.1<g.T){c d:nh}(h:X3 g ss all c)(hd:Kz g A w c=some d):X3 g ss all d:=by
 obtain⟨l,J⟩:=c;obtain⟨O,y,X,rfl⟩:=h;cases J with
 |nil=>cases hd
 |cons a J=>
  obtain⟨s,k⟩:=a;obtain⟨h0,f⟩:=ha (s,k) V;obtain⟨s,rfl⟩:∃n:Nat,s=n:=⟨s.toNat,by have h0:0<=s:=h0;omega⟩;have f:(s:Int)<g.T:=f;obtain⟨r,b⟩:=Gn hA hc O;have b:ss[bV l]? =some r:=b;unfold Kz at hd;dsimp only at hd
  split at hd
  ·rename_i hk;cases hd;have hn:=hS.sh _ s (gJ.1 b).1 U hk;have:=(eZ hc hA hn).1
   refine⟨⟨?_,O⟩,y++[((s:Int),k)],?_,V⟩
   ·show dt ss (bV l) (s:Int)=some ((A (bV l) s).to.toNat:Int)
    rw[hn,Int.toNat_of_nonneg this]
   ·simp only[kn,List.reverse_cons];exact Dv.app X (.lf _ _ _ _ _ (kF _) f .nil)
  ·split at hd
   ·rename_i hk;obtain⟨m,p,h1,h2,W,h4,Z,h6⟩:=hS.reduce hc hA (t:=s) O U hk;rw[h1,je,W] at hd;cases hd;refine⟨⟨h6,Em _ O⟩,y,?_,rfl⟩;have e:l=l.take p.right.length++l.drop p.right.length:=(l9 _ _).symm;have u:=X;dsimp only at u;rw[e,jI,jI,List.reverse_append,List.reverse_append,Z] at u;obtain⟨y1,y2,rfl,f1,Y⟩:=u.split V;simp only[kn,List.reverse_cons];refine Dv.app f1 ?_;have:=Dv.nd m p _ [] [] y2 [] W Y .nil;simpa using this
   ·cases hd
theorem X3.run(a:aw g)(b:bG g ss)(e:Sd g ss A w){all:List Tk}(f:∀x∈all,0<=x.1/\x.1<g.T){c d:nh}(h:X3 g ss all c)(i:Rn g A w c d):X3 g ss all d:=by
 induction i with
 |refl=>exact h
 |step c d l j _ k=>exact k (h.step a b e f j)
theorem X3.acc(hc:aw g)(hA:bG g ss)(hS:Sd g ss A w){all v:List Tk}{l:List xO}{t k:Nat}(h:X3 g ss all (l,((t:Int),k)::v))(ht:t<g.T)(hk:(A (bV l) t).kind=3):
  t=0/\∃(q:Nat)(x:Tr)(y:List Tk),l=[(g.start,q,x)]/\Dv g [x] [g.start] y/\all=y++((0:Int),k)::v:=by
 have W:=hc;obtain⟨_,_,a4,p0,O,V,X,_⟩:=W;obtain⟨Z,y,hy,rfl⟩:=h;obtain⟨r,a⟩:=Gn hA hc Z;obtain⟨rfl,h1⟩:=hS.ac _ t r a ht hk;have a:ss[bV l]? =some r:=a;obtain⟨i1,i2,r',u,i3⟩:=KA hc hA O 1 l r Z a (.base h1)
 have hd:l.drop 1=[]:=by
  cases hl:l.drop 1 with
  |nil=>rfl
  |cons e l2=>
   exfalso;rw[hl] at u;have u:ss[e.2.1]? =some r':=u;have J:=Em 1 Z;have J:lK ss (l.drop 1):=J;rw[hl] at J;obtain⟨q0,k0,ed,Y,he,a7,a5⟩:=j8 J.1;obtain⟨_,_,j,r2,hj,a6,_⟩:=dj hc hA Y he
   have hb:(⟨((0:Nat):Int),0⟩:aq)∈r'.1.2:=by
    generalize hz:(⟨((0:Nat):Int),0⟩:aq)=z at i3;cases i3 with
    |base h=>subst hz;exact h
    | @step y i p hy0 hge hp hl=>
     exfalso;have:i=0:=by have:=congrArg aq.prod hz;simp at this;omega
     subst this;rw[O] at hp;cases hp;have hK:=(iO hA u).1;have hf:=(ik (g:=g) (by have:=hc.cR;omega) e.2.1).fit _ (gg hK);obtain⟨p',a0,_,h3⟩:=JE (hy0.fit hf) rfl hge;rw[<-hl,V] at h3;exact VC hc (gg a0) (gg h3) rfl
   have:=(OA hc hA U u hb).2.1;simp at this
 match l,i1,hd with
 |[(s,q,x)],_,_=>
  have:s=g.start:=by
   rw[X] at i2;simpa using i2
  subst this;exact⟨rfl,q,x,y,rfl,by simpa using hy,rfl⟩
end
def zG(l:List xO):Az:=(l.map λe=>(e.2.1:Int)).reverse
theorem gC(l:List xO):(zG l).length=l.length:=by simp[zG]
theorem zH(e:xO)(l:List xO):zG (e::l)=zG l++[(e.2.1:Int)]:=by simp[zG]
theorem Aq(l:List xO):pJ (zG l)=(bV l:Int):=by
 cases l with
 |nil=>rfl
 |cons e l=>
  rw[zH];unfold pJ;rw[List.getLast_cons V,List.getLast_append_of_ne_nil _ V];rfl
theorem KB(l:List xO)(n:Nat)(h:n<=l.length):(zG l).take ((zG l).length-n)=zG (l.drop n):=by grind[gC,zG,List.take_reverse,List.length_map,List.map_drop]
def H8(G:Nat->Int->Nat)(m:Nat)(p:aD)(l:List xO):List xO:=(p.left,G (bV (l.drop p.right.length)) p.left,.nd m ((l.take p.right.length).map (·.2.2)).reverse)::l.drop p.right.length
inductive RD (g:B) (A:Nat->Int->aF) (G:Nat->Int->Nat) (t:Int):List xO->List aF->List xO->Prop
 |nil (l:List xO):RD g A G t l [] l
 |cons (l:List xO) (m:Nat) (p:aD) (ms:List aF) (l':List xO):A (bV l) t=⟨2,(m:Int)⟩->g.prods[m]? =some p->p.right.length<=l.length->(l.drop p.right.length).length<64->RD g A G t (H8 G m p l) ms l'->RD g A G t l (⟨2,(m:Int)⟩::ms) l'
section
variable{g:B}{ss:List SQ}{A:Nat->Int->aF}{i:Nat->Int->Nat}{k:Int->Int->aF}{r:Int->Int->Int}{t:Nat}
theorem RD.Kz{l a:List xO}{ms:List aF}{t:Int}(h:RD g A i t l ms a)(k:Nat)(v:List Tk):Rn g A i (l,(t,k)::v) (a,(t,k)::v):=by
 induction h with
 |nil=>exact .refl _
 |cons l e f ms j b c _ _ _ d=>
  refine .step _ _ _ ?_ d
  show Proofs.YtaoaemnefghnbaaGreatDoor.Kz g A i (l,(t,k)::v)=_
  unfold Proofs.YtaoaemnefghnbaaGreatDoor.Kz;simp[b,c,H8]
structure xe(g:B)(ss:List SQ)(A:Nat->Int->aF)(i:Nat->Int->Nat)(k:Int->Int->aF)(r:Int->Int->Int):Prop where
 a:∀(q:Nat)(t:Int),k q t=A q t
 g:∀(q:Nat)(s:Int),(∃j,dt ss q s=some j)->(g.T:Int)<=s->r q (s-g.T)=(i q s:Int)
theorem Sd.RB(a:aw g)(e:bG g ss)(f:Sd g ss A i){l:List xO}(b:lK ss l)(h:t<g.T)(j:(A (bV l) t).kind=2):
  ∃(m:Nat)(p:aD),A (bV l) t=⟨2,(m:Int)⟩/\g.prods[m]? =some p/\p.right.length<=l.length/\lK ss (H8 i m p l)/\(g.T:Int)<=p.left/\dt ss (bV (l.drop p.right.length)) p.left=some (i (bV (l.drop p.right.length)) p.left:Int):=by
 obtain⟨m,p,n,o,c,k,q,d⟩:=f.reduce a e b h j;refine⟨m,p,?_,c,k,⟨d,Em _ b⟩,a.left<|gg c,d⟩;cases r:A (bV l) t
 simp_all
theorem AI(d:aw g)(e:bG g ss)(x:jq g)(f:Sd g ss A i)(a:xe g ss A i k r)(h:t<g.T)(j:∀p∈g.prods,p.left<=1000000):uP g k r t λl=>∃es,lK ss es/\l=zG es where
 red:=by
  rintro _⟨es,m,rfl⟩ b;rw[Aq,a.a] at b ⊢;obtain⟨c,p,n,o,q,s,v,w⟩:=f.RB d e m h b;rw[n];refine⟨p,kF _,η,by simp_all[gC],U,j p<|gg o,H8 i c p es,s,?_⟩;rw[KB _ _ q,Aq,a.g _ _ ⟨_,w⟩ v];exact(zH (p.left,i (bV<|es.drop p.right.length) p.left,Tr.nd c ((es.take p.right.length).map (·.2.2)).reverse)<|es.drop p.right.length).symm
theorem TY(hc:aw g)(hA:bG g ss)(hS:Sd g ss A i)(hN:xe g ss A i k r)(ht:t<g.T):∀(n:Nat){l:List xO}{ms ms2:List aF}{st:Az}{f:Bool},lK ss l->X2 g k r t n (zG l) ms=some (f,ms2,st)->
  ∃rs l',RD g A i t l rs l'/\lK ss l'/\st=zG l'/\
   ((f=true/\(A (bV l') t).kind=1/\l'.length<64/\ms2=ms++rs++[A (bV l') t])\/(f=true/\(A (bV l') t).kind=3/\ms2=ms++rs++[A (bV l') t])\/
    (f=false/\(A (bV l') t).kind≠1/\(A (bV l') t).kind≠2/\(A (bV l') t).kind≠3/\ms2=ms++rs)):=by
 intro n
 induction n with
 |zero=>
  intro l ms ms2 st f u h;unfold X2 rQ at h;rw[Aq,hN.a,gC] at h
  split at h
  ·rename_i h1
   split at h
   ·grind
   ·cases h;exact⟨[],l,.nil l,u,rfl,.inl ⟨rfl,h1,U,V⟩⟩
  ·rename_i h1
   split at h
   ·rename_i h3;cases h;exact⟨[],l,.nil l,u,rfl,.inr<|.inl ⟨rfl,h3,V⟩⟩
   ·rename_i h3
    split at h
    ·grind
    ·rename_i h2;cases h;exact⟨[],l,.nil l,u,rfl,.inr<|.inr ⟨rfl,h1,h2,h3,V⟩⟩
 |succ n ih=>
  intro l ms ms2 st f u h;unfold X2 rQ at h;rw[Aq,hN.a,gC] at h
  split at h
  ·rename_i h1
   split at h
   ·grind
   ·cases h;exact⟨[],l,.nil l,u,rfl,.inl ⟨rfl,h1,U,V⟩⟩
  ·rename_i h1
   split at h
   ·rename_i h3;cases h;exact⟨[],l,.nil l,u,rfl,.inr<|.inl ⟨rfl,h3,V⟩⟩
   ·rename_i h3
    split at h
    ·rename_i h2;obtain⟨m,p,g1,g2,g3,J,W,b⟩:=hS.RB hc hA u ht h2;rw[g1,je,g2] at h;dsimp only at h
     split at h
     ·grind
     ·rename_i h4;rw[<-gC l,KB _ _ g3,Aq,hN.g _ _ ⟨_,b⟩ W] at h;have e:zG (l.drop p.right.length)++[(i (bV<|l.drop p.right.length) p.left:Int)]=zG (H8 i m p l):=(zH (p.left,i (bV<|l.drop p.right.length) p.left,Tr.nd m ((l.take p.right.length).map (·.2.2)).reverse)<|l.drop p.right.length).symm;rw[e] at h;obtain⟨rs,l',O,X,a,Y⟩:=ih J h;refine⟨_::rs,l',.cons l m p rs l' g1 g2 g3 η O,X,a,?_⟩
      simp_all
    ·rename_i h2;cases h;exact⟨[],l,.nil l,u,rfl,.inr<|.inr ⟨rfl,h1,h2,h3,V⟩⟩
end
structure RE where
 sym:Int
 prod:Int
 tok:Int
 kids:Az
deriving DecidableEq
instance:Inhabited RE:=⟨⟨0,0,0,[]⟩⟩
inductive Ar (g:B) (nd:List RE):List Tr->A0->A0->Prop
 |nil:Ar g nd [] [] []
 |lf (s:Int) (k i:Nat) (l:List Tr) (r z:A0):nd[i]? =some ⟨s,-1,k,[]⟩->Ar g nd l r z->Ar g nd (.lf s k::l) (i::r) (i::z)
 |nd (n:Nat) (p:aD) (ks l:List Tr) (kids r y z:A0) (i:Nat):nd[i]? =some ⟨p.left,n,0,kids.map λ(j:Nat)=>(j:Int)⟩->g.prods[n]? =some p->(∀k∈kids,k<i)->Ar g nd ks kids y->Ar g nd l r z->Ar g nd (.nd n ks::l) (i::r) (i::(y++z))
section
variable{g:B}{nd nd':List RE}{l j:List Tr}{r r' z i:A0}
theorem Ar.lt(h:Ar g nd l r z):∀i∈z,i<nd.length:=by
 induction h with
 |nil=>simp
 |lf a b i l r z c _ d=>
  grind
 |nd a b c l d r e z i f _ _ _ _ j k=>
  grind
theorem Ar.sub(h:Ar g nd l r z):r.Sublist z:=by
 induction h with
 |nil=>simp
 |lf a b c l r z _ _ d=>simp_all
 |nd a b c l d r e z f _ _ _ _ _ i j=>simp_all
theorem Ar.app(h:Ar g nd l r z)(h':Ar g nd j r' i):Ar g nd (l++j) (r++r') (z++i):=by
 induction h with
 |nil=>grind
 |lf a b c l r z d _ e=>exact .lf a b c _ _ _ d e
 |nd a b c l d r e z f k m n o _ _ p=>
  have:=Ar.nd a b c _ d _ e _ f k m n o p
  simp_all
theorem Ar.mono(h:Ar g nd l r z)(a:∀(i:Nat)(x:RE),nd[i]? =some x->nd'[i]? =some x):Ar g nd' l r z:=by
 induction h with
 |nil=>exact .nil
 |lf b c i l r z d _ e=>exact .lf b c i _ _ _ (a _ _ d) e
 |nd b c d l e r f z i j k m _ _ n o=>exact .nd b c d _ e _ f _ i (a _ _ j) k m n o
theorem Ar.split:∀{l:List Tr}{z:A0}{r:A0},l.length=r.length->Ar g nd (l++j) (r++r') z->∃z1 z2,z=z1++z2/\Ar g nd l r z1/\Ar g nd j r' z2
 |[],z,[],_,h=>⟨[],z,rfl,.nil,h⟩
 |t::l,z,i::r,hl,h=>by
  generalize e1:t::l++j=a at h
  generalize e2:i::r++r'=b at h
  cases h with
  |nil=>grind
  |lf s k i2 l2 r2 z2 h1 h2=>
   cases e1;cases e2
   obtain⟨z1,z3,rfl,f1,f2⟩:=Ar.split η h2
   exact⟨_,z3,rfl,.lf s k _ _ _ _ h1 f1,f2⟩
  |nd n p ks l2 kids r2 y z2 i2 h1 h2 h3 h4 h5=>
   cases e1;cases e2
   obtain⟨z1,z3,rfl,f1,f2⟩:=Ar.split η h5
   exact⟨_,z3,V,.nd n p ks _ kids _ y _ _ h1 h2 h3 h4 f1,f2⟩
end
structure cY where
 es:List xO
 ids:A0
 nd:List RE
 tk:At
 mv:List (aF×Nat)
 du:Nat
 ov:Bool
def cY.new:cY:=⟨[],[],[],[],[],0,false⟩
def zI(tk:At)(ks:A0):At:=ks.foldl (λl k=>l.set k true) tk
def CU(t:Nat)(q:Nat)(y:cY):cY:={ y with es:=((t:Int),q,.lf t y.du)::y.es,ids:=y.nd.length::y.ids,nd:=y.nd++[⟨t,-1,y.du,[]⟩],tk:=y.tk++[false],mv:=y.mv++[(⟨1,q⟩,y.du)] }
def Eo(G:Nat->Int->Nat)(m:Nat)(p:aD)(y:cY):cY:={ y with es:=H8 G m p y.es,ids:=y.nd.length::y.ids.drop p.right.length,nd:=y.nd++[⟨p.left,m,0,(y.ids.take p.right.length).reverse.map λ(j:Nat)=>(j:Int)⟩],tk:=zI y.tk (y.ids.take p.right.length).reverse++[false],mv:=y.mv++[(⟨2,m⟩,y.du)] }
def RF(a:aF)(y:cY):cY:={ y with mv:=y.mv++[(a,y.du)],ov:=true }
def Bm(g:B)(G:Nat->Int->Nat)(t:Nat)(y:cY)(a:aF):cY:=
 if a.kind=1 then CU t a.to.toNat y else if a.kind=2 then(match g.prods[a.to.toNat]? with|some p=>Eo G a.to.toNat p y|none=>y) else RF a y
def Gp(t:Nat)(y:cY):cY:=if 0<t then{ y with du:=y.du+1 } else y
structure np(g:B)(ss:List SQ)(y:cY):Prop where
 RB:lK ss y.es
 il:y.ids.length=y.es.length
 hl:y.es.length<=64
 tl:y.tk.length=y.nd.length
 fr:∃z,Ar g y.nd (y.es.map (·.2.2)).reverse y.ids.reverse z/\z.Nodup
 tk:∀i∈y.ids,y.tk[i]? =some false
 nl:y.nd.length<=y.mv.length
 kl:∀x∈y.nd,x.kids.length<=64
section
variable{g:B}{ss:List SQ}{y:cY}{A:Nat->Int->aF}{i:Nat->Int->Nat}
theorem np.new:np g ss cY.new:=⟨trivial,rfl,gu _,rfl,⟨[],.nil,.nil⟩,λb a=>(by cases a),gP _,λb a=>(by cases a)⟩
theorem np.nd(h:np g ss y):y.ids.Nodup/\∀i∈y.ids,i<y.nd.length:=by
 obtain⟨e,a,b⟩:=h.fr;have c:=a.sub.nodup b;refine⟨(List.reverse_perm _).nodup_iff.1 c,λi d=>a.lt i<|a.sub.subset<|List.mem_reverse.2 d⟩
theorem Ep(ks:A0):∀tk:At,(zI tk ks).length=tk.length:=by
 induction ks with
 |nil=>exactλ_=>rfl
 |cons a ks b=>simp_all[zI]
theorem VI{i:Nat}(ks:A0):∀{tk:At},i∉ks->(zI tk ks)[i]? =tk[i]?:=by
 induction ks with
 |nil=>exactλ_=>rfl
 |cons a ks b=>
  intro tk c
  show(zI (tk.set a true) ks)[i]? =_
  grind
theorem Iz{α:Type}{l m:List α}{i:Nat}{x:α}(h:l[i]? =some x):(l++m)[i]? =some x:=G
theorem np.sh(h:np g ss y){t q:Nat}(d:dt ss (bV y.es) (t:Int)=some (q:Int))(m:y.es.length<64):np g ss (CU t q y):=by
 obtain⟨e,b,f⟩:=h.fr;have n:=h.nd
 refine⟨⟨d,h.RB⟩,by simp[CU,h.il],by grind[CU],by simp[CU,h.tl],⟨e++[y.nd.length],?_,?_⟩,λa i=>?_,by have:=h.nl;simp_all[CU],λj k=>?_⟩
 ·have c:=(b.mono (nd':=y.nd++[⟨(t:Int),-1,y.du,[]⟩]) λl o=>Iz).app (.lf (t:Int) y.du y.nd.length [] [] [] V .nil)
  simp_all[CU]
 ·rw[kS];refine⟨f,V,λc l o p=>?_⟩;have:=b.lt c l
  grind
 ·have c:a∈y.nd.length::y.ids:=i
  show(y.tk++[false])[a]? =some false
  rcases jb.1 c with rfl|l
  ·rw[<-h.tl];simp
  ·exact Iz (h.tk a l)
 ·rcases iU.1 k with c|c
  ·exact h.kl j c
  simp_all
theorem np.rd(h:np g ss y){m:Nat}{p:aD}(hp:g.prods[m]? =some p)(F:p.right.length<=y.es.length)(n:lK ss (H8 i m p y.es))(o:(y.es.drop p.right.length).length<64):np g ss (Eo i m p y):=by
 obtain⟨I,c,d⟩:=h.fr;have e:=h.nd;have L:=h.il;simp only[qR] at o;have q:(y.es.map (·.2.2)).reverse=((y.es.drop p.right.length).map (·.2.2)).reverse++((y.es.take p.right.length).map (·.2.2)).reverse:=V
 have r:y.ids.reverse=(y.ids.drop p.right.length).reverse++(y.ids.take p.right.length).reverse:=V
 rw[q,r] at c;obtain⟨s,f,rfl,j,k⟩:=c.split η;rw[kS] at d;obtain⟨t,v,N⟩:=d;have l:∀a b,y.nd[a]? =some b->(y.nd++[⟨p.left,m,0,(y.ids.take p.right.length).reverse.map λ(w:Nat)=>(w:Int)⟩])[a]? =some b:=λa b=>Iz
 refine⟨n,by grind[Eo,H8],by grind[Eo,H8],by simp[Eo,Ep,h.tl],⟨s++y.nd.length::(f++[]),?_,?_⟩,λa w=>?_,by have:=h.nl;simp_all[Eo],λx z=>?_⟩
 ·have C:=(j.mono l).app (.nd m p _ [] _ [] f [] y.nd.length V hp (λb A=>e.2 b<|List.mem_of_mem_take<|List.mem_reverse.1 A) (k.mono l) .nil)
  simp_all[Eo,H8]
 ·rw[jK,kS];refine⟨t,kN.2 ⟨λb=>by have:=k.lt _ b;omega,v⟩,λb A P C=>?_⟩
  rcases jb.1 C with rfl|Q
  ·have:=j.lt b A;omega
  simp_all
 ·have b:a∈y.nd.length::y.ids.drop p.right.length:=w
  show(zI y.tk (y.ids.take p.right.length).reverse++[false])[a]? =some false
  rcases jb.1 b with rfl|A
  ·rw[<-h.tl,<-Ep (y.ids.take p.right.length).reverse y.tk];simp
  ·refine Iz ?_;rw[VI,h.tk a<|rr A];intro C;have P:=List.mem_reverse.1 C;have:=e.1;rw[<-l9 p.right.length y.ids,kS] at this
   grind
 ·rcases iU.1 z with b|b
  ·exact h.kl x b
  ·rw[jA.1 b];have:=h.hl
   grind
theorem np.ac(h:np g ss y)(a:aF):np g ss (RF a y):=⟨h.RB,h.il,h.hl,h.tl,h.fr,h.tk,by have:=h.nl;grind[RF],h.kl⟩
theorem np.fin(h:np g ss y)(t:Nat):np g ss (Gp t y):=by
 unfold Gp
 split
 ·exact⟨h.RB,h.il,h.hl,h.tl,h.fr,h.tk,h.nl,h.kl⟩
 omega
end
def uV:GA:=⟨none,0,0,none,0,0,none,0,0,0,none,0,0⟩
theorem VJ{w:ga}{M:List aG}(h:W w M):W w (AF Gm uV []++M):=by
 have a:W w (own 1 none 0 0 []::M):=aH 1 h;have b:W w (own 1 none 0 0 []::_):=aH 1 a;have c:W w (own 2 none 0 0 []::_):=aH 2 b;have d:W w (aT (cJ [] [])::_):=W.flat.2 (show W w ([]++_) from c);exact aH 3 d
section
variable{w:ga}{g:B}{x:GA}{a:E}{l c:Nat}
theorem vc{b:List ly}(d:bf (hp w) b a l)(s:b.length*24<=140737488355328)(t:b.length<=9223372036854775807):ρ 170 [T a l c] w λh i=>∃o c',h=T o b.length c'/\W i (own 2 o b.length c' (cX b)::all w):=by
 refine jJ ?_;have f:=d.1;cases a with
 |none=>
  have e:b=[]:=by
   cases b with
   |nil=>rfl
   |cons g k=>obtain⟨m,_,j,_⟩:=d.2 0 g rfl;cases j
  subst e;exact⟨none,0,rfl,aH 2<|W.all w⟩
 |some j=>
  refine ag (W.all w) λk m g=>?_;have p:W m (own 2 (some ⟨k,0,none⟩) 0 0 []::all w):=bq (cs:=[]) g rfl rfl (gP _);have q:=d.mono g.aS
  refine(jH aY (rfl:ai Ty _=.slice _) rfl rfl rfl p (n:=l) (news:=cX b) (gU aY (rfl:ai Ty _=.slice _) (by rw[Jz,f]) (.inr ⟨j,rfl,λr v e=>(FD q).cell sZ e⟩) (by
   intro v r;obtain⟨x,_,e⟩:=lR.1 r;simp[Jy] at e;rcases e with rfl|rfl<;>rfl)) (by show(0+l)*24<=_;omega) U).mono ?_
  rintro _ v⟨r,c',rfl,e⟩;rw[lS,<-f] at e ⊢;rw[l7] at e;exact⟨_,_,_,rfl,r,c',rfl,e⟩
theorem dV{xs:Az}(b:bf (hp w) xs a l)(x:xs.length*8<=140737488355328)(y:xs.length<=9223372036854775807):ρ 115 [T a l c] w λg h=>∃o c',g=T o xs.length c'/\W h (own 1 o xs.length c' (iv xs)::all w):=by
 refine jf ?_;have d:=b.1;cases a with
 |none=>
  have e:xs=[]:=by
   cases xs with
   |nil=>rfl
   |cons f j=>obtain⟨k,_,i,_⟩:=b.2 0 f rfl;cases i
  subst e;exact⟨none,0,rfl,aH 1<|W.all w⟩
 |some i=>
  refine ag (W.all w) λj k f=>?_;have m:W k (own 1 (some ⟨j,0,none⟩) 0 0 []::all w):=bq (cs:=[]) f rfl rfl (gP _);have p:=b.mono f.aS
  refine(jH aY (rfl:ai Ty _=.slice _) rfl rfl rfl m (n:=l) (news:=iv xs) (gU aY (rfl:ai Ty _=.slice _) (by rw[dq,d,kA]) (by
    rcases p.iv with e|⟨z,q,r⟩
    ·exact .inl (by have:=congrArg List.length e;rw[dq,d] at this;exact this)
    ·cases q;exact .inr ⟨i,rfl,λs t v=>j5<|r s t v⟩) (by
   intro q e;obtain⟨r,_,rfl⟩:=iz.1 e;rfl)) (by show(0+l)*8<=_;omega) U).mono ?_
  rintro _ r⟨q,c',rfl,e⟩;rw[lS,<-d] at e ⊢;rw[l7] at e;exact⟨_,_,_,rfl,q,c',rfl,e⟩
theorem Y1(ad:gR (hp w) g x)(k:jq g)(al:ec (hp w)):ρ 82 [.agg ⟨x.cells⟩] w λam q=>∃(x':GA)(a:B)(os:List (E×Nat))(e:Int),am=.tuple #[.agg ⟨x'.cells⟩,O e]/\Fq a x'/\os.length=a.prods.length/\OW g e a/\W q (AF a x' os++all w):=by
 refine FQ ?_;refine dZ ad λan r S i d=>?_;have X:sub (hp w) (hp r):=S;have Y:=W.all r;unfold Proofs.YtaoaemnefghnbaaGreatDoor.all at Y;have ao:=i.s;have bc:=i.t.1;have bd:=i.l.1;have ap:ec (hp r):=dX.mono S al;generalize be:hp r=a0 at*;refine ag Y λF bi I=>?_;refine⟨_,_,_,_,_,_,_,_,_,_,_,_,_,d.row<|aE 1 I.l,(NX (x:=x) (i.mono<|aE 1 I.l) k).mono ?_⟩;rintro _ bl⟨⟨bo,rfl,a1⟩,av⟩;have s:=I.gr av
 have a2:∀{b:ga}{e:Int}{M:List aG},OW g e Gm->W b (ax F [D,D,D,O 0,D]::M)->(∀a,aL M a->sub a0 a)->∀f,hp f=hp b->∃(x':GA)(a:B)(os:List (E×Nat))(h:Int),Value.tuple #[.agg #[D,D,D,O 0,D],O e]=.tuple #[.agg ⟨x'.cells⟩,O h]/\Fq a x'/\os.length=a.prods.length/\OW g h a/\W f (AF a x' os++all w):=λ{j e M} a b f m h=>by
  refine⟨uV,Gm,[],e,rfl,⟨rfl,rfl,rfl,rfl,rfl⟩,rfl,a,VJ ?_⟩;exact bM (sub.trans X (by rw[h];exact f _ b.tail))
 refine⟨_,rfl,ae (λt=>?_) λt=>?_⟩
 ·have b:¬kE g:=λa=>by rw[a1.2 a] at t;cases t
  exact aQ s rfl (by intro f a;simp at a;rcases a with rfl|rfl|rfl|rfl|rfl<;>rfl) λh a=>⟨_,_,_,_,_,_,_,_,_,_,_,_,_,a.row.at sZ rfl,a2 (.inl ⟨b,rfl,rfl⟩) a λ_ f=>aE 0 f⟩
 have L:kE g:=a1.1 (by simpa using t);have m:bL g:=.inl L;obtain⟨bs,bu,bz,bE,bN,bO⟩:=EP m;obtain⟨bP,bT⟩:=u_ m;refine⟨_,_,_,_,_,_,_,_,_,_,_,_,_,d.row<|aE 1 s.l,(wD (x:=x) (i.mono<|aE 1 s.l) k m).mono ?_⟩;rintro _ c0⟨v,j,rfl,y,az⟩;have aB:=az.fy s;refine⟨_,_,rfl,ag aB λa3 c1 f=>aQ f rfl (by simp[aO]) λa4 f=>?_⟩;have a5:aj (hp a4) ⟨a3,0,none⟩ [.pointer (some ⟨v,0,none⟩),O (g.T:Int)]:=af 0 f.l;have a6:fm (hp a4) (some ⟨v,0,none⟩) j:=f.swap.fm;refine⟨_,a5.cell0 sZ,_,d.c3<|aE 3 f.l,?_⟩;rw[ao];refine(My a6 g.start).mono ?_;rintro _ c2⟨rfl,rfl⟩;have a7:kZ j g.start=true↔Pd g g.start:=by rw[va U,y.2,kU U]
 refine⟨_,rfl,ae (λz=>?_) λz=>?_⟩
 ·have b:¬Pd g g.start:=λa=>by rw[a7.2 a] at z;cases z
  exact aQ (f.pick 4 [2,0,1,3]) rfl (by intro h a;simp at a;rcases a with rfl|rfl|rfl|rfl|rfl<;>rfl) λn a=>⟨_,_,_,_,_,_,_,_,_,_,_,_,_,a.row.at sZ rfl,a2 (.inr<|.inl ⟨L,b,rfl,rfl⟩) a λ_ h=>aE 2 h⟩
 have aK:Pd g g.start:=a7.1 (by simpa using z);refine⟨_,_,_,_,_,_,_,_,_,_,_,_,_,d.row<|aE 3 f.l,_,_,a5.at sZ rfl,(Kw (x:=x) (i.mono<|aE 3 f.l) k m a6 y).mono ?_⟩;rintro _ c3⟨a8,A,rfl,a9,aR⟩;have aS:=aR.fy f;refine⟨_,_,rfl,ag aS λbQ c4 P=>aQ P rfl (by simp[aO]) λaV P=>?_⟩;obtain⟨b,n,b0⟩:=W.mn [_] (M:=[_,_,_,_,_])<|P.pick 6 [4,0,1,2,3,5];have h:sub a0 b:=aE 4 n;have b1:aj b ⟨bQ,0,none⟩ [.pointer (some ⟨a8,0,none⟩),O (g.T:Int)]:=af 0 n;have b2:aj b ⟨a3,0,none⟩ [.pointer (some ⟨v,0,none⟩),O (g.T:Int)]:=af 2 n;have b3:fm b (some ⟨a8,0,none⟩) A:=AG 1 n;have b4:fm b (some ⟨v,0,none⟩) j:=AG 3 n;have a:gR b g x:=i.mono h;have Q:GB b an x:=⟨λo=>d.c0<|sub.trans h o,λo=>d.c1<|sub.trans h o,λo=>d.c2<|sub.trans h o,λo=>d.c3<|sub.trans h o,λo=>d.c4<|sub.trans h o,λo=>d.row<|sub.trans h o⟩;have b5:ec b:=dX.mono h ap;have b6:W aV [ax F [D,D,D,O 0,D],has b]:=b0;obtain⟨c5,c6,c7,c8,c9,ca,cb⟩:=id k;have cc:g.T=g.terms.length:=rfl
 have aa:∀(x':GA) os q,Fq (fq g (j.drop g.T)<|A.drop g.T) x'->os.length=(fq g (j.drop g.T)<|A.drop g.T).prods.length->W q (AF (fq g (j.drop g.T)<|A.drop g.T) x' os++[has b])->∃(p:GA)(o:B)(C:List (E×Nat))(e:Int),Value.tuple #[.agg ⟨x'.cells⟩,O 0]=.tuple #[.agg ⟨p.cells⟩,O e]/\Fq o p/\C.length=o.prods.length/\OW g e o/\W q (AF o p C++all w):=λx' os R o p C=>
  ⟨x',_,os,0,rfl,o,p,.inr<|.inr ⟨L,aK,rfl,_,_,y.b9,a9.b9,rfl⟩,W.on (N:=[_,_,_,_,_]) C<|bM<|sub.trans X h⟩
 refine⟨λac b7=>∃(o p C cL:Nat)(R ab:E),ac=some (Z o)/\W b7 [ax o [T R g.terms.length C,T (some ⟨p,0,none⟩) 1 1,T ab g.levels.length cL,O 0,D],own 2 R g.terms.length C<|cX g.terms,own 1 (some ⟨p,0,none⟩) 1 1 [.string .empty],own 1 ab g.levels.length cL<|iv g.levels,ax F [D,D,D,O 0,D],has b],λcd b7=>?_,?_⟩
 rotate_left
 ·rintro _ _ p⟨C,R,ab,cL,ac,b9,rfl,o⟩;exact To a Q k m y a9 b4 b3 b2 b1 b5 o aa
 have o:=b6.drawn b7;clear aa;refine⟨λw=>sub b<|hp w,aE 1 o.l,_,_,_,λw p=>Q.c0 p,_,_,_,λw p=>Q.c2 p,?_⟩
 refine⟨?_,?_,?_⟩
 ·refine(vc (a.t.mono<|aE 1 o.l) U U).mono ?_;rintro _ _⟨ce,cg,rfl,b9⟩;have p:=b9.fy o;refine⟨_,_,_,rfl,aE 2 p.l,?_⟩
  refine⟨?_,?_,?_⟩
  ·refine(dV (a.l.mono<|aE 2 p.l) U U).mono ?_;rintro _ _⟨ch,cL,rfl,ba⟩;have C:=ba.fy p;refine⟨_,_,_,rfl,aE 3 C.l,?_⟩
   refine⟨?_,?_⟩
   ·refine ag C λci _ R=>⟨aE 4 R.l,?_⟩;refine ag R λck _ ab=>⟨aE 5 ab.l,?_⟩;have bb:=bq (cs:=[]) (vs:=[.string .empty]) (l:=1) (c:=1) (sz:=1) (ab.pick 6 [1,0,3,2,4,5]) rfl rfl (gP _);refine aQ (bb.pick 6 [1,2,0,3,4,5]) rfl (by intro cl ac;simp at ac;rcases ac with rfl|rfl|rfl|rfl|rfl<;>rfl) λcl ac=>?_;exact⟨_,_,_,_,_,_,rfl,ac⟩
   ·refine ag C λci _ R=>⟨aE 4 R.l,?_⟩;refine ag R λck _ ab=>⟨aE 5 ab.l,?_⟩;have bb:=bq (cs:=[]) (vs:=[.string .empty]) (l:=1) (c:=1) (sz:=1) (ab.pick 6 [0,1,3,2,4,5]) rfl rfl (gP _);refine aQ (bb.pick 6 [1,2,0,3,4,5]) rfl (by intro cl ac;simp at ac;rcases ac with rfl|rfl|rfl|rfl|rfl<;>rfl) λcl ac=>?_;exact⟨_,_,_,_,_,_,rfl,ac⟩
  ·refine ag p λch _ C=>⟨aE 3 C.l,?_⟩
   refine⟨?_,?_⟩
   ·refine(dV (a.l.mono<|aE 3 C.l) U U).mono ?_;rintro _ _⟨ci,cL,rfl,ba⟩;have R:=ba.fy C;refine⟨_,_,_,rfl,aE 4 R.l,?_⟩;refine ag R λck _ ab=>⟨aE 5 ab.l,?_⟩;have bb:=bq (cs:=[]) (vs:=[.string .empty]) (l:=1) (c:=1) (sz:=1) (ab.pick 6 [2,0,3,1,4,5]) rfl rfl (gP _);refine aQ (bb.pick 6 [1,2,0,3,4,5]) rfl (by intro cl ac;simp at ac;rcases ac with rfl|rfl|rfl|rfl|rfl<;>rfl) λcl ac=>?_;exact⟨_,_,_,_,_,_,rfl,ac⟩
   ·refine ag C λci _ R=>⟨aE 4 R.l,?_⟩;refine(dV (a.l.mono<|aE 4 R.l) U U).mono ?_;rintro _ _⟨ck,cL,rfl,ba⟩;have ab:=ba.fy R;refine⟨_,_,_,rfl,aE 5 ab.l,?_⟩;have bb:=bq (cs:=[]) (vs:=[.string .empty]) (l:=1) (c:=1) (sz:=1) (ab.pick 6 [2,1,3,0,4,5]) rfl rfl (gP _);refine aQ (bb.pick 6 [1,2,0,3,4,5]) rfl (by intro cl ac;simp at ac;rcases ac with rfl|rfl|rfl|rfl|rfl<;>rfl) λcl ac=>?_;exact⟨_,_,_,_,_,_,rfl,ac⟩
  ·refine ag p λch _ C=>⟨aE 3 C.l,?_⟩
   refine⟨?_,?_⟩
   ·refine(dV (a.l.mono<|aE 3 C.l) U U).mono ?_;rintro _ _⟨ci,cL,rfl,ba⟩;have R:=ba.fy C;refine⟨_,_,_,rfl,aE 4 R.l,?_⟩;refine ag R λck _ ab=>⟨aE 5 ab.l,?_⟩;have bb:=bq (cs:=[]) (vs:=[.string .empty]) (l:=1) (c:=1) (sz:=1) (ab.pick 6 [0,2,3,1,4,5]) rfl rfl (gP _);refine aQ (bb.pick 6 [1,2,0,3,4,5]) rfl (by intro cl ac;simp at ac;rcases ac with rfl|rfl|rfl|rfl|rfl<;>rfl) λcl ac=>?_;exact⟨_,_,_,_,_,_,rfl,ac⟩
   ·refine ag C λci _ R=>⟨aE 4 R.l,?_⟩;refine(dV (a.l.mono<|aE 4 R.l) U U).mono ?_;rintro _ _⟨ck,cL,rfl,ba⟩;have ab:=ba.fy R;refine⟨_,_,_,rfl,aE 5 ab.l,?_⟩;have bb:=bq (cs:=[]) (vs:=[.string .empty]) (l:=1) (c:=1) (sz:=1) (ab.pick 6 [1,2,3,0,4,5]) rfl rfl (gP _);refine aQ (bb.pick 6 [1,2,0,3,4,5]) rfl (by intro cl ac;simp at ac;rcases ac with rfl|rfl|rfl|rfl|rfl<;>rfl) λcl ac=>?_;exact⟨_,_,_,_,_,_,rfl,ac⟩
 ·refine ag o λce _ p=>⟨aE 2 p.l,?_⟩
  refine⟨?_,?_⟩
  ·refine(vc (a.t.mono<|aE 2 p.l) U U).mono ?_;rintro _ _⟨cg,ch,rfl,b9⟩;have C:=b9.fy p;refine⟨_,_,_,rfl,aE 3 C.l,?_⟩
   refine⟨?_,?_⟩
   ·refine(dV (a.l.mono<|aE 3 C.l) U U).mono ?_;rintro _ _⟨ci,cL,rfl,ba⟩;have R:=ba.fy C;refine⟨_,_,_,rfl,aE 4 R.l,?_⟩;refine ag R λck _ ab=>⟨aE 5 ab.l,?_⟩;have bb:=bq (cs:=[]) (vs:=[.string .empty]) (l:=1) (c:=1) (sz:=1) (ab.pick 6 [3,0,2,1,4,5]) rfl rfl (gP _);refine aQ (bb.pick 6 [1,2,0,3,4,5]) rfl (by intro cl ac;simp at ac;rcases ac with rfl|rfl|rfl|rfl|rfl<;>rfl) λcl ac=>?_;exact⟨_,_,_,_,_,_,rfl,ac⟩
   ·refine ag C λci _ R=>⟨aE 4 R.l,?_⟩;refine(dV (a.l.mono<|aE 4 R.l) U U).mono ?_;rintro _ _⟨ck,cL,rfl,ba⟩;have ab:=ba.fy R;refine⟨_,_,_,rfl,aE 5 ab.l,?_⟩;have bb:=bq (cs:=[]) (vs:=[.string .empty]) (l:=1) (c:=1) (sz:=1) (ab.pick 6 [3,1,2,0,4,5]) rfl rfl (gP _);refine aQ (bb.pick 6 [1,2,0,3,4,5]) rfl (by intro cl ac;simp at ac;rcases ac with rfl|rfl|rfl|rfl|rfl<;>rfl) λcl ac=>?_;exact⟨_,_,_,_,_,_,rfl,ac⟩
  ·refine ag p λcg _ C=>⟨aE 3 C.l,?_⟩;refine(vc (a.t.mono<|aE 3 C.l) U U).mono ?_;rintro _ _⟨ch,ci,rfl,b9⟩;have R:=b9.fy C;refine⟨_,_,_,rfl,aE 4 R.l,?_⟩;refine(dV (a.l.mono<|aE 4 R.l) U U).mono ?_;rintro _ _⟨ck,cL,rfl,ba⟩;have ab:=ba.fy R;refine⟨_,_,_,rfl,aE 5 ab.l,?_⟩;have bb:=bq (cs:=[]) (vs:=[.string .empty]) (l:=1) (c:=1) (sz:=1) (ab.pick 6 [3,2,1,0,4,5]) rfl rfl (gP _);refine aQ (bb.pick 6 [1,2,0,3,4,5]) rfl (by intro cl ac;simp at ac;rcases ac with rfl|rfl|rfl|rfl|rfl<;>rfl) λcl ac=>?_;exact⟨_,_,_,_,_,_,rfl,ac⟩
 ·refine ag o λce _ p=>⟨aE 2 p.l,?_⟩
  refine⟨?_,?_⟩
  ·refine(vc (a.t.mono<|aE 2 p.l) U U).mono ?_;rintro _ _⟨cg,ch,rfl,b9⟩;have C:=b9.fy p;refine⟨_,_,_,rfl,aE 3 C.l,?_⟩
   refine⟨?_,?_⟩
   ·refine(dV (a.l.mono<|aE 3 C.l) U U).mono ?_;rintro _ _⟨ci,cL,rfl,ba⟩;have R:=ba.fy C;refine⟨_,_,_,rfl,aE 4 R.l,?_⟩;refine ag R λck _ ab=>⟨aE 5 ab.l,?_⟩;have bb:=bq (cs:=[]) (vs:=[.string .empty]) (l:=1) (c:=1) (sz:=1) (ab.pick 6 [0,3,2,1,4,5]) rfl rfl (gP _);refine aQ (bb.pick 6 [1,2,0,3,4,5]) rfl (by intro cl ac;simp at ac;rcases ac with rfl|rfl|rfl|rfl|rfl<;>rfl) λcl ac=>?_;exact⟨_,_,_,_,_,_,rfl,ac⟩
   ·refine ag C λci _ R=>⟨aE 4 R.l,?_⟩;refine(dV (a.l.mono<|aE 4 R.l) U U).mono ?_;rintro _ _⟨ck,cL,rfl,ba⟩;have ab:=ba.fy R;refine⟨_,_,_,rfl,aE 5 ab.l,?_⟩;have bb:=bq (cs:=[]) (vs:=[.string .empty]) (l:=1) (c:=1) (sz:=1) (ab.pick 6 [1,3,2,0,4,5]) rfl rfl (gP _);refine aQ (bb.pick 6 [1,2,0,3,4,5]) rfl (by intro cl ac;simp at ac;rcases ac with rfl|rfl|rfl|rfl|rfl<;>rfl) λcl ac=>?_;exact⟨_,_,_,_,_,_,rfl,ac⟩
  ·refine ag p λcg _ C=>⟨aE 3 C.l,?_⟩;refine(vc (a.t.mono<|aE 3 C.l) U U).mono ?_;rintro _ _⟨ch,ci,rfl,b9⟩;have R:=b9.fy C;refine⟨_,_,_,rfl,aE 4 R.l,?_⟩;refine(dV (a.l.mono<|aE 4 R.l) U U).mono ?_;rintro _ _⟨ck,cL,rfl,ba⟩;have ab:=ba.fy R;refine⟨_,_,_,rfl,aE 5 ab.l,?_⟩;have bb:=bq (cs:=[]) (vs:=[.string .empty]) (l:=1) (c:=1) (sz:=1) (ab.pick 6 [2,3,1,0,4,5]) rfl rfl (gP _);refine aQ (bb.pick 6 [1,2,0,3,4,5]) rfl (by intro cl ac;simp at ac;rcases ac with rfl|rfl|rfl|rfl|rfl<;>rfl) λcl ac=>?_;exact⟨_,_,_,_,_,_,rfl,ac⟩
end
def OY:a_:={ rngs:=[],loops:=[(11,[(41,(.one (.int .i64)))])],joins:=[],blocks:=[] }
def RG(a:E)(b c:Nat)(d:E)(e f:Nat)(g:E)(i j:Nat)(k:Int)(l:E)(m n:Nat)(w:ga)(R:ah->WP):Prop:=  new w (ψ a b c d e f g i j k l m n) λa b=>H b [u none] 28 λb c=>H c [O 0,O 0,D] 31 λc d=>H d [D,D,D,O 0,D,D,O 0,O 0,D,D,D,D,D,D,D,D,D,D,D,D,J false] 110 λd e=>gh e (Z b) (u (some (Z d))) λd=>∃e f g h i j k l m n o p q,iA d (Z a) 0 5=some [T e f g,T h i j,T k l m,O n,T o p q]/\jm prog Ev 39 [vA (Array.mk [T e f g,T h i j,T k l m,O n,T o p q])] d λa d=>∃e f g h i j k l m n o p q r,a=vT (Array.mk [vA (Array.mk [T e f g,T h i j,T k l m,O n,T o p q]),O r])/\H d [D,D,D,O 0,D] 27 λa d=>bC d (Z a) [T e f g,T h i j,T k l m,O n,T o p q] λd=>br (r !=0) (∃a,World.cell? d (Z b)=some (u a)/\gh d (Z b) (u a) λa=>bC a (Z c) [O r,O 0,D] λa=>Lh prog Ev 38 [u (some (Z c)),u (some (Z b))] a λa=>∃d,World.cell? a (Z b)=some (u d)/\∃b e f g h,iA a (Z c) 0 3=some [O b,O e,T f g h]/\R (vT (Array.mk [u d,vA (Array.mk [O b,O e,T f g h])])) a) (∃e,World.cell? d (Z b)=some (u e)/\∃f g h i j k l m n o p q r,iA d (Z a) 0 5=some [T f g h,T i j k,T l m n,O o,T p q r]/\nn e λe=>bC d e [T f g h,T i j k,T l m n,O o,T p q r] λd=>∃e f g h i j k l m n o p q,iA d (Z a) 0 5=some [T e f g,T h i j,T k l m,O n,T o p q]/\jm prog Ev 40 [vA (Array.mk [T e f g,T h i j,T k l m,O n,T o p q])] d λd e=>∃f g h i,d=vT (Array.mk [T f g h,O i])/\br (decide (0<(↑g:Int))) (gh e (Z c) (O 13) λd=>gT 0 d λe h d i=>br (decide (d<(↑g:Int))) (M f g d 1 λb=>∃f,World.cell? i b=some (O f)/\∀b,drawn i b->∃(g:ga->Prop),g b/\jo g c 2 λj k l=>jo g a 1 λm n o=>gz g (Z a) λo p q=>K (f-(↑p:Int))/\M m n (f-(↑p:Int)) 1 λa=>∃f,(∀b,g b->World.cell? b a=some (Value.string f))/\H b [Value.string f] 9 λa b=>g b/\bg prog (kR 23 [T j k l,T (some (Z a)) 1 1]) b λa b=>∃f j k,a=T f j k/\g b/\gh b (Addr.add (Z c) 2) (T f j k) λa=>gx e h d a i) (∀a,drawn i a->∃(d:ga->Prop),d a/\jc d (Z b) λe=>∃f g h i j,(∀a,d a->iA a (Z c) 0 3=some [O f,O g,T h i j])/\gh a (Z b) (u e) λa=>d a/\bC a (Z c) [O f,O g,T h i j] λa=>Lh prog Ev 38 [u (some (Z c)),u (some (Z b))] a λa=>∃d,World.cell? a (Z b)=some (u d)/\∃b e f g h,iA a (Z c) 0 3=some [O b,O e,T f g h]/\R (vT (Array.mk [u d,vA (Array.mk [O b,O e,T f g h])])) a)) (∀d,drawn e d->∃(e:ga->Prop),e d/\jc e (Z b) λf=>∃g h i j k l m n o p q r s,(∀b,e b->iA b (Z a) 0 5=some [T g h i,T j k l,T m n o,O p,T q r s])/\jm prog Ev 41 [vA (Array.mk [T g h i,T j k l,T m n o,O p,T q r s])] d λd g=>∃h i j k l m,d=vT (Array.mk [vA (Array.mk [T h i j,O k,O l]),O m])/\e g/\nn f λd=>bC g (Addr.add d 5) [T h i j,O k,O l] λd=>e d/\br (m !=0) (∃a,World.cell? d (Z b)=some (u a)/\gh d (Z b) (u a) λa=>bC a (Z c) [O m,O 0,D] λa=>Lh prog Ev 38 [u (some (Z c)),u (some (Z b))] a λa=>∃d,World.cell? a (Z b)=some (u d)/\∃b e f g h,iA a (Z c) 0 3=some [O b,O e,T f g h]/\R (vT (Array.mk [u d,vA (Array.mk [O b,O e,T f g h])])) a) (∀e,drawn d e->∃(d:ga->Prop),d e/\jc d (Z b) λf=>∃g h i j k l m n o p q r s,(∀b,d b->iA b (Z a) 0 5=some [T g h i,T j k l,T m n o,O p,T q r s])/\jm prog Ev 42 [vA (Array.mk [T g h i,T j k l,T m n o,O p,T q r s])] e λe g=>∃h i j k,e=vT (Array.mk [T h i j,O k])/\d g/\nn f λe=>gh g (Addr.add (Addr.add e 5) 3) (T h i j) λe=>d e/\∀d,drawn e d->∃(e:ga->Prop),e d/\jc e (Z b) λf=>∃g h i j k l m n o p q r s,(∀b,e b->iA b (Z a) 0 5=some [T g h i,T j k l,T m n o,O p,T q r s])/\jm prog Ev 43 [vA (Array.mk [T g h i,T j k l,T m n o,O p,T q r s])] d λd g=>∃h i j k l m n o p q,d=vT (Array.mk [vA (Array.mk [T h i j,T k l m,T n o p]),O q])/\e g/\nn f λd=>bC g (Addr.add d 9) [T h i j,T k l m,T n o p] λd=>e d/\∀e,drawn d e->∃(d:ga->Prop),d e/\jc d (Z b) λf=>jc d (Z b) λg=>nn g λg=>∃h i j k l m,(∀a,d a->iA a (Addr.add g 9) 0 2=some [T h i j,T k l m])/\jm prog Ev 44 [vA (Array.mk [T h i j,T k l m])] e λe g=>∃h i j k l m n o p q r s t A v w x y z a0 a1 a2 a3 a4 a5,e=vT (Array.mk [vA (Array.mk [T h i j,T k l m,T n o p,T q r s,T t A v,T w x y,T z a0 a1,T a2 a3 a4]),O a5])/\d g/\nn f λe=>bC g (Addr.add (Addr.add e 9) 3) [T h i j,T k l m,T n o p,T q r s,T t A v,T w x y,T z a0 a1,T a2 a3 a4] λe=>d e/\∃d f g h i j k l m n o p q,iA e (Z a) 0 5=some [T d f g,T h i j,T k l m,O n,T o p q]/\jm prog Ev 45 [vA (Array.mk [T d f g,T h i j,T k l m,O n,T o p q])] e λa d=>∃e f g h,a=vT (Array.mk [T e f g,O h])/\∃a,World.cell? d (Z b)=some (u a)/\nn a λa=>gh d (Addr.add (Addr.add a 9) 11) (J ((↑f:Int)==0)) λa=>∃d,World.cell? a (Z b)=some (u d)/\gh a (Z b) (u d) λa=>bC a (Z c) [O 0,O 0,D] λa=>Lh prog Ev 38 [u (some (Z c)),u (some (Z b))] a λa=>∃d,World.cell? a (Z b)=some (u d)/\∃b e f g h,iA a (Z c) 0 3=some [O b,O e,T f g h]/\R (vT (Array.mk [u d,vA (Array.mk [O b,O e,T f g h])])) a)))
theorem OZ(a:E)(b c:Nat)(d:E)(e f:Nat)(g:E)(i j:Nat)(k:Int)(l:E)(m n:Nat)(w:ga)(R:ah->WP)(h:RG a b c d e f g i j k l m n w R):ρ 8 [φ a b c d e f g i j k l m n] w R:=DN func8 OY (by kernel_rfl) h
section
variable{a b c d:E}{i j k l m n o p:Nat}{A B:Int}{w:ga}{R:ah->WP}
theorem tI(h:H w [D,D,D,O 0,D] 27 λb c=>kV 46 [u a] c λd c=>nn d λa=>rE 47 [u (some a)] c λa c=>∃d e f g h i j k l m n o p,a=vG [T d e f,T g h i,T j k l,O m,T n o p]/\bC c (Z b) [T d e f,T g h i,T j k l,O m,T n o p] λa=>χ a (Z b) λb=>R (b) a):ρ 9 [.pointer a] w R:=rv func9 h
theorem wH(h:kV 46 [u a] w λc b=>nn c λa=>iu 48 [u (some (a.add 9))] b λc b=>R (J c) b):ρ 11 [.pointer a] w R:=rv func11 h
theorem tK(h:H w [D,D,D] 96 λb c=>kV 46 [u a] c λd c=>nn d λa=>rE 80 [u (some (a.add 9))] c λa c=>∃d e f g h i j k l,a=vG [T d e f,T g h i,T j k l]/\bC c (Z b) [T d e f,T g h i,T j k l] λa=>∃c d e f g h i j k,rA a (Z b) 3 [T c d e,T f g h,T i j k]/\R (vG [T c d e,T f g h,T i j k]) a):ρ 37 [.pointer a] w R:=rv func37 h
abbrev LW:aM:=38
def wW:a_:={ rngs:=[],loops:=[],joins:=[],blocks:=[] }
def zK(c0:vP)(c1:vP)(w:ga)(R:ga->Prop):Prop:=  ∃n1,World.cell? w c0=some (O n1)/\br (n1 !=0) (gh w c1 (u none) λw1=>R w1) (R w)
theorem H9(a:vP)(b:vP)(w:ga)(R:ga->Prop)(h:zK a b w R):Lh prog Ev 38 [(.pointer (some a)),(.pointer (some b))] w R:=
 DJ aY YH qa func38 wW vN (by kernel_rfl) ((by kernel_rfl:fnV prog Ty Fn Ev wW Tryz.f38 [(.pointer<|some a),(.pointer<|some b)] w (λ_ w=>R w)=zK a b w R)▸h)
theorem KD(h:new w (ψ a i j b k l c m n A d o p) λa b=>H b [D,D,D,O 0,D] 27 λb c=>χ c (Z a) λd=>iu 81 [d] c λe d=>br (!e) (χ d (Z a) λa=>rE 82 [a] d λa c=>∃d e f g h i j k l m n o p q,a=vU [vG [T d e f,T g h i,T j k l,O m,T n o p],O q]/\bC c (Z b) [T d e f,T g h i,T j k l,O m,T n o p] λa=>χ a (Z b) λb=>R (vU [b,O q]) a) (χ d (Z a) λc=>kX 83 [c] d λe f g h d=>br (h !=0) (bC d (Z b) [D,D,D,O 0,D] λa=>χ a (Z b) λb=>R (vU [b,O 1]) a) (iu 84 [T e f g,J false] d λe d=>br e (bC d (Z b) [D,D,D,O 0,D] λa=>χ a (Z b) λb=>R (vU [b,O 1]) a) (χ d (Z a) λa=>rE 85 [a] d λa c=>∃d e f g h i j k l m n o p,a=vG [T d e f,T g h i,T j k l,O m,T n o p]/\bC c (Z b) [T d e f,T g h i,T j k l,O m,T n o p] λa=>χ a (Z b) λb=>R (vU [b,O 0]) a)))):ρ 39 [φ a i j b k l c m n A d o p] w R:=rv func39 h
theorem xQ(h:br (Option.isNone a) (H w [D,D,D,O 0,D,D,O 0,O 0,D,D,D,D,D,D,D,D,D,D,D,D,J false] 110 λa b=>R (u (some (Z a))) b) (R (u a) w)):ρ 46 [.pointer a] w R:=rv func46 h
theorem rU(h:H w [D,D,D,O 0,D] 27 λb c=>br (Option.isNone a) (bC c (Z b) [D,D,D,O 0,D] λa=>χ a (Z b) λb=>R (b) a) (nn a λa=>∃d e f g h i j k l m n o p,rA c a 5 [T d e f,T g h i,T j k l,O m,T n o p]/\rE 85 [vG [T d e f,T g h i,T j k l,O m,T n o p]] c λa c=>∃d e f g h i j k l m n o p,a=vG [T d e f,T g h i,T j k l,O m,T n o p]/\bC c (Z b) [T d e f,T g h i,T j k l,O m,T n o p] λa=>χ a (Z b) λb=>R (b) a)):ρ 47 [.pointer a] w R:=rv func47 h
theorem wK{a:E}{w:ga}{R:ah->WP}(h:br (!Option.isNone a) (nn a λa=>mH w (a.add 11) λb=>R (J b) w) (R (J false) w)):ρ 48 [.pointer a] w R:=rv func48 h
theorem tM(h:H w [D,D,D] 96 λb c=>br (Option.isNone a) (bC c (Z b) [D,D,D] λa=>∃c d e f g h i j k,rA a (Z b) 3 [T c d e,T f g h,T i j k]/\R (vG [T c d e,T f g h,T i j k]) a) (gj c λd c=>nn a λe=>gz c e λf g h=>nn a λe=>gz c (e.add 1) λi j k=>(gF 158 [T f g h,vF 159 []] d λf g h e=>c e/\(gF 160 [T i j k,vF 161 []] e λi j k e=>c e/\H e [D,D] 94 λd e=>c e/\bC e (Z d) [T f g h,T i j k] λc=>nn a λa=>gp c (a.add 2) λe f g=>gF 162 [T e f g,vF 163 []] c λe f g c=>∃a h i j k l,rA c (Z d) 2 [T a h i,T j k l]/\bC c (Z b) [T a h i,T j k l,T e f g] λa=>∃c d e f g h i j k,rA a (Z b) 3 [T c d e,T f g h,T i j k]/\R (vG [T c d e,T f g h,T i j k]) a)/\H e [D,D] 94 λd e=>c e/\gF 160 [T i j k,vF 161 []] e λj k l i=>c i/\bC i (Z d) [T f g h,T j k l] λc=>nn a λa=>gp c (a.add 2) λe f g=>gF 162 [T e f g,vF 163 []] c λe f g c=>∃a h i j k l,rA c (Z d) 2 [T a h i,T j k l]/\bC c (Z b) [T a h i,T j k l,T e f g] λa=>∃c d e f g h i j k,rA a (Z b) 3 [T c d e,T f g h,T i j k]/\R (vG [T c d e,T f g h,T i j k]) a)/\H d [D,D] 94 λd e=>c e/\gF 158 [T f g h,vF 159 []] e λg h l f=>c f/\gF 160 [T i j k,vF 161 []] f λi j k f=>c f/\bC f (Z d) [T g h l,T i j k] λc=>nn a λa=>gp c (a.add 2) λe f g=>gF 162 [T e f g,vF 163 []] c λe f g c=>∃a h i j k l,rA c (Z d) 2 [T a h i,T j k l]/\bC c (Z b) [T a h i,T j k l,T e f g] λa=>∃c d e f g h i j k,rA a (Z b) 3 [T c d e,T f g h,T i j k]/\R (vG [T c d e,T f g h,T i j k]) a)):ρ 80 [.pointer a] w R:=rv func80 h
theorem LY(h:new w (ψ a i j b k l c m n A d o p) λa b=>H b [D,D,D,O 0,D] 27 λb c=>∃(d:lP [(3,S1.one Cs.ptr)]),(gj c λb c=>gz c (Z a) λe f g=>jo c a 1 λh i j=>jo c a 2 λk l m=>jr c a 3 λn=>(gF 170 [T e f g] b λe f g b=>c b/\(gF 176 [T e f g] b λe f g b=>c b/\(gF 178 [T h i j] b λh i j b=>c b/\(gF 177 [T h i j] b λh i j b=>c b/\(gF 115 [T k l m] b λk l m b=>c b/\(gF 132 [T k l m] b λk l m b=>c b/\H b [D,D,D,O 0,D] 27 λa b=>c b/\bC b (Z a) [T e f g,T h i j,T k l m,O n,D] λb=>d (some (Z a)) b)/\H b [D,D,D,O 0,D] 27 λa b=>c b/\gF 132 [T k l m] b λl m o k=>c k/\bC k (Z a) [T e f g,T h i j,T l m o,O n,D] λb=>d (some (Z a)) b)/\H b [D,D,D,O 0,D] 27 λa b=>c b/\gF 115 [T k l m] b λl m o k=>c k/\gF 132 [T l m o] k λl m o k=>c k/\bC k (Z a) [T e f g,T h i j,T l m o,O n,D] λb=>d (some (Z a)) b)/\H b [D,D,D,O 0,D] 27 λa b=>c b/\gF 177 [T h i j] b λi j o h=>c h/\gF 115 [T k l m] h λk l m h=>c h/\gF 132 [T k l m] h λk l m h=>c h/\bC h (Z a) [T e f g,T i j o,T k l m,O n,D] λb=>d (some (Z a)) b)/\H b [D,D,D,O 0,D] 27 λa b=>c b/\gF 178 [T h i j] b λi j o h=>c h/\gF 177 [T i j o] h λi j o h=>c h/\gF 115 [T k l m] h λk l m h=>c h/\gF 132 [T k l m] h λk l m h=>c h/\bC h (Z a) [T e f g,T i j o,T k l m,O n,D] λb=>d (some (Z a)) b)/\H b [D,D,D,O 0,D] 27 λa b=>c b/\gF 176 [T e f g] b λf g o e=>c e/\gF 178 [T h i j] e λh i j e=>c e/\gF 177 [T h i j] e λh i j e=>c e/\gF 115 [T k l m] e λk l m e=>c e/\gF 132 [T k l m] e λk l m e=>c e/\bC e (Z a) [T f g o,T h i j,T k l m,O n,D] λb=>d (some (Z a)) b)/\H b [D,D,D,O 0,D] 27 λa b=>c b/\gF 170 [T e f g] b λf g o e=>c e/\gF 176 [T f g o] e λf g o e=>c e/\gF 178 [T h i j] e λh i j e=>c e/\gF 177 [T h i j] e λh i j e=>c e/\gF 115 [T k l m] e λk l m e=>c e/\gF 132 [T k l m] e λk l m e=>c e/\bC e (Z a) [T f g o,T h i j,T k l m,O n,D] λb=>d (some (Z a)) b)/\∀(_:ν) c e,d c e->hU e a 4 λd f g=>gT 0 e λa g e h=>bQ (e<(f:Int)) (M d f e 3 λb=>∃d f i j k,rA h b 3 [O d,T f i j,O k]/\H h [O 0,D,O 0] 134 λb l=>bC l (Z b) [O d,T f i j,O k] λd=>hU d b 1 λf i j=>gF 115 [T f i j] d λi j k f=>gF 132 [T i j k] f λi j k f=>gh f (Addr.add (Z b) 1) (T i j k) λd=>nn c λf=>gp d (f.add 4) λi j k=>∃f l m n o,rA d (Z b) 3 [O f,T l m n,O o]/\H d [O f,T l m n,O o] 134 λb d=>iT 25 i j k b d λf i j d=>nn c λb=>gh d (b.add 4) (T f i j) λb=>gx a g e b h) (nn c λa=>∃c d e f g i j k l m n o p,rA h a 5 [T c d e,T f g i,T j k l,O m,T n o p]/\bC h (Z b) [T c d e,T f g i,T j k l,O m,T n o p] λa=>χ a (Z b) λb=>R (b) a)):ρ 85 [φ a i j b k l c m n A d o p] w R:=rv func85 h ⟨[(3,[(24,aP)])],[(2,[(3,(.one .ptr))])],[],[]⟩
theorem oR{d:aM}{e:Ay}(h:τ [(5,jG),(10,aP)] λb c=>b none 0 0 0 w/\∀(_:ν) f g h j k,b f g h j k->bQ (j<(i:Int)) (M a i j 1 λa=>gp k a λi l m=>p9 (Fn d) (gF d (T i l m::e) k λe i l d=>H d [T e i l] 86 λa d=>iT 92 f g h a d λe i l d=>K (j+1)/\nD b c e i l (j+1) d f g h j k)) (gF 250 [T f g h] k λc d e b=>R (T c d e) b)):ρ 158 [T a i j,(.func (.func d) #[] ⟨e⟩)] w R:=rv func158 h ⟨[(3,[(5,jG),(10,aP)])],[],[],[]⟩
abbrev fu:aM:=159
theorem qK(h:gF 251 [T a i j] w λc d e b=>gF 202 [T c d e] b λc d e b=>R (T c d e) b):ρ 159 [T a i j] w R:=rv func159 h
theorem xS{d:aM}{e:Ay}(h:τ [(5,jG),(10,aP)] λb c=>b none 0 0 0 w/\∀(_:ν) f g h j k,b f g h j k->bQ (j<(i:Int)) (M a i j 1 λa=>gp k a λi l m=>p9 (Fn d) (gF d (T i l m::e) k λe i l d=>H d [T e i l] 24 λa d=>iT 71 f g h a d λe i l d=>K (j+1)/\nD b c e i l (j+1) d f g h j k)) (gF 252 [T f g h] k λc d e b=>R (T c d e) b)):ρ 160 [T a i j,(.func (.func d) #[] ⟨e⟩)] w R:=rv func160 h ⟨[(3,[(5,jG),(10,aP)])],[],[],[]⟩
abbrev mq:aM:=161
theorem Bp(h:gF 115 [T a i j] w λc d e b=>gF 132 [T c d e] b λc d e b=>R (T c d e) b):ρ 161 [T a i j] w R:=rv func161 h
theorem qM{d:aM}{e:Ay}(h:τ [(5,jG),(10,aP)] λb c=>b none 0 0 0 w/\∀(_:ν) f g h j k,b f g h j k->bQ (j<(i:Int)) (M a i j 3 λa=>∃i l m n o,rA k a 3 [O i,O l,T m n o]/\H k [O 0,O 0,D] 90 λa p=>bC p (Z a) [O i,O l,T m n o] λi=>∃l m n o p,rA i (Z a) 3 [O l,O m,T n o p]/\p9 (Fn d) (rE d (vG [O l,O m,T n o p]::e) i λa d=>∃e i l m n,a=vG [O e,O i,T l m n]/\H d [O e,O i,T l m n] 90 λa d=>iT 83 f g h a d λe i l d=>K (j+1)/\nD b c e i l (j+1) d f g h j k)) (gF 253 [T f g h] k λc d e b=>R (T c d e) b)):ρ 162 [T a i j,(.func (.func d) #[] ⟨e⟩)] w R:=rv func162 h ⟨[(3,[(5,jG),(10,aP)])],[],[],[]⟩
abbrev fj:aM:=163
theorem pM(h:H w [O A,O B,T a i j] 90 λa b=>H b [O 0,O 0,D] 90 λb c=>hU c a 2 λd e f=>gF 159 [T d e f] c λe f g d=>gh d (Addr.add (Z a) 2) (T e f g) λc=>∃d e f g h,rA c (Z a) 3 [O d,O e,T f g h]/\bC c (Z b) [O d,O e,T f g h] λa=>∃c d e f g,rA a (Z b) 3 [O c,O d,T e f g]/\R (vG [O c,O d,T e f g]) a):ρ 163 [(.agg #[O A,O B,T a i j])] w R:=rv func163 h
theorem vh(h:H w [D,D,D,D,D,D,D,D] 106 λb c=>kV 46 [u a] c λd c=>nn d λa=>rE 302 [u (some (a.add 9))] c λa c=>∃d e f g h i j k l m n o p q r s t A v w x y z C,a=vG [T d e f,T g h i,T j k l,T m n o,T p q r,T s t A,T v w x,T y z C]/\bC c (Z b) [T d e f,T g h i,T j k l,T m n o,T p q r,T s t A,T v w x,T y z C] λa=>∃c d e f g h i j k l m n o p q r s t F v w x y z,rA a (Z b) 8 [T c d e,T f g h,T i j k,T l m n,T o p q,T r s t,T F v w,T x y z]/\R (vG [T c d e,T f g h,T i j k,T l m n,T o p q,T r s t,T F v w,T x y z]) a):ρ 218 [.pointer a] w R:=rv func218 h
theorem vj(h:H w [D,D,D,D,D,D,D,D] 106 λb c=>br (Option.isNone a) (bC c (Z b) [D,D,D,D,D,D,D,D] λa=>∃c d e f g h i j k l m n o p q r s t A v w x y z,rA a (Z b) 8 [T c d e,T f g h,T i j k,T l m n,T o p q,T r s t,T A v w,T x y z]/\R (vG [T c d e,T f g h,T i j k,T l m n,T o p q,T r s t,T A v w,T x y z]) a) (gj c λd c=>nn a λe=>gz c (e.add 3) λf g h=>nn a λe=>∃i j k l m n o p q,(∀a,c a->rA a (Addr.add (e.add 3) 1) 3 [T i j k,T l m n,T o p q])/\nn a λe=>gz c (Addr.add (e.add 3) 4) λr s t=>nn a λa=>∃e A v w x y z C F,(∀b,c b->rA b (Addr.add (a.add 3) 5) 3 [T e A v,T w x y,T z C F])/\gF 161 [T f g h] d λf g h d=>c d/\rE 358 [vG [T i j k,T l m n,T o p q]] d λa d=>∃i j k l m n o p q,a=vG [T i j k,T l m n,T o p q]/\c d/\gF 161 [T r s t] d λr s t d=>c d/\rE 358 [vG [T e A v,T w x y,T z C F]] d λa d=>∃e I v w x y z L N,a=vG [T e I v,T w x y,T z L N]/\c d/\bC d (Z b) [T f g h,T i j k,T l m n,T o p q,T r s t,T e I v,T w x y,T z L N] λa=>∃c d e f g h i j k l m n o p q r s t P v w x y z,rA a (Z b) 8 [T c d e,T f g h,T i j k,T l m n,T o p q,T r s t,T P v w,T x y z]/\R (vG [T c d e,T f g h,T i j k,T l m n,T o p q,T r s t,T P v w,T x y z]) a)):ρ 302 [.pointer a] w R:=rv func302 h
theorem KF(h:H w [T a i j,T b k l,T c m n] 104 λa b=>H b [D,D,D] 104 λb c=>gj c λd c=>gz c (Z a) λe f g=>jo c a 1 λh i j=>jo c a 2 λk l m=>gF 161 [T e f g] d λe f g d=>c d/\gF 161 [T h i j] d λh i j d=>c d/\gF 161 [T k l m] d λk l m d=>c d/\bC d (Z b) [T e f g,T h i j,T k l m] λa=>∃c d e f g h i j k,rA a (Z b) 3 [T c d e,T f g h,T i j k]/\R (vG [T c d e,T f g h,T i j k]) a):ρ 358 [(.agg #[T a i j,T b k l,T c m n])] w R:=rv func358 h
end
abbrev z5:Ay:=[D,D,D,O 0,D]
abbrev T0(ss:List vS):Ay:=ss.map λs=>Value.string s
section
variable{w:ga}{L:List aG}{a o:E}{l n c:Nat}{I:ga->Prop}{K:E->Nat->Nat->ga->Prop}
theorem Zj{ss:List vS}(b:bf (hp w) ss a l)(t:l*16<=140737488355328):ρ 178 [T a l c] w λe f=>∃o c',e=T o l c'/\W f (own 1 o l c' (T0 ss)::all w):=by
 refine mC ?_;have v:=b.1;cases a with
 |none=>
  have d:ss=[]:=by
   cases ss with
   |nil=>rfl
   |cons g h=>obtain⟨i,_,j,_⟩:=b.2 0 g rfl;grind
  subst d;have:l=0:=η
  subst this;exact gd rfl ⟨none,0,rfl,aH 1<|W.all w⟩
 |some g=>
  refine bm rfl (ag (W.all w) λh i d=>?_);have j:W i (own 1 (some ⟨h,0,none⟩) 0 0 []::all w):=bq (cs:=[]) d rfl rfl (gP _);have k:=b.mono d.aS
  refine(jH aY (rfl:ai Ty _=.slice _) rfl rfl rfl j (n:=l) (news:=T0 ss) (gU aY (rfl:ai Ty _=.slice _) G (by
    rcases k.row with x|⟨y,m,p⟩
    ·simp_all
    ·cases m;exact .inr ⟨g,rfl,λq r s=>j5<|p q r s⟩) (by
   intro p m;obtain⟨q,_,rfl⟩:=iz.1 m;rfl)) η U).mono ?_
  grind
theorem AM{b:List ly}(d:bf (hp w) b a l)(n:l*24<=140737488355328)(h:W w L)(g:∀e,aL L (hp e)->I e)(i:∀o c' w',W w' (own 2 o l c' (cX b)::L)->K o l c' w'):ρ 170 [T a l c] w λj w'=>∃o k c',j=T o k c'/\I w'/\K o k c' w':=by
 have m:=d.1;refine(vc d U U).mono ?_;rintro _ w'⟨o,c',rfl,e⟩;rw[m] at e ⊢;have f:=W.fy e h.l;exact⟨o,l,c',rfl,g _ f.tail.l,i _ _ _ f⟩
theorem uW{ss:List vS}(d:bf (hp w) ss a l)(e:l*16<=140737488355328)(h:W w L)(f:∀b,aL L (hp b)->I b)(g:∀o c' w',W w' (own 1 o l c' (T0 ss)::L)->K o l c' w'):ρ 178 [T a l c] w λi w'=>∃o k c',i=T o k c'/\I w'/\K o k c' w':=by
 refine(Zj d e).mono ?_;rintro _ w'⟨o,c',rfl,j⟩;have b:=W.fy j h.l;exact⟨o,l,c',rfl,f _ b.tail.l,g _ _ _ b⟩
theorem RI{xs:Az}(b:bf (hp w) xs a l)(m:l*8<=140737488355328)(h:W w L)(f:∀d,aL L (hp d)->I d)(g:∀o c' w',W w' (own 1 o l c' (iv xs)::L)->K o l c' w'):ρ 115 [T a l c] w λi w'=>∃o k c',i=T o k c'/\I w'/\K o k c' w':=by
 have j:=b.1;refine(dV b U U).mono ?_;rintro _ w'⟨o,c',rfl,d⟩;rw[j] at d ⊢;have e:=W.fy d h.l;exact⟨o,l,c',rfl,f _ e.tail.l,g _ _ _ e⟩
theorem xf{vs:Ay}(h:W w (own 2 o l c vs::L))(b:∀a,aL L (hp a)->I a)(d:∀o c' w',W w' (own 2 o l c' vs::L)->K o l c' w'):ρ 176 [T o l c] w λa w'=>∃o k c',a=T o k c'/\I w'/\K o k c' w':=
 kq (bZ (bJ h) ⟨_,_,_,rfl,b _ h.tail.l,d _ _ _<|cK h⟩)
theorem RJ{vs:Ay}(h:W w (own 1 o l c vs::L))(b:∀a,aL L (hp a)->I a)(d:∀o c' w',W w' (own 1 o l c' vs::L)->K o l c' w'):ρ 177 [T o l c] w λa w'=>∃o k c',a=T o k c'/\I w'/\K o k c' w':=
 mW (bZ (bJ h) ⟨_,_,_,rfl,b _ h.tail.l,d _ _ _<|cK h⟩)
theorem Ha{vs:Ay}(h:W w (own 1 o l c vs::L))(b:∀a,aL L (hp a)->I a)(d:∀o c' w',W w' (own 1 o l c' vs::L)->K o l c' w'):ρ 132 [T o l c] w λa w'=>∃o k c',a=T o k c'/\I w'/\K o k c' w':=
 bw (bZ (bJ h) ⟨_,_,_,rfl,b _ h.tail.l,d _ _ _<|cK h⟩)
variable{g:B}{x:GA}
theorem AO(an:gR (hp w) g x)(ao:jq g)(bo:g.terms.length*24<=140737488355328)(bs:g.b9.length*16<=140737488355328):ρ 85 [.agg ⟨x.cells⟩] w λap av=>∃(x':GA)(os:List (E×Nat)),ap=.agg ⟨x'.cells⟩/\Fq g x'/\os.length=g.prods.length/\W av (AF g x' os++all w):=by
 refine LY<|dZ an λbu F az a v=>?_;have a1:=a.t.1;have a2:=a.n.1;have a3:=a.l.1;have bz:=a.p.1;have aB:=a.s;obtain⟨bE,bN,bO,bP,bT,c0,aK⟩:=ao;have aR:sub (hp w) (hp F):=az;have a4:=W.all F;unfold Proofs.YtaoaemnefghnbaaGreatDoor.all at a4;generalize c1:hp F=e at*;refine ag a4 λh c2 a5=>?_;have a6:x.tl*24<=140737488355328:=U
 have C:x.nl*16<=140737488355328:=U
 have t:x.ll*8<=140737488355328:=U
 refine⟨λn o=>∃(b:Nat)(c d f:E)(k l m:Nat),n=some (Z b)/\W o [ax b [T c x.tl k,T d x.nl l,T f x.ll m,O x.s,D],own 1 f x.ll m<|iv g.levels,own 1 d x.nl l<|T0 g.b9,own 2 c x.tl k<|cX g.terms,ax h z5,has e],λc3 aS=>?_,?_⟩
 ·have c:=a5.drawn aS
  have b:∀{f:ga}{d:Nat}{k l m:E}{n o p:Nat},W f [ax d z5,own 1 m x.ll p<|iv g.levels,own 1 l x.nl o<|T0 g.b9,own 2 k x.tl n<|cX g.terms,ax h z5,has e]->bC f (Z d) [T k x.tl n,T l x.nl o,T m x.ll p,O x.s,D] λQ=>∃(q:Nat)(r s y:E)(z L P:Nat),some (Z d)=some (Z q)/\W Q [ax q [T r x.tl z,T s x.nl L,T y x.ll P,O x.s,D],own 1 y x.ll P<|iv g.levels,own 1 s x.nl L<|T0 g.b9,own 2 r x.tl z<|cX g.terms,ax h z5,has e]:=
   λ{X q r s y z L P} R=>aQ R rfl (by simp[aO]) λY S=>⟨q,r,s,y,z,L,P,rfl,S⟩
  refine⟨λd=>sub e<|hp d,aE 1 c.l,_,_,_,λf d=>v.c0 d,_,_,_,λf d=>v.c1 d,_,_,_,λf d=>v.c2 d,_,λf d=>v.c3 d,?_,?_⟩
  ·refine AM (a.t.mono<|aE 1 c.l) a6 c (λf d=>aE 1 d) λ_ _ _ l=>⟨?_,?_⟩
   ·refine xf l (λf d=>aE 1 d) λ_ _ _ d=>⟨?_,?_⟩
    ·refine uW (a.n.mono<|aE 2 d.l) C d (λk f=>aE 2 f) λ_ _ _ m=>⟨?_,?_⟩
     ·refine RJ m (λk f=>aE 2 f) λ_ _ _ f=>⟨?_,?_⟩
      ·refine RI (a.l.mono<|aE 3 f.l) t f (λn k=>aE 3 k) λ_ _ _ k=>⟨?_,?_⟩
       ·exact Ha k (λo n=>aE 3 n) λ_ _ _ o=>ag o λ_ _ n=>⟨aE 5 n.l,b n⟩
       ·exact ag k λ_ _ n=>⟨aE 5 n.l,Ha n.swap (λp o=>aE 4 o) λ_ _ _ o=>b o.swap⟩
      ·exact ag f λ_ _ k=>⟨aE 4 k.l,RI (a.l.mono<|aE 4 k.l) t k (λo n=>aE 4 n) λ_ _ _ n=>Ha n (λp o=>aE 4 o) λ_ _ _ o=>b<|o.pick 4 [1,0,2,3]⟩
     ·exact ag m λ_ _ f=>⟨aE 4 f.l,RJ f.swap (λn k=>aE 3 k) λ_ _ _ k=>RI (a.l.mono<|aE 4 k.l) t k (λo n=>aE 4 n) λ_ _ _ n=>Ha n (λp o=>aE 4 o) λ_ _ _ o=>b<|o.pick 4 [2,0,1,3]⟩
    ·exact ag d λ_ _ f=>⟨aE 3 f.l,uW (a.n.mono<|aE 3 f.l) C f (λm k=>aE 3 k) λ_ _ _ m=>RJ m (λn k=>aE 3 k) λ_ _ _ k=>RI (a.l.mono<|aE 4 k.l) t k (λo n=>aE 4 n) λ_ _ _ n=>Ha n (λp o=>aE 4 o) λ_ _ _ o=>b<|o.pick 4 [2,0,1,3]⟩
   ·exact ag l λ_ _ d=>⟨aE 3 d.l,xf d.swap (λk f=>aE 2 f) λ_ _ _ f=>uW (a.n.mono<|aE 3 f.l) C f (λm k=>aE 3 k) λ_ _ _ m=>RJ m (λn k=>aE 3 k) λ_ _ _ k=>RI (a.l.mono<|aE 4 k.l) t k (λo n=>aE 4 n) λ_ _ _ n=>Ha n (λp o=>aE 4 o) λ_ _ _ o=>b<|o.pick 4 [3,0,1,2]⟩
  ·exact ag c λ_ _ d=>⟨aE 2 d.l,AM (a.t.mono<|aE 2 d.l) a6 d (λk f=>aE 2 f) λ_ _ _ l=>xf l (λk f=>aE 2 f) λ_ _ _ f=>uW (a.n.mono<|aE 3 f.l) C f (λm k=>aE 3 k) λ_ _ _ m=>RJ m (λn k=>aE 3 k) λ_ _ _ k=>RI (a.l.mono<|aE 4 k.l) t k (λo n=>aE 4 n) λ_ _ _ n=>Ha n (λp o=>aE 4 o) λ_ _ _ o=>b<|o.pick 4 [3,0,1,2]⟩
 clear a5;rintro _ _ a7⟨k,l,m,n,o,p,q,rfl,L⟩;obtain⟨K,P⟩:=Y_ (λ(b:E)(j c:Nat)=>[T l x.tl o,T m x.nl p,T n x.ll q,O x.s,T b j c])
 refine⟨_,_,_,v.c4<|aE 5 L.l,λd f=>∃(j:Nat)(b:E)(c:Nat)(os:List (E×Nat)),d=j/\j<=g.prods.length/\os.length=j/\W f [ax k (K b j c),own 3 b j c<|eV os<|g.prods.take j,aT<|cJ os<|g.prods.take j,own 1 n x.ll q<|iv g.levels,own 1 m x.nl p<|T0 g.b9,own 2 l x.tl o<|cX g.terms,ax h z5,has e],λb _=>g.prods.length-b.toNat,⟨0,none,0,[],rfl,U,rfl,?_⟩,?_⟩
 ·have b:W a7 (aT (cJ []<|g.prods.take 0)::_):=W.flat.2 (show W a7 ([]++_) from aH 3 L);rw[P];exact b.pick 3 [2,1,0]
 clear L;rintro _ _ aV⟨j,c,d,os,rfl,c4,Q,y⟩;have a8:(g.prods.take j).length=j:=η
 refine ae (λb0=>?_) λb0=>?_
 ·have b1:j<g.prods.length:=η
  obtain⟨b,c5,c6,b2,b3,b4,a9,f,aa,rfl,c7,ab⟩:=a.p.get (i:=j) U;have bQ:=aK b<|gg b2;have b5:=ab.1;have ac:g.prods.take (j+1)=g.prods.take j++[b]:=by simp_all[iw]
  refine aI b3 U ⟨_,_,_,_,_,b4.at (aE 7 y.l) rfl,ag y λR c8 z=>aQ z rfl (by simp[aO]) λc9 z=>⟨_,_,_,z.cell 1,?_⟩⟩;refine(RI (I:=λ_=>True) (K:=λr s S X=>f=s/\W X (own 1 r f S (iv b.right)::ax R [O b.left,T a9 f aa,O b.level]::[ax k (K c j d),own 3 c j d<|eV os<|g.prods.take j,aT<|cJ os<|g.prods.take j,own 1 n x.ll q<|iv g.levels,own 1 m x.nl p<|T0 g.b9,own 2 l x.tl o<|cX g.terms,ax h z5,has e])) (ab.mono<|aE 8 z.l) U z (λ_ _=>trivial) λ_ _ _ r=>⟨rfl,r⟩).mono ?_;rintro _ ca⟨cb,_,cc,rfl,_,rfl,b6⟩;refine⟨_,_,_,rfl,(Ha (I:=λ_=>True) (K:=λr s S X=>f=s/\W X (own 1 r f S (iv b.right)::ax R [O b.left,T a9 f aa,O b.level]::[ax k (K c j d),own 3 c j d<|eV os<|g.prods.take j,aT<|cJ os<|g.prods.take j,own 1 n x.ll q<|iv g.levels,own 1 m x.nl p<|T0 g.b9,own 2 l x.tl o<|cX g.terms,ax h z5,has e])) b6 (λ_ _=>trivial) λ_ _ _ r=>⟨rfl,r⟩).mono ?_⟩;rintro _ cd⟨r,_,s,rfl,_,rfl,b7⟩;refine⟨_,_,_,rfl,?_⟩;rw[ak];refine aX b7.swap V λad S=>?_
  have b9:ad.cell? ((Z k).add 4)=some (T c j d):=by
   have X:aj (hp ad) (Z k) (K c j d):=af 2 S.l;rw[P] at X;exact X.cell sZ (j:=4) rfl
  refine⟨_,_,_,b9,_,_,_,_,_,(af 0 S.l).at sZ rfl,ag S λba bb ce=>?_⟩;have bc:f=b.right.length:=b5.symm;have bd:W bb [ax ba (sj ((r,s),b)),ax R [O b.left,T r f s,O b.level],own 1 r f s<|iv b.right,ax k<|K c j d,own 3 c j d<|eV os<|g.prods.take j,aT<|cJ os<|g.prods.take j,own 1 n x.ll q<|iv g.levels,own 1 m x.nl p<|T0 g.b9,own 2 l x.tl o<|cX g.terms,ax h z5,has e]:=by grind[sj]
  refine(aU aY (rfl:ai Ty _=.slice _) (rfl:ai Ty _=.slice _) rfl rfl rfl (bd.pick 11 [0,4,2,3,5,6,7,8,9,10]) rfl (by simp[aO,sj]) G U).mono ?_;rintro _ cg⟨X,Y,rfl,be⟩;refine⟨_,_,_,rfl,?_⟩
  show gh _ ((Z k).add 4) _ _
  rw[ak];refine aX (be.pick 10 [3,0,2,4,5,6,7,8,9]) G λch al=>?_;have bi:(K c j d).set 4 (T X (j+1) Y)=K X (j+1) Y:=G
  rw[bi,bc] at al;have a0:=W.snoc (A:=own 1 r b.right.length s<|iv b.right) (M:=cJ os<|g.prods.take j)<|al.pick 9 [2,3,0,1,4,5,6,7,8];have am:=Dy (Q.trans a8.symm) (r,s) b;have bl:=GZ (Q.trans a8.symm) (r,s) b;dsimp only at am;rw[<-am,<-ac] at a0;refine⟨ξ,⟨j+1,X,Y,os++[(r,s)],V,U,G,?_⟩,bS b1⟩;rw[ac] at a0 ⊢;rw[bl];exact a0.pick 8 [1,2,0,3,4,5,6,7]
 ·have z:g.prods.length=j:=G
  subst z;rw[jl] at y;have b:aj (hp aV) (Z k) (K c g.prods.length d):=af 0 y.l;rw[P] at b;refine⟨_,_,_,_,_,_,_,_,_,_,_,_,_,b.at sZ rfl,aQ (y.pick 8 [6,1,2,3,4,5,7]) rfl (by simp[aO]) λf r=>?_⟩;have R:aj (hp f) (Z h) [T l x.tl o,T m x.nl p,T n x.ll q,O x.s,T c g.prods.length d]:=af 0 r.l;refine⟨_,_,_,_,_,_,_,_,_,_,_,_,_,R.at sZ rfl,⟨l,x.tl,o,m,x.nl,p,n,x.ll,q,x.s,c,g.prods.length,d⟩,os,rfl,⟨a1.symm,a2.symm,a3.symm,aB,rfl⟩,Q,?_⟩;have s:W f ([own 3 c g.prods.length d (eV os g.prods),aT<|cJ os g.prods,own 2 l x.tl o<|cX g.terms,own 1 m x.nl p<|T0 g.b9,own 1 n x.ll q<|iv g.levels]++[has e]):=r.pick 7 [1,2,5,4,3,6];rw[<-a1,<-a2,<-a3] at s;exact W.on (N:=[_,_,_,_,_]) s (bM aR)
end
section
variable{α:Type}{f:α->Ay}{sz n c i:Nat}{w:ga}{L:List aG}{o:E}{xs:List α}
theorem AQ(b:∀x,(f x).length=sz)(h0:0<sz)(h:W w (own sz o n c (xs.flatMap f)::L)){x:α}(d:xs[i]? =some x):∃a,o=some a/\aj (hp w) (a.add (ew i sz)) (f x):=by
 rcases dT 0 h.l with a|⟨e,a,g⟩
 ·have j:=congrArg List.length a;rw[qu b,tH] at j;have k:=(gJ.1 d).1;have:0<xs.length*sz:=Nat.mul_pos U h0;omega
 ·exact⟨e,a,cQ b xs e g i x d⟩
theorem aaN(a:∀x,(f x).length=sz){y:α}(hi:i<xs.length):(xs.flatMap f).take (i*sz)++f y++(xs.flatMap f).drop (i*sz+(f y).length)=(xs.set i y).flatMap f:=by
 have b:xs=xs.take i++xs[i]::xs.drop (i+1):=V
 have c:((xs.take i).flatMap f).length=i*sz:=by grind[qu,List.length_take]
 have d:xs.flatMap f=(xs.take i).flatMap f++(f xs[i]++(xs.drop<|i+1).flatMap f):=G
 simp_all[tO,List.drop_append,List.drop_of_length_le]
theorem fmW(a:∀x,(f x).length=sz)(h0:0<sz)(d:∀x,∀v∈f x,aO v=true){b:vP}{y:α}{k:ga->Prop}(h:W w (own sz o n c (xs.flatMap f)::L))(e:o=some b)(hi:i<xs.length)(g:∀w',W w' (own sz o n c ((xs.set i y).flatMap f)::L)->k w'):bC w (b.add (ew i sz)) (f y) k:=by
 rw[bh]
 refine Il h e ?_ (d y) η λw' h=>g w' ?_
 ·rw[qu a,a];have:(i+1)*sz<=xs.length*sz:=nO _ hi
  grind
 grind[aaN]
end
section
variable{a:E}{i j:Nat}{A B C:Int}{w:ga}{R:ah->WP}
theorem fY{d:aM}{e:Ay}(h:rE 357 [T a i j,O (i:Int),vF d e] w λa b=>a=vU []/\R (vU []) b):ρ 298 [T a i j,(.func (.func d) #[] ⟨e⟩)] w R:=rv func298 h
theorem kW{e:aM}{f:Ay}(h:τ [(7,aP),(8,aP)] λb c=>b 0 20 w/\∀(_:ν) d g h,b d g h->bQ (g<=A) (rE 387 [T a i j,O d,O g,vF e f] h λa e=>a=vU []/\K (g+20)/\nB b c g (g+20) e d g h) (rE 387 [T a i j,O d,O A,vF e f] h λb c=>b=vU []/\gT 20 c λb d c g=>bQ (c<A) (K (2*c)/\τ [(7,aP),(8,aP)] λh k=>h 0 (2*c) g/\∀(_:ν) l m n,h l m n->bQ (m<=A) (K (l+c)/\rE 388 [T a i j,O l,O (l+c),O m,vF e f] n λa b=>a=vU []/\K (2*c)/\K (m+2*c)/\nB h k m (m+2*c) b l m n) (K (l+c)/\bQ (l+c<A) (rE 388 [T a i j,O l,O (l+c),O A,vF e f] n λa e=>a=vU []/\K (c*2)/\nA b d (c*2) e c g) (K (c*2)/\nA b d (c*2) n c g))) (R (vU []) g))):ρ 357 [T a i j,O A,(.func (.func e) #[] ⟨f⟩)] w R:=rv func357 h ⟨[(2,[(7,aP),(8,aP)]),(7,[(6,aP)]),(9,[(7,aP),(8,aP)])],[],[],[]⟩
theorem gQ{f:aM}{g:Ay}(h:K (A+1)/\gT (A+1) w λd k c e=>bQ (c<B) (gT c e λh j b l=>gj l λm n=>bQ (A<b) (M a i b 3 λo=>∃p q r s t,(∀a,n a->iA a o 0 3=some [O p,O q,T r s t])/\K (b-1)/\M a i (b-1) 3 λo=>∃z v w x y,(∀a,n a->iA a o 0 3=some [O z,O v,T w x y])/\p9 (Fn f) (iC f (vG [O p,O q,T r s t]::vG [O z,O v,T w x y]::g) m λm g=>n g/\bQ (m<0) (gj g λF C=>K (b-1)/\K (b-1)/\M a i (b-1) 3 λI=>∃e f g m n,(∀a,C a->iA a I 0 3=some [O e,O f,T g m n])/\M a i b 3 λL=>∃o p q r s,(∀a,C a->iA a L 0 3=some [O o,O p,T q r s])/\M a i b 3 λN=>bC F N [O e,O f,T g m n] λP=>M a i (b-1) 3 λa=>bC P a [O o,O p,T q r s] λa=>K (b-1)/\nA h j (b-1) a b l) (gx d k c g e))) (gx d k c m e)) (R (vU []) e)):ρ 387 [T a i j,O A,O B,(.func (.func f) #[] ⟨g⟩)] w R:=rv func387 h ⟨[(1,[(8,aP)]),(4,[(9,aP)])],[],[],[]⟩
theorem jz{F:aM}{g:Ay}(h:K (B-A)/\br (B-A==1) (τ [(10,aP),(11,aP)] λb c=>b B C w/\∀(_:ν) d e f,b d e f->bQ (d<e) (K (d+e)/\ns 1/\K (mD (d+e))/\gj f λv h=>M a i (mD (d+e)) 3 λj=>∃k l m n o,(∀a,h a->iA a j 0 3=some [O k,O l,T m n o])/\M a i A 3 λa=>∃i j p q r,(∀b,h b->iA b a 0 3=some [O i,O j,T p q r])/\p9 (Fn F) (iC F (vG [O k,O l,T m n o]::vG [O i,O j,T p q r]::g) v λi t=>h t/\bQ (i<0) (K (mD (d+e)+1)/\nB b c (mD (d+e)+1) e t d e f) (nB b c d (mD (d+e)) t d e f))) (gT A f λb c e f=>K (d-1)/\bQ (e<d-1) (gj f λd t=>K (e+1)/\K (e+1)/\M a i (e+1) 3 λh=>∃j k l m n,(∀a,t a->iA a h 0 3=some [O j,O k,T l m n])/\M a i e 3 λh=>∃o p q r s,(∀a,t a->iA a h 0 3=some [O o,O p,T q r s])/\M a i e 3 λv=>bC d v [O j,O k,T l m n] λd=>M a i (e+1) 3 λa=>bC d a [O o,O p,T q r s] λa=>gx b c e a f) (R (vU []) f))) (K (C-B)/\br (C-B==1) (τ [(14,aP),(15,aP)] λb c=>b A B w/\∀(_:ν) d e f,b d e f->bQ (d<e) (K (d+e)/\ns 1/\K (mD (d+e))/\gj f λv h=>M a i B 3 λj=>∃k l m n o,(∀a,h a->iA a j 0 3=some [O k,O l,T m n o])/\M a i (mD (d+e)) 3 λa=>∃i j p q r,(∀b,h b->iA b a 0 3=some [O i,O j,T p q r])/\p9 (Fn F) (iC F (vG [O k,O l,T m n o]::vG [O i,O j,T p q r]::g) v λi t=>h t/\br (!decide (i<0)) (K (mD (d+e)+1)/\nB b c (mD (d+e)+1) e t d e f) (nB b c d (mD (d+e)) t d e f))) (gT B f λb c e f=>bQ (d<e) (gj f λd t=>K (e-1)/\K (e-1)/\M a i (e-1) 3 λh=>∃j k l m n,(∀a,t a->iA a h 0 3=some [O j,O k,T l m n])/\M a i e 3 λh=>∃o p q r s,(∀a,t a->iA a h 0 3=some [O o,O p,T q r s])/\M a i e 3 λv=>bC d v [O j,O k,T l m n] λd=>M a i (e-1) 3 λa=>bC d a [O o,O p,T q r s] λa=>K (e-1)/\nA b c (e-1) a e f) (R (vU []) f))) (K (A+C)/\ns 1/\K (mD (A+C))/\K (mD (A+C)+B)/\∃(b:lP [(20,aP),(21,aP)]),bQ (mD (A+C)<B) (K (mD (A+C)+B-C)/\b (mD (A+C)+B-C) (mD (A+C)) w) (b A B w)/\∀(_:ν) c d e,b c d e->K (mD (A+C)+B-1)/\τ [(20,aP),(21,aP)] λb f=>b c d e/\∀(_:ν) c d e,b c d e->bQ (c<d) (K (c+d)/\ns 1/\K (mD (c+d))/\gj e λv h=>K (mD (A+C)+B-1-mD (c+d))/\M a i (mD (A+C)+B-1-mD (c+d)) 3 λj=>∃k l m n o,(∀a,h a->iA a j 0 3=some [O k,O l,T m n o])/\M a i (mD (c+d)) 3 λa=>∃i j p q r,(∀b,h b->iA b a 0 3=some [O i,O j,T p q r])/\p9 (Fn F) (iC F (vG [O k,O l,T m n o]::vG [O i,O j,T p q r]::g) v λi t=>h t/\br (!decide (i<0)) (K (mD (c+d)+1)/\nB b f (mD (c+d)+1) d t c d e) (nB b f c (mD (c+d)) t c d e))) (K (mD (A+C)+B-c)/\∃(b:lP []),bQ (c<B) (bQ (B<mD (A+C)+B-c) (rE 397 [T a i j,O c,O B,O (mD (A+C)+B-c),vF F g] e λa c=>a=vU []/\b c) (b e)) (b e)/\∀(_:ν) d,b d->bQ (A<c) (bQ (c<mD (A+C)) (rE 388 [T a i j,O A,O c,O (mD (A+C)),vF F g] d λb d=>b=vU []/\bQ (mD (A+C)<mD (A+C)+B-c) (bQ (mD (A+C)+B-c<C) (rE 388 [T a i j,O (mD (A+C)),O (mD (A+C)+B-c),O C,vF F g] d λa b=>a=vU []/\R (vU []) b) (R (vU []) d)) (R (vU []) d)) (bQ (mD (A+C)<mD (A+C)+B-c) (bQ (mD (A+C)+B-c<C) (rE 388 [T a i j,O (mD (A+C)),O (mD (A+C)+B-c),O C,vF F g] d λa b=>a=vU []/\R (vU []) b) (R (vU []) d)) (R (vU []) d))) (bQ (mD (A+C)<mD (A+C)+B-c) (bQ (mD (A+C)+B-c<C) (rE 388 [T a i j,O (mD (A+C)),O (mD (A+C)+B-c),O C,vF F g] d λa b=>a=vU []/\R (vU []) b) (R (vU []) d)) (R (vU []) d)))))):ρ 388 [T a i j,O A,O B,O C,(.func (.func F) #[] ⟨g⟩)] w R:=rv func388 h ⟨[(3,[(10,aP),(11,aP)]),(9,[(13,aP)]),(15,[(14,aP),(15,aP)]),(21,[(17,aP)]),(33,[(20,aP),(21,aP)])],[(32,[(20,aP),(21,aP)]),(41,[])],[],[]⟩
theorem kY{F:aM}{g:Ay}(h:K (B-A)/\K (C-B)/\τ [(10,aP),(11,aP)] λb c=>b (B-A) (C-B) w/\∀(_:ν) d e f,b d e f->br (d !=e) (bQ (e<d) (K (B-d)/\rE 400 [T a i j,O (B-d),O B,O e,vF F g] f λa k=>a=vU []/\K (d-e)/\nB b c (d-e) e k d e f) (K (B-d)/\K (B+e)/\K (B+e-d)/\rE 400 [T a i j,O (B-d),O (B+e-d),O d,vF F g] f λa k=>a=vU []/\K (e-d)/\nB b c d (e-d) k d e f)) (K (B-d)/\rE 400 [T a i j,O (B-d),O B,O d,vF F g] f λa b=>a=vU []/\R (vU []) b)):ρ 397 [T a i j,O A,O B,O C,(.func (.func F) #[] ⟨g⟩)] w R:=rv func397 h ⟨[(2,[(10,aP),(11,aP)])],[],[],[]⟩
theorem jd{F:aM}{e:Ay}(h:gT 0 w λf g b c=>bQ (b<C) (gj c λt d=>K (A+b)/\K (B+b)/\K (B+b)/\M a i (B+b) 3 λh=>∃j k l m n,(∀a,d a->iA a h 0 3=some [O j,O k,T l m n])/\K (A+b)/\M a i (A+b) 3 λh=>∃o p q r s,(∀a,d a->iA a h 0 3=some [O o,O p,T q r s])/\M a i (A+b) 3 λv=>bC t v [O j,O k,T l m n] λx=>M a i (B+b) 3 λa=>bC x a [O o,O p,T q r s] λa=>gx f g b a c) (R (vU []) c)):ρ 400 [T a i j,O A,O B,O C,(.func (.func F) #[] ⟨e⟩)] w R:=rv func400 h ⟨[(1,[(10,aP)])],[],[],[]⟩
end
abbrev ji(b:qH):Int:=b.1.2
section
variable{w:ga}{L:List aG}{o:E}{n c i:Nat}{ds:List qH}{x:qH}
abbrev tb(x:qH):Ay:=[O x.1.1,O x.1.2,T x.2.1.1 x.2.2.length x.2.1.2]
theorem T1(h:W w (own 3 o n c (gY ds)::L))(b:ds[i]? =some x):∃a,o=some a/\aj (hp w) (a.add (ew i 3)) (tb x):=AQ (f:=qk) (λ_=>rfl) V h b
theorem pw{a:vP}{k:ga->Prop}(h:W w (own 3 o n c (gY ds)::L))(d:o=some a)(hi:i<ds.length)(e:∀w',W w' (own 3 o n c (gY (ds.set i x))::L)->k w'):bC w (a.add (ew i 3)) (tb x) k:=
 fmW (f:=qk) (λ_=>rfl) V (λx g b=>by simp[qk,cf] at b;rcases b with rfl|rfl|rfl<;>rfl) h d hi e
theorem O2(h:W w (own 3 o n c (gY ds)::L)):n=ds.length:=by grind[gm,Vk]
end
section
variable{w:ga}{L:List aG}{o:E}{n c:Nat}{d:aM}{e:Ay}
theorem O3{A X M Y C:List qH}{xs:List qH}{k:Nat}{a b:Int}(h:W w (own 3 o n c (gY xs)::L))(a5:xs=A++(X++(M++(Y++C))))(s:a=A.length)(t:b=((A.length+X.length+M.length:Nat):Int))(a6:X.length=k)(a7:Y.length=k)(a8:xs.length<=1000000):
  ρ 400 [T o n c,O a,O b,O (k:Int),.func (.func d) #[] ⟨e⟩] w λv y=>v=.tuple #[]/\W y (own 3 o n c (gY (A++(Y++(M++(X++C)))))::L):=by
 have a9:=O2 h;have aa:xs.length=A.length+X.length+M.length+Y.length+C.length:=G
 subst s t;refine jd ⟨λg i=>∃f:Nat,g=f/\f<=k/\W i (own 3 o n c (gY<|A++(Y.take f++(X.drop f++(M++(X.take f++(Y.drop f++C))))))::L),λf _=>k-f.toNat,⟨0,rfl,gu _,η⟩,?_⟩;clear h;rintro _ _ ab⟨f,rfl,ac,h⟩;refine ae (λz=>?_) λz=>?_
 rotate_left
 ·grind
 have l:f<k:=η
 intro F I;have h:=h.eq<|aW I;obtain⟨x,N⟩:∃x,X[f]? =some x:=⟨_,gn U⟩;obtain⟨g,P⟩:∃i,Y[f]? =some i:=⟨_,gn U⟩;obtain⟨j,Q⟩:∃i,i=A++(Y.take f++(X.drop f++(M++(X.take f++(Y.drop f++C))))):=⟨_,rfl⟩;have ad:X.drop f=x::X.drop (f+1):=by grind[List.drop_eq_getElem_cons,List.getElem?_eq_getElem,Option.some.inj]
 have al:Y.drop f=g::Y.drop (f+1):=by grind[List.drop_eq_getElem_cons,List.getElem?_eq_getElem,Option.some.inj]
 have m:j=(A++Y.take f)++x::((X.drop (f+1)++(M++X.take f))++g::(Y.drop (f+1)++C)):=η
 have am:(A++Y.take f).length=A.length+f:=η
 have an:(X.drop (f+1)++(M++X.take f)).length=X.length-(f+1)+(M.length+f):=η
 have ao:(j.set (A.length+f) g).set (A.length+X.length+M.length+f) x=A++(Y.take (f+1)++(X.drop (f+1)++(M++(X.take (f+1)++(Y.drop (f+1)++C))))):=by
  rw[m,Eh U U,iw,iw,N,P];simp
 rw[<-Q] at h;have R:j[A.length+f]? =some x:=η
 have S:j[A.length+X.length+M.length+f]? =some g:=by
  rw[m,show(A++Y.take f)++x::((X.drop (f+1)++(M++X.take f))++g::(Y.drop (f+1)++C))=((A++Y.take f)++x::(X.drop (f+1)++(M++X.take f)))++g::(Y.drop (f+1)++C) by simp]
  grind[wB,List.length_append,List.length_cons]
 have ap:j.length=n:=(O2 h).symm;obtain⟨av,i,a0⟩:=T1 h R;obtain⟨az,p,a1⟩:=T1 h S;rw[i] at p;cases p;have a2:(A.length:Int)+f=((A.length+f:Nat):Int):=V
 have a3:((A.length+X.length+M.length:Nat):Int)+f=((A.length+X.length+M.length+f:Nat):Int):=V
 have aB:n<=1000000:=U
 have q:A.length+f<n:=U
 have r:A.length+X.length+M.length+f<n:=U
 rw[a2,a3];refine⟨λa4=>hp a4=hp F,rfl,ξ,ξ,ξ,aI i r ⟨_,_,_,_,_,λa4 e=>a1.at (by simp_all[sub.refl]) rfl,ξ,aI i q ⟨_,_,_,_,_,λa4 e=>a0.at (by simp_all[sub.refl]) rfl,aI i q<|pw (x:=g) h i U λa4 h=>aI i r<|pw (x:=x) h i η λaK h=>⟨ξ,⟨f+1,V,l,?_⟩,bS l⟩⟩⟩⟩
 simp_all
theorem aaO{A X Y C:List qH}{xs:List qH}{a m b:Int}(h:W w (own 3 o n c (gY xs)::L))(t:xs=A++(X++(Y++C)))(v:a=A.length)(x:m=((A.length+X.length:Nat):Int))(y:b=((A.length+X.length+Y.length:Nat):Int))(l:X≠[])(p:Y≠[])(a2:xs.length<=1000000):
  ρ 397 [T o n c,O a,O m,O b,.func (.func d) #[] ⟨e⟩] w λz F=>z=.tuple #[]/\W F (own 3 o n c (gY (A++(Y++(X++C))))::L):=by
 have a3:xs.length=A.length+X.length+Y.length+C.length:=G
 have I:=qW.2 l;have N:=qW.2 p;subst v x y;obtain⟨q,r⟩:∃f,f=A++(Y++(X++C)):=⟨_,rfl⟩;have a4:q.length=xs.length:=G
 rw[<-r];obtain⟨P,s⟩:∃f,f=A.length+X.length:=⟨_,rfl⟩;refine kY ⟨ξ,ξ,λf g i=>∃A X Y C:List qH,f=(X.length:Int)/\g=(Y.length:Int)/\X≠[]/\Y≠[]/\A.length+X.length=P/\A++(Y++(X++C))=q/\W i (own 3 o n c (gY<|A++(X++(Y++C)))::L),λf g _=>f.toNat+g.toNat,⟨A,X,Y,C,U,U,l,p,s.symm,r.symm,η⟩,?_⟩;rw[<-s];clear h t l p I N;rintro _ _ _ a5⟨i,g,f,j,rfl,rfl,Q,R,a6,a7,h⟩;have a8:=qW.2 Q;have a9:=qW.2 R;have aa:i.length+(f.length+(g.length+j.length))=q.length:=G
 refine ae (λS=>?_) λS=>?_
 rotate_left
 ·have a1:(g.length:Int)=f.length:=η
  have a0:g.length=f.length:=U
  refine⟨ξ,(O3 (A:=i) (X:=g) (M:=[]) (Y:=f) (C:=j) (k:=g.length) h V U η rfl a0.symm η).mono ?_⟩
  simp_all
 have ab:(g.length:Int)≠f.length:=η
 have ac:g.length≠f.length:=U
 refine ae (λa0=>?_) λa0=>?_
 ·have ad:f.length<g.length:=η
  refine⟨ξ,(O3 (A:=i) (X:=g.take f.length) (M:=g.drop f.length) (Y:=f) (C:=j) (k:=f.length) h (by grind[List.append_assoc,List.take_append_drop]) U G G rfl G).mono ?_⟩;rintro _ al⟨rfl,h⟩
  refine⟨rfl,ξ,⟨i++f,g.drop f.length,g.take f.length,j,G,G,λa1=>?_,λa1=>?_,G,?_,η⟩,?_⟩
  ·grind
  ·simp_all
  ·grind[List.append_assoc,List.take_append_drop]
  grind
 ·have ad:g.length<f.length:=G
  refine⟨ξ,ξ,ξ,(O3 (A:=i) (X:=g) (M:=f.take<|f.length-g.length) (Y:=f.drop<|f.length-g.length) (C:=j) (k:=g.length) h (by grind[List.append_assoc,List.take_append_drop]) U G rfl G G).mono ?_⟩;rintro _ al⟨rfl,h⟩
  refine⟨rfl,ξ,⟨i,f.drop<|f.length-g.length,f.take<|f.length-g.length,g++j,G,G,λa1=>?_,λa1=>?_,G,?_,U⟩,?_⟩
  ·grind
  ·grind
  ·grind[List.append_assoc,List.take_append_drop]
  simp_all
def Sq(x:qH):Prop:=0<=x.1.2/\x.1.2<=1000000
def u0(d:aM)(e:Ay):Prop:=Fn d=true/\∀(x y:qH)(u:ga),Sq x->Sq y->ρ d (.agg ⟨tb x⟩:: .agg ⟨tb y⟩::e) u λv u'=>∃z:Int,v=O z/\(z<0↔ji x<ji y)/\Gr u u'
theorem RK{A X C:List qH}{xs:List qH}{a b:Int}(F:u0 d e)(h:W w (own 3 o n c (gY xs)::L))(I:xs=A++(X++C))(a6:a=A.length)(a7:b=((A.length+X.length:Nat):Int))(N:∀x∈X,Sq x)(aS:xs.length<=1000000):
  ρ 387 [T o n c,O a,O b,.func (.func d) #[] ⟨e⟩] w λa8 a9=>a8=.tuple #[]/\∃S,S.Perm X/\oD ji S/\W a9 (own 3 o n c (gY (A++(S++C)))::L):=by
 have aV:xs.length=A.length+X.length+C.length:=G
 have b0:=O2 h;have b1:n<=1000000:=U
 subst a6 a7
 refine gQ ⟨ξ,λf i=>∃S g:List qH,(S++g).Perm X/\oD ji S/\((S≠[]/\f=((A.length+S.length:Nat):Int))\/(X=[]/\f=(A.length:Int)+1))/\W i (own 3 o n c (gY<|A++(S++(g++C)))::L),λf _=>A.length+X.length-f.toNat,?_,?_⟩
 ·cases f:X with
  |nil=>rw[f] at I;exact⟨[],[],.refl _,.nil,.inr ⟨rfl,rfl⟩,η⟩
  |cons x g=>rw[f] at I;exact⟨[x],g,.refl _,List.pairwise_singleton _ _,.inl ⟨V,V⟩,η⟩
 clear h;rintro _ b2 b3⟨S,m,q,aa,P,h⟩;have b4:S.length+m.length=X.length:=by have:=q.length_eq;simp_all
 refine ae (λr=>?_) λr=>?_
 rotate_left
 ·have f:=hY r
  have g:m=[]:=by
   rcases P with⟨_,rfl⟩|⟨i,_⟩
   ·exact j2 U
   simp_all
  grind
 have Q:=gZ r;rcases P with⟨b5,rfl⟩|⟨ab,rfl⟩
 rotate_left
 ·rw[ab] at Q;simp at Q;omega
 obtain⟨g,l,rfl⟩:∃f i,m=f::i:=by
  cases m with
  |nil=>simp_all
  |cons f i=>simp
 have ac:Sq g:=N g<|q.mem_iff.1 V;have ad:∀x∈S,Sq x:=λx f=>N x<|q.mem_iff.1 G;refine⟨λi j=>∃S1 f:List qH,S=S1++f/\i=((A.length+S1.length:Nat):Int)/\(∀k∈f,ji g<=ji k)/\W j (own 3 o n c (gY<|A++(S1++g::(f++(l++C))))::L),λf _=>f.toNat-A.length,⟨S,[],V,V,V,η⟩,?_⟩;clear h;rintro _ _ b6⟨S1,i,rfl,rfl,al,h⟩;have b7:=O2 h;have b9:S1.length+i.length+(l.length+1)=X.length:=η
 --it has its place
 have R:∀{f},(∀j,S1.getLast? =some j->ji j<=ji g)->W f (own 3 o n c (gY<|A++(S1++g::(i++(l++C))))::L)->K (((A.length+(S1++i).length:Nat):Int)+1)/\(∃S j:List qH,(S++j).Perm X/\oD ji S/\((S≠[]/\((A.length+(S1++i).length:Nat):Int)+1=((A.length+S.length:Nat):Int))\/(X=[]/\((A.length+(S1++i).length:Nat):Int)+1=(A.length:Int)+1))/\W f (own 3 o n c (gY<|A++(S++(j++C)))::L))/\A.length+X.length-(((A.length+(S1++i).length:Nat):Int)+1).toNat<A.length+X.length-((A.length+(S1++i).length:Nat):Int).toNat:=λ{p} f h=>by
  refine⟨ξ,⟨S1++g::i,l,?_,OT aa f (λj k=>al j<|List.mem_of_head? k),.inl ⟨V,G⟩,η⟩,U⟩
  grind
 intro s am;have h:=h.eq<|aW am;refine⟨λf=>Gr s f,Gr.refl _,ae (λan=>?_) λan=>?_⟩
 rotate_left
 ·have f:S1=[]:=j2 G;exact R (λj k=>η) h
 have ba:0<S1.length:=G
 obtain⟨f,j,rfl⟩:∃k p,S1=k++[p]:=⟨S1.dropLast,S1.getLast G,(List.dropLast_concat_getLast _).symm⟩;obtain⟨p,Y⟩:∃k,k=A++((f++[j])++g::(i++(l++C))):=⟨_,rfl⟩;rw[<-Y] at h;have ao:p=(A++f)++j::([]++g::(i++(l++C))):=η
 have ap:p[A.length+f.length]? =some j:=by grind[wB]
 have av:p[A.length+f.length+1]? =some g:=by grind[wB]
 have bb:=O2 h;have t:A.length+f.length<n:=G
 have v:A.length+f.length+1<n:=G
 obtain⟨bc,k,a0⟩:=T1 h ap;obtain⟨bd,a1,a2⟩:=T1 h av;rw[k] at a1;cases a1;have az:((A.length+(f++[j]).length:Nat):Int)=((A.length+f.length+1:Nat):Int):=G
 have aB:((A.length+f.length+1:Nat):Int)-1=((A.length+f.length:Nat):Int):=V
 rw[az,aB];refine aI k v ⟨_,_,_,_,_,λz y=>a2.at y rfl,ξ,aI k t ⟨_,_,_,_,_,λz y=>a0.at y rfl,bn.2 ⟨F.1,(F.2 g j s ac<|ad j V).mono ?_⟩⟩⟩;rintro _ be⟨bi,rfl,aK,y⟩;have h:=h.gr y;refine⟨_,rfl,y,ae (λz=>?_) λz=>?_⟩
 rotate_left
 ·have a3:=hY z;rw[Y] at h;refine R (λa4 a5=>?_) h
  grind
 have bl:=aK.1<|gZ z;intro a3 a4;have h:=h.eq<|aW a4;have a5:sub (hp s) (hp a3):=y.trans (Gr.drawn a4)
 refine⟨λaR=>hp aR=hp a3,rfl,ξ,ξ,aI k t ⟨_,_,_,_,_,λaR e=>(a0.mono a5).at (by grind[sub.refl]) rfl,aI k v ⟨_,_,_,_,_,λaR e=>(a2.mono a5).at (by grind[sub.refl]) rfl,aI k v<|pw (x:=j) h k U λaR h=>aI k t<|pw (x:=g) h k G λbo h=>⟨ξ,⟨f,j::i,V,rfl,?_,?_⟩,?_⟩⟩⟩⟩
 ·grind
 ·have bs:(p.set (A.length+f.length+1) j).set (A.length+f.length) g=A++(f++g::(j::i++(l++C))):=by
   rw[List.set_comm _ _ U,ao,Eh V V];simp
  grind
 ·show((A.length+f.length:Nat):Int).toNat-A.length<((A.length+f.length+1:Nat):Int).toNat-A.length
  omega
end
end Go.Proofs.YtaoaemnefghnbaaGreatDoor
