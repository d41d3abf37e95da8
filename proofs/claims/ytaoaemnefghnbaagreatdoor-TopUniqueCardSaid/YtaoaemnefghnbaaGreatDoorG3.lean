/- Texts of this claim, one behind the other. -/
import Derived.Test.YtaoaemnefghnbaaGreatDoorG2
import Derived.Shelf.Slices.In.SortNone
import Derived.Maps.RangeRun
set_option linter.unusedVariables false
set_option linter.unusedSectionVars false
set_option maxRecDepth 100000
set_option maxHeartbeats 16000000
namespace Go.V
end Go.V
namespace Go.Proofs.YtaoaemnefghnbaaGreatDoor
end Go.Proofs.YtaoaemnefghnbaaGreatDoor
open Go.V Go.Proofs.YtaoaemnefghnbaaGreatDoor
namespace Go.Proofs.YtaoaemnefghnbaaGreatDoor
structure aH where
 sym:Int
 to:Int
deriving DecidableEq
instance:uj aH:={ n:=2,rd:=λ_ x vs=>vs=[iI x.sym,iI x.to],mono:=λ_ h=>h,len:=λh=>by simp_all }
abbrev dK:=List au
def xb(st:List dK)(k:dK):List dK:=if k∈st then st else st++[k]
def dg(g:ah)(K:dK):List Nat:=(List.range (g.T+g.N)).filter λs=>decide (bx g K s≠[])
def ql(g:ah)(K:dK)(l:List Nat)(acc:List dK×List aH):List dK×List aH:=
 l.foldl (λ(acc:List dK×List aH)(s:Nat)=>(xb acc.1 (bx g K (s:Int)),acc.2++[⟨(s:Int),(acc.1.idxOf (bx g K (s:Int)):Int)⟩])) acc
def fJ(g:ah):Nat->List dK×List (List aH)
 |0=>([[⟨0,0⟩]],[])
 |i+1=>match(fJ g i).1[i]? with
  |none=>fJ g i
  |some K=>((ql g K (dg g K) ((fJ g i).1,[])).1,(fJ g i).2++[(ql g K (dg g K) ((fJ g i).1,[])).2])
structure HK(g:ah)(st:List dK):Prop where
 nd:st.Nodup
 ne:∀K∈st,K≠[]
 srt:∀K∈st,oD K
 fit:∀K∈st,∀x∈K,vE g x
 dots:∀(j:Nat)(K:dK),st[j]? =some K->∀x∈K,x.dot<=j
section
variable{g:ah}{I K k:dK}{st:List dK}{i j s:Nat}{x y:au}{acc:List dK×List aH}
theorem vF.fit(h:vF g I x)(hI:∀x∈I,vE g x):vE g x:=by
 induction h with
 |base h=>simp_all
 | @step y i p _ _ hp _ _=>exact⟨ahu _,Int.le_refl _,p,by simp_all,σ⟩
theorem vF.dot{d:Int}(h:vF g I x)(hI:∀x∈I,x.dot<=d)(hd:0<=d):x.dot<=d:=by
 induction h with
 |base h=>simp_all
 |step _ _ _ _ _=>omega
theorem HL{s:Int}(h:vE g x)(ha:ng g x=s)(hs:0<=s):∃p,g.prods[x.prod.toNat]? =some p/\x.dot<p.right.length/\p.right[x.dot.toNat]? =some s:=by
 obtain⟨_,u,p,hp,J⟩:=h
 grind[w_,List.getElem?_eq_some_iff]
theorem OF{s:Int}(hI:∀x∈I,vE g x)(hs:0<=s):∀x∈bx g I s,vE g x:=λx J=>by
 obtain⟨y,O,U,rfl⟩:=dj.1 J
 have u:=O.fit hI
 obtain⟨p,hp,V,_⟩:=HL u U hs
 exact⟨u.1,by have:=u.2.1;grind,p,hp,by grind⟩
theorem Mh:K∈xb st k↔K∈st\/K=k:=by grind[xb,id]
theorem S3(h:st[i]? =some K):(xb st k)[i]? =some K:=by grind[xb,List.getElem?_append_left,List.getElem?_eq_some_iff]
theorem HK.start(hp:0<g.prods.length):HK g [[⟨0,0⟩]]:=by
 refine⟨σ,σ,σ,λK J x u=>?_,λj K O x u=>?_⟩
 ·simp at J;subst J;simp at u;subst u;exact⟨Int.le_refl _,Int.le_refl _,g.prods[0],agM hp,σ⟩
 grind
theorem HK.put(h:HK g st)(hK:st[i]? =some K)(hs:bx g K (s:Int)≠[]):HK g (xb st (bx g K (s:Int))):=by
 have O:=agL hK;have W:=(agN.1 hK).1
 refine⟨?_,λL u=>?_,λL u=>?_,λL u=>?_,λj L u x J=>?_⟩
 ·unfold xb;split
  ·exact h.nd
  ·rename_i hn;rw[ahx];exact⟨h.nd,σ,λa ha b hb e=>by simp_all⟩
 ·rcases Mh.1 u with u|rfl
  ·exact h.ne L u
  omega
 ·rcases Mh.1 u with u|rfl
  ·exact h.srt L u
  simp[OE]
 ·rcases Mh.1 u with u|rfl
  ·exact h.fit L u
  ·exact OF (h.fit K O) (ahu _)
 ·unfold xb at u
  split at u
  ·exact h.dots j L u x J
  ·by_cases e:j<st.length
   ·rw[ag8 e] at u;exact h.dots j L u x J
   ·have hl:=(agN.1 u).1;rw[agV,ahY] at hl;have V:j=st.length:=ω
    subst V;rw[ahg (agT _),ah2] at u;simp at u;subst u;obtain⟨y,U,_,rfl⟩:=dj.1 J;have:=U.dot (h.dots i K hK) (ahu _)
    grind
theorem Xl{l:List Nat}:ql g K (l++[s]) acc=(xb (ql g K l acc).1 (bx g K s),(ql g K l acc).2++[⟨s,(ql g K l acc).1.idxOf (bx g K s)⟩]):=by simp[ql]
theorem OG{l:List Nat}(h:l[j]? =some s):ql g K (l.take (j+1)) acc=(xb (ql g K (l.take j) acc).1 (bx g K s),(ql g K (l.take j) acc).2++[⟨s,(ql g K (l.take j) acc).1.idxOf (bx g K s)⟩]):=by grind[List.take_add_one,Option.toList_some,Xl]
theorem aaN(h:HK g st)(hK:st[i]? =some K):∀(l:List Nat),(∀s∈l,bx g K (s:Int)≠[])->∀es,HK g (ql g K l (st,es)).1/\(ql g K l (st,es)).1[i]? =some K:=by
 have key:∀(l:List Nat),(∀s∈l,bx g K (s:Int)≠[])->∀st es,HK g st->st[i]? =some K->HK g (ql g K l (st,es)).1/\(ql g K l (st,es)).1[i]? =some K:=by
  intro l
  induction l with
  |nil=>exactλ_ st es h hK=>⟨h,hK⟩
  |cons s l ih=>
   intro hl st es h hK;exact ih (λz u=>hl z (by grind)) _ _ (h.put hK (hl s σ)) (S3 hK)
 simp_all
theorem xc:∀(l:List Nat)(st:List dK)(es:List aH)(j:Nat)(L:dK),st[j]? =some L->(ql g K l (st,es)).1[j]? =some L
 |[],_,_,_,_,h=>h
 |s::l,st,es,j,L,h=>xc l _ _ j L (S3 h)
theorem OH{st st':List dK}(h:∀(j:Nat)(L:dK),st[j]? =some L->st'[j]? =some L):st.length<=st'.length:=by
 refine ahm λhc=>?_;have:=h st'.length _ (agM ω)
 simp_all
theorem yC:∀s∈dg g K,bx g K (s:Int)≠[]:=λs u=>agQ (ahi.1 u).2
theorem ib(h:(fJ g i).1[i]? =some K):fJ g (i+1)=((ql g K (dg g K) ((fJ g i).1,[])).1,(fJ g i).2++[(ql g K (dg g K) ((fJ g i).1,[])).2]):=by simp_all[fJ]
theorem tf(h:(fJ g i).1[i]? =none):fJ g (i+1)=fJ g i:=by simp_all[fJ]
theorem gN(hp:0<g.prods.length):∀i,HK g (fJ g i).1
 |0=>HK.start hp
 |i+1=>by
  cases h:(fJ g i).1[i]? with
  |none=>rw[tf h];exact gN hp i
  |some K=>rw[ib h];exact(aaN (gN hp i) h _ yC _).1
theorem UW(i j:Nat)(L:dK)(h:(fJ g i).1[j]? =some L):(fJ g (i+1)).1[j]? =some L:=by grind[fJ,tf,ib,xc]
theorem Ca{i i':Nat}(hi:i<=i')(j:Nat)(L:dK)(h:(fJ g i).1[j]? =some L):(fJ g i').1[j]? =some L:=by
 induction hi with
 |refl=>omega
 |step _ ih=>simp_all[UW]
theorem Q_:∀i,i<=(fJ g i).1.length->(fJ g i).2.length=i
 |0,_=>rfl
 |i+1,h=>by
  cases hi:(fJ g i).1[i]? with
  |none=>
   grind[tf,List.getElem?_eq_none_iff]
  |some K=>
   have:=Q_ i (by grind)
   simp_all[ib]
def S4(g:ah)(n:Nat):Prop:=(fJ g n).1.length=n/\n<=256/\∀i,i<n->i<(fJ g i).1.length
def adx(g:ah):Prop:=∃i K k,(fJ g i).1[i]? =some K/\(∀j,j<=i->j<(fJ g j).1.length)/\256<(ql g K ((dg g K).take k) ((fJ g i).1,[])).1.length
theorem Xm{n m:Nat}(h:S4 g n)(h':S4 g m):n=m:=by
 rcases Nat.lt_trichotomy n m with e|e|e
 ·have:=h'.2.2 n e;have:=h.1;omega
 ·omega
 ·have:=h.2.2 m e;have:=h'.1;omega
theorem Xn(l:List Nat)(k:Nat)(es:List aH):(ql g K (l.take k) (st,es)).1.length<=(ql g K l (st,es)).1.length:=by
 have e:ql g K l (st,es)=ql g K (l.drop k) (ql g K (l.take k) (st,es)):=by grind[ql,List.take_append_drop]
 rw[e];exact OH λj L h=>xc _ _ _ _ _ h
theorem OI{n:Nat}(h:S4 g n)(h':adx g):False:=by
 obtain⟨i,K,k,O,u,hb⟩:=h'
 have U:i<n:=by
  refine ahm λhc=>?_;have:=u n ω;have:=h.1;omega
 have W:=Xn (g:=g) (K:=K) (st:=(fJ g i).1) (dg g K) k [];have V:(fJ g (i+1)).1.length<=(fJ g n).1.length:=OH λj L J=>Ca ω j L J;rw[ib O] at V;have:=h.1;have:=h.2.1
 grind
end
section
variable{a b c d:aiz}{i j k l m n o p:Nat}{A B C D:Int}{w:aiA}{R:Value->WP}
theorem JP(h:new w (ψ a i j b k l c m n A d o p) λa b=>new b (oC [zS,iI 0,iI 0] 76) λb c=>χ c (aM a) λd=>rEb 81 [d] c λe d=>br (!e) (bA d (aM b) [zS,iI 0,iI 0] λa=>∃c d e f g,rA a (aM b) 3 [vS c d e,iI f,iI g]/\R (vU [vG [vS c d e,iI f,iI g],iI 1]) a) (χ d (aM a) λa=>rEp 93 [a] d λd c=>new c (Obj.map (Array.mk []) 0) λa c=>new c (oC [zS,iI 0,iI 0,Value.map (some a)] 190) λa c=>new c (oC [iI 0,iI 0] 193) λc e=>rEi 94 [vP (some (aM a)),vS (some (aM c)) 1 1] e λf e=>τ [(6,aN)] λc f=>c 0 e/\∀(_:ν) e g,c e g->cLs g (aM a) λh i j=>bQ (e<(i:Int)) (cLs g (aM a) λh i j=>idx h i e 2 λh=>cLs g h λi j k=>rE 95 [vP d,vS i j k] g λd h=>∃i,d=Value.map i/\aY Tryz.prog (Instr.range 195 (Value.map i)) h λd h=>∃j,d=vP j/\τ [(8,kT)] λd k=>d none 0 0 h/\∀(_:ν) h l m n,d h l m n->aY Tryz.prog (Instr.next (vP j) false 0) n λo p=>(o=vU [vB false]/\rE 96 [vS h l m] p λd j=>d=vU []/\τ [(10,kT),(61,aN)] λd k=>d none 0 0 0 j/\∀(_:ν) j m n o p,d j m n o p->bQ (o<(l:Int)) (idx h l o 1 λc=>cLi p c λe=>aY Tryz.prog (Instr.lookup 195 (Value.map i) (iI e) false) p λc f=>∃g h i,c=vS g h i/\rEs 97 [vS g h i] f λg h i f=>rEi 94 [vP (some (aM a)),vS g h i] f λg f=>new f (oC [iI e,iI g] 203) λc e=>rS (fW1 197 [vS j m n,vS (some (aM c)) 1 1]) e λc e=>∃f g h,c=vS f g h/\cLs e (aM a) λc i l=>bQ (256<(i:Int)) (bA e (aM b) [zS,iI 0,iI 0] λa=>∃c d e f g,rA a (aM b) 3 [vS c d e,iI f,iI g]/\R (vU [vG [vS c d e,iI f,iI g],iI 11]) a) (aA (o+1)/\nD1 d k f g h (o+1) e j m n o p)) (dW1 p λb d=>dLs d (aM a) λh i k=>rEs 98 [vS j m n] b λj k l b=>d b/\idx h i e 2 λa=>st1 b (a.add 1) (vS j k l) λa=>aA (e+1)/\nA c f (e+1) a e g))\/∃a b,o=vU [vB true,iI a,b]/\aY Tryz.prog (Instr.entry (vP j)) p λa b=>∃c e,a=vU [iI c,e]/\new b (oC [iI c] 3) λa b=>rS (fW1 24 [vS h l m,vS (some (aM a)) 1 1]) b λa b=>∃c e f,a=vS c e f/\nC1 d k c e f b h l m n) (cLs g (aM a) λc d e=>rEs 99 [vS c d e] g λe f g d=>st1 d (aM a) (vS e f g) λc=>∃d e f g h,rA c (aM a) 3 [vS d e f,iI g,iI h]/\bA c (aM b) [vS d e f,iI g,iI h] λa=>∃c d e f g,rA a (aM b) 3 [vS c d e,iI f,iI g]/\R (vU [vG [vS c d e,iI f,iI g],iI 0]) a))):ρ 41 [φ a i j b k l c m n A d o p] w R:=rv Tryz.func41 h ⟨[(7,[(6,aN)]),(12,[(8,kT)]),(18,[(10,kT),(61,aN)])],[],[],[]⟩
theorem Rb(h:new w (ψ a i j b k l c m n A d o p) λa b=>∃c d e f g h i j k l m n o,rA b (aM a) 5 [vS c d e,vS f g h,vS i j k,iI l,vS m n o]/\new b (Obj.map (Array.mk []) 0) λb p=>new p (oC [vS c d e,vS f g h,vS i j k,iI l,vS m n o,Value.map (some b)] 330) λb c=>cLs c (Addr.add (aM a) 4) λd e f=>τ [(13,aN)] λa f=>a 0 c/\∀(_:ν) c g,a c g->bQ (c<(e:Int)) (idx d e c 3 λd=>∃e h i j k,rA g d 3 [iI e,vS h i j,iI k]/\new g (oC [iI 0,zS,iI 0] 134) λd l=>bA l (aM d) [iI e,vS h i j,iI k] λe=>dW1 e λh e=>∃i,(∀a,e a->cL a (Addr.add (aM b) 5) (Value.map i))/\dLi e (aM d) λj=>∃k,(∀a,e a->cL a (Addr.add (aM b) 5) (Value.map k))/\dLi e (aM d) λb=>(aY Tryz.prog (Instr.lookup 328 (Value.map k) (iI b) false) h λb d=>∃h k l,b=vS h k l/\e d/\new d (oC [iI c] 3) λb d=>e d/\rS (fW1 24 [vS h k l,vS (some (aM b)) 1 1]) d λb d=>∃h k l,b=vS h k l/\e d/\aY Tryz.prog (Instr.mapUpdate 328 (Value.map i) (iI j) (vS h k l)) d λ(_:Unit)(b:aiA)=>aA (c+1)/\nA a f (c+1) b c g)/\new h (oC [iI c] 3) λd h=>e h/\aY Tryz.prog (Instr.lookup 328 (Value.map k) (iI b) false) h λb h=>∃k l m,b=vS k l m/\e h/\rS (fW1 24 [vS k l m,vS (some (aM d)) 1 1]) h λb d=>∃h k l,b=vS h k l/\e d/\aY Tryz.prog (Instr.mapUpdate 328 (Value.map i) (iI j) (vS h k l)) d λ(_:Unit)(b:aiA)=>aA (c+1)/\nA a f (c+1) b c g) (R (vP (some (aM b))) g)):ρ 93 [φ a i j b k l c m n A d o p] w R:=rv Tryz.func93 h ⟨[(3,[(13,aN)])],[],[],[]⟩
theorem xf(h:nn a λc=>cLi w (c.add 1) λd=>aA (d+1)/\nn a λc=>st1 w (c.add 1) (iI (d+1)) λc=>rE 182 [vS b i j] c λc d=>∃e,c=Value.string e/\∃(c:lP []),(dW1 d λf d=>nn a λg=>∃h,(∀a,d a->cL a (g.add 3) (Value.map h))/\aY Tryz.prog (Instr.lookup 188 (Value.map h) (Value.string e) false) f λf g=>∃h,f=iI h/\∃(f:WP),f g/\(∀a,f a->d a)/\bQ (0<h) (nn a λd=>dLs f d λh j k=>nn a λd=>∃k,(∀a,f a->cL a (d.add 3) (Value.map k))/\idx b i 0 2 λb=>∃d i,(∀a,f a->rA a b 2 [iI d,iI i])/\aY Tryz.prog (Instr.lookup 188 (Value.map k) (Value.string e) false) g λb g=>∃k,b=iI k/\∃(b:WP),b g/\(∀a,b a->f a)/\aA (k-1)/\idx h j (k-1) 2 λf=>dLs b f λh j k=>idx h j 0 2 λf=>∃h j,(∀a,b a->rA a f 2 [iI h,iI j])/\∃f,(∀a,b a->Sem.run Tryz.prog (q9 BinOp.eql 193 (Operand.tmp 41) (Operand.tmp 44) (vG [iI h,iI j]) (vG [iI d,iI i])) a=Result.ok f a)/\∃b,f=vB b/\br b (nn a λa=>∃b,cL g (a.add 3) (Value.map b)/\aY Tryz.prog (Instr.lookup 188 (Value.map b) (Value.string e) false) g λa b=>∃c,a=iI c/\aA (c-1)/\R (iI (c-1)) b) (c g)) (c g))/\∀(_:ν) d,c d->nn a λc=>cLi d (c.add 2) λf=>aA (f+1)/\nn a λc=>st1 d (c.add 2) (iI (f+1)) λc=>nn a λd=>cLs c d λf g h=>new c (oC [vS b i j,zS] 199) λb c=>rS (fW1 74 [vS f g h,vS (some (aM b)) 1 1]) c λb c=>∃d f g,b=vS d f g/\nn a λb=>st1 c b (vS d f g) λb=>dW1 b λc b=>nn a λd=>∃f,(∀a,b a->cL a (d.add 3) (Value.map f))/\nn a λd=>dLs b d λg h i=>aY Tryz.prog (Instr.mapUpdate 188 (Value.map f) (Value.string e) (iI (h:Int))) c λ(_:Unit)(b:aiA)=>nn a λa=>∃c,cL b (a.add 3) (Value.map c)/\aY Tryz.prog (Instr.lookup 188 (Value.map c) (Value.string e) false) b λa b=>∃c,a=iI c/\aA (c-1)/\R (iI (c-1)) b):ρ 94 [.pointer a,vS b i j] w R:=rv Tryz.func94 h ⟨[],[(5,[])],[],[]⟩
theorem vI(h:new w (Obj.map (Array.mk []) 0) λc d=>rEs 183 [vP a,vS b i j] d λe f g d=>τ [(14,aN)] λb g=>b 0 d/\∀(_:ν) d h,b d h->bQ (d<(f:Int)) (idx e f d 2 λe=>∃f i,rA h e 2 [iI f,iI i]/\new h (oC [iI 0,iI 0] 193) λe j=>bA j (aM e) [iI f,iI i] λf=>∃i j,rA f (aM e) 2 [iI i,iI j]/\rEi 184 [vP a,vG [iI i,iI j]] f λi f=>bQ (0<=i) (aY Tryz.prog (Instr.lookup 195 (Value.map (some c)) (iI i) false) f λa f=>∃j k l,a=vS j k l/\cLi f (aM e) λa=>cLi f (Addr.add (aM e) 1) λm=>aA (m+1)/\new f (oC [iI a,iI (m+1)] 193) λa e=>rS (fW1 194 [vS j k l,vS (some (aM a)) 1 1]) e λa e=>∃f j k,a=vS f j k/\aY Tryz.prog (Instr.mapUpdate 195 (Value.map (some c)) (iI i) (vS f j k)) e λ(_:Unit)(a:aiA)=>aA (d+1)/\nA b g (d+1) a d h) (aA (d+1)/\nA b g (d+1) f d h)) (R (Value.map (some c)) h)):ρ 95 [.pointer a,vS b i j] w R:=rv Tryz.func95 h ⟨[(3,[(14,aN)])],[],[],[]⟩
theorem Mj(h:rE 187 [vS a i j,vF1 188 []] w λb c=>b=vU []/\rEs 192 [vS a i j] c λc d e b=>rEs 191 [vS c d e] b λc d e b=>R (vS c d e) b):ρ 97 [vS a i j] w R:=rv Tryz.func97 h
theorem jU(h:lU a i j none (some (i:Int)) (some (i:Int)) 2 λ(a:aiz)(b c:Nat)=>R (vS a b c) w):ρ 98 [vS a i j] w R:=rv Tryz.func98 h
theorem iX(h:lU a i j none (some (i:Int)) (some (i:Int)) 2 λ(a:aiz)(b c:Nat)=>R (vS a b c) w):ρ 99 [vS a i j] w R:=rv Tryz.func99 h
theorem OL(h:τ [(3,kT),(8,aN)] λb c=>b none 0 0 0 w/\∀(_:ν) d e f g h,b d e f g h->bQ (g<(i:Int)) (idx a i g 2 λa=>∃i j,rA h a 2 [iI i,iI j]/\new h (oC [iI 0,iI 0] 193) λa k=>bA k (aM a) [iI i,iI j] λi=>cLi i (aM a) λj=>cLi i (Addr.add (aM a) 1) λk=>cLi i (Addr.add (aM a) 1) λl=>ns 8/\new i (oC [Value.int IntKind.u8 (IntKind.wrap IntKind.u8 j),Value.int IntKind.u8 (IntKind.wrap IntKind.u8 k),Value.int IntKind.u8 (IntKind.wrap IntKind.u8 (aZ IntKind.i64 l 8))] 5) λa i=>rS (fW1 426 [vS d e f,vS (some (aM a)) 3 3]) i λa i=>∃j k l,a=vS j k l/\aA (g+1)/\nD1 b c j k l (g+1) i d e f g h) (aY Tryz.prog (convert 426 9 (vS d e f)) h λa b=>∃c,a=Value.string c/\R (Value.string c) b)):ρ 182 [vS a i j] w R:=rv Tryz.func182 h ⟨[(3,[(3,kT),(8,aN)])],[],[],[]⟩
theorem vK(h:rEs 270 [vS b i j] w λd e f c=>new c (Obj.map (Array.mk []) 0) λb c=>τ [(5,kT),(7,aN)] λg h=>g d e f 0 c/\∀(_:ν) c d e f i,g c d e f i->bQ (f<(d:Int)) (idx c d f 2 λj=>∃k l,rA i j 2 [iI k,iI l]/\rEi 184 [vP a,vG [iI k,iI l]] i λl k=>bQ (l<0) (aA (f+1)/\nD1 g h c d e (f+1) k c d e f i) (aY Tryz.prog (Instr.lookup 276 (Value.map (some b)) (iI l) false) k λj k=>∃m,j=iI m/\bQ (0<m) (aA (f+1)/\nD1 g h c d e (f+1) k c d e f i) (aY Tryz.prog (Instr.lookup 276 (Value.map (some b)) (iI l) false) k λj k=>∃m,j=iI m/\aA (m+1)/\aY Tryz.prog (Instr.mapUpdate 276 (Value.map (some b)) (iI l) (iI (m+1))) k λ(_:Unit)(b:aiA)=>nn a λa=>∃j,cL b (a.add 5) (Value.map j)/\aY Tryz.prog (Instr.lookup 328 (Value.map j) (iI l) false) b λa b=>∃j k l,a=vS j k l/\τ [(5,kT),(45,aN)] λa l=>a c d e 0 b/\∀(_:ν) b m n o p,a b m n o p->bQ (o<(k:Int)) (idx j k o 1 λc=>cLi p c λd=>new p (oC [iI d,iI 0] 193) λc d=>rS (fW1 194 [vS b m n,vS (some (aM c)) 1 1]) d λc d=>∃e f g,c=vS e f g/\aA (o+1)/\nD1 a l e f g (o+1) d b m n o p) (aA (f+1)/\nD1 g h b m n (f+1) p c d e f i)))) (rEs 97 [vS c d e] i λc d e b=>R (vS c d e) b)):ρ 183 [.pointer a,vS b i j] w R:=rv Tryz.func183 h ⟨[(4,[(5,kT),(7,aN)]),(10,[(5,kT),(45,aN)])],[],[],[]⟩
theorem xh(h:new w (oC [iI A,iI B] 193) λb c=>dW1 c λd c=>nn a λa=>dLs c (a.add 4) λe f g=>dLi c (aM b) λa=>idx e f a 3 λa=>dLs c (a.add 1) λe f g=>cLi d (Addr.add (aM b) 1) λa=>br (a==(f:Int)) (R (iI (-1)) d) (cLi d (Addr.add (aM b) 1) λa=>idx e f a 1 λa=>cLi d a λb=>R (iI b) d)):ρ 184 [.pointer a,(.agg #[iI A,iI B])] w R:=rv Tryz.func184 h
theorem FR(h:new w (oC [iI A,iI B] 193) λa b=>new b (oC [iI C,iI D] 193) λb c=>dW1 c λd c=>dLi c (aM a) λe=>dLi c (aM b) λf=>dLi c (Addr.add (aM a) 1) λg=>dLi c (Addr.add (aM b) 1) λa=>rEi 190 [iI e,iI f] d λe d=>c d/\rEi 190 [iI g,iI a] d λd b=>c b/\new b (oC [iI e,iI d] 3) λa b=>c b/\rEi 189 [vS (some (aM a)) 2 2] b λd b=>c b/\R (iI d) b):ρ 188 [(.agg #[iI A,iI B]),(.agg #[iI C,iI D])] w R:=rv Tryz.func188 h
theorem FU(h:τ [(8,aN)] λb c=>b 0 w/\∀(_:ν) d e,b d e->bQ (d<(i:Int)) (idx a i d 1 λa=>∃f,World.cell? e a=some (iI f)/\br (f !=0) (R (iI f) e) (aA (d+1)/\nA b c (d+1) e d e)) (R (iI 0) e)):ρ 189 [vS a i j] w R:=rv Tryz.func189 h ⟨[(3,[(8,aN)])],[],[],[]⟩
theorem xj(h:rEb 283 [iI A] w λc b=>rEb 283 [iI B] b λd b=>br c (br d (R (iI 0) b) (R (iI (-1)) b)) (br d (R (iI 1) b) (bQ (A<B) (R (iI (-1)) b) (bQ (B<A) (R (iI 1) b) (R (iI 0) b))))):ρ 190 [iI A,iI B] w R:=rv Tryz.func190 h
theorem jW(h:lU a i j none (some (i:Int)) (some (i:Int)) 2 λ(a:aiz)(b c:Nat)=>R (vS a b c) w):ρ 191 [vS a i j] w R:=rv Tryz.func191 h
theorem iK(h:bQ ((i:Int)<2) (R (vS a i j) w) (τ [(3,aN)] λb c=>b 1 w/\∀(_:ν) d e,b d e->bQ (d<(i:Int)) (dW1 e λf g=>idx a i d 2 λh=>∃k l,(∀a,g a->rowAt a h 0 2=some [iI k,iI l])/\aA (d-1)/\idx a i (d-1) 2 λh=>∃m n,(∀a,g a->rowAt a h 0 2=some [iI m,iI n])/\∃h,(∀a,g a->Sem.run Tryz.prog (q9 BinOp.eql 193 (Operand.tmp 19) (Operand.tmp 24) (vG [iI k,iI l]) (vG [iI m,iI n])) a=Result.ok h a)/\∃g,h=vB g/\br g (lU a i j (some d) none none 2 λ(b:aiz)(c _:Nat)=>τ [(3,aN),(5,aN)] λe g=>e d 1 f/\∀(_:ν) d f h,e d f h->bQ (f<(c:Int)) (dW1 h λj k=>idx b c f 2 λl=>∃m n,(∀a,k a->rowAt a l 0 2=some [iI m,iI n])/\aA (f-1)/\idx b c (f-1) 2 λl=>∃o p,(∀a,k a->rowAt a l 0 2=some [iI o,iI p])/\∃l,(∀a,k a->Sem.run Tryz.prog (q9 BinOp.neq 193 (Operand.tmp 38) (Operand.tmp 43) (vG [iI m,iI n]) (vG [iI o,iI p])) a=Result.ok l a)/\∃k,l=vB k/\br k (idx b c f 2 λb=>∃c k,rowAt j b 0 2=some [iI c,iI k]/\idx a i d 2 λa=>bA j a [iI c,iI k] λa=>aA (d+1)/\aA (f+1)/\nB e g (d+1) (f+1) a d f h) (aA (f+1)/\nB e g d (f+1) j d f h)) (lU a i j (some d) none none 2 λ(b:aiz)(c e:Nat)=>rS (Builtin.clear_ (Array.mk [194]) 0 (Array.mk [vS b c e])) h λ_ b=>lU a i j none (some d) none 2 λ(a:aiz)(c d:Nat)=>R (vS a c d) b)) (aA (d+1)/\nA b c (d+1) f d e)) (R (vS a i j) e))):ρ 192 [vS a i j] w R:=rv Tryz.func192 h ⟨[(4,[(3,aN)]),(9,[(3,aN),(5,aN)])],[],[],[]⟩
theorem jz(h:br (Option.isNone a) (R (zS) w) (new w (oC [] 193) λb c=>rS (fW1 194 [vS (some (aM b)) 0 0,vS a i j]) c λa b=>∃c d e,a=vS c d e/\R (vS c d e) b)):ρ 270 [vS a i j] w R:=rv Tryz.func270 h
end
section
open Go.Proofs Go.Sort
instance:Inhabited au:=⟨⟨0,0⟩⟩
def fh(x:au):List Value:=[iI x.prod,iI x.dot]
def tv(xs:List au):List Value:=xs.flatMap fh
theorem Ml(x:au)(xs:List au):tv (x::xs)=iI x.prod::iI x.dot::tv xs:=rfl
theorem jX:∀xs:List au,(tv xs).length=xs.length*2
 |[]=>rfl
 |x::xs=>by rw[Ml,ahr,ahr,jX xs,ahr];omega
theorem DW(xs ys:List au):tv (xs++ys)=tv xs++tv ys:=ahh
theorem Xp:∀(xs:List au)(t:Nat),(tv xs)[t]? =(xs[t/2]?).bind λx=>(fh x)[t%2]?
 |[],t=>by rfl
 |x::xs,0=>rfl
 |x::xs,1=>rfl
 |x::xs,t+2=>by
  rw[Ml,aic,aic,Xp xs t,show(t+2)/2=t/2+1 by omega,show(t+2)%2=t%2 by omega,aic]
theorem Mm(xs:List au):(flatK fh 2 xs.toArray).toList=tv xs:=by
 apply ahp
 grind[Xp,flatK,fh,get_flatK,Array.getElem?_eq_getElem,List.getElem?_eq_getElem,Array.getElem?_eq_none,List.getElem?_eq_none]
section
variable{w:aiA}{L:List aE}
theorem Xq{a:aiz}{l c:Nat}{xs:List au}(h:St w (own 2 a l c (tv xs)::L))(hl:0<l):
  ∃b off,a=some ⟨b,off,none⟩/\l=xs.length/\HoldsK fh 2 w b off xs.toArray/\b<w.heap.size/\
   (∀(m:Nat)(os:Array Obj)(d':Array au),d'.size=xs.length->St (sortWorldK fh 2 w b off m d' os) (own 2 a l c (tv d'.toList)::L)):=by
 rcases dE h with⟨_,h2,_⟩|⟨b,u,cs,J,rfl,hc,h1,h2,X⟩
 ·omega
 ·have O:l=xs.length:=by grind[jX]
  refine⟨b,u.length,rfl,O,?_,?_,?_⟩
  ·intro j W;have U:j<(tv xs).length:=by simp_all
   refine⟨?_,hc.frozen _ _⟩;rw[hc.cell,ahg ω,ahC,ag8 U,<-Mm,aia,Array.getElem?_eq_getElem W,getElem!_pos _ j W];rfl
  ·obtain⟨e,h⟩:=jM.1 hc;exact(ah5.1 h.get).1
  ·intro m os d' Y;have V:=hc.sort (enc:=id) u.length m (flatK fh 2 d') os;have e1:tv xs=(flatK fh 2 xs.toArray).toList.map id:=by simp[Mm]
   have Z:(flatK fh 2 d').toList.map id=tv d'.toList:=by
    have:=Mm d'.toList
    simp_all
   rw[e1,B9 u (cs++J) (flatK fh 2 xs.toArray) (flatK fh 2 d') (by simp[Y]),Z] at V
   refine fp V ?_ ?_ X
   ·simp_all[jX]
   simp_all[jX]
end
def vL(a b:Int):Int:=if a<b then-1 else if b<a then 1 else 0
def Rf(x y:au):Int:=if vL x.prod y.prod=0 then vL x.dot y.dot else vL x.prod y.prod
theorem yD(x y:au):ltOf Rf x y=decide (x.lt y):=by
 have h:Rf x y<0↔x.lt y:=by grind[Rf,vL,au.lt]
 simp_all[ltOf]
theorem agt:SWO (ltOf Rf):=⟨λx=>by simp[yD,ahf,au.lt_irrefl],λx y z=>by rw[yD,yD,yD];simp only[ahc];exact au.lt_trans,λx y z=>by grind[yD,decide_eq_false_iff_not,au.lt]⟩
end
section
open Go.V Go.Sort Go.Shelf
variable{w:aiA}{L:List aE}
theorem Xr(a b:Int):rE y6 [iI a,iI b] w λv w'=>v=iI (vL a b)/\w'=w:=by
 have u:∀a:Int,∀w,rE BZ [iI a] w λv w'=>v=vB false/\w'=w:=λa w=>py ⟨σ,rfl⟩;refine xj ((u a w).mono ?_);rintro _ _⟨rfl,rfl⟩;refine⟨_,rfl,(u b _).mono ?_⟩;rintro _ _⟨rfl,rfl⟩
 refine⟨_,rfl,ae (λh=>by cases h) λ_=>ae (λh=>by grind) λ_=>ae (λh=>?_) λh=>ae (λJ=>?_) λJ=>?_⟩
 ·have h:=agQ h;unfold vL;simp_all
 ·have h:=agO h;have J:=agQ J;unfold vL;simp_all
 ·have h:=agO h;have J:=agO J;unfold vL;grind
theorem agu{a:aiz}{x y:Int}(hx:aX (hp w) [x,y] a 2):rE Hz [vS a 2 2] w λv w'=>v=iI (if x=0 then y else x)/\w'=w:=by
 refine FU ⟨λz w'=>∃i:Nat,z=i/\i<=2/\(0<i->x=0)/\(1<i->y=0)/\w'=w,λz _=>2-z.toNat,⟨0,rfl,ω,ω,ω,rfl⟩,?_⟩;rintro _ z Z⟨i,rfl,hi,h0,X,V⟩;rw[V]
 refine ae (λJ=>?_) λJ=>?_
 ·have J:i<2:=by grind
  obtain⟨u,W,Y,ha,U⟩:=hx.dQ J
  refine ax ha J ⟨u,U _ sZZ,ae (λO=>?_) λO=>?_⟩
  ·grind
  ·have O:u=0:=by simp_all
   subst O
   refine⟨ξ,⟨i+1,rfl,J,λ_=>?_,λ_=>?_,rfl⟩,bR J⟩
   ·grind
   grind
 grind
theorem ady(x y:au)(w:aiA):ρ fu [.agg (fh x).toArray,.agg (fh y).toArray] w λv w'=>v=iI (Rf x y)/\∃q os',w'=grow (w.drewN q) os':=by
 refine FR ?_;intro O Y b1 e1;have h1:St Y (az O (fh x)::all w):=(ag (St.all w) λb w' h=>h:new w (oC [iI x.prod,iI x.dot] cH) λb w'=>St w' (az b (fh x)::all w)) O Y b1 e1;intro k2 w2 b2 e2;have h2:St w2 (az k2 (fh y)::az O (fh x)::all w):=(ag h1 λb w' h=>h:new Y (oC [iI y.prod,iI y.dot] cH) λb w'=>St w' (az b (fh y)::az O (fh x)::all w)) k2 w2 b2 e2;intro Z X;have h3:=h2.eq (m_ X);have r1:aq (hp Z) (aM O) (fh x):=af 1 h3.l;have r2:aq (hp Z) (aM k2) (fh y):=af 0 h3.l;refine⟨λu=>Gr Z u,Gr.refl _,x.prod,λu s=>r1.cell0 s,y.prod,λu s=>r2.cell0 s,x.dot,λu s=>r1.cell s (j:=1) rfl,y.dot,λu s=>r2.cell s (j:=1) rfl,(Xr _ _).mono ?_⟩;rintro _ _⟨rfl,rfl⟩;refine⟨_,rfl,Gr.refl _,(Xr _ _).mono ?_⟩;rintro _ _⟨rfl,rfl⟩;refine⟨_,rfl,Gr.refl _,?_⟩;intro k3 W b3 J;have U:St W (az k3 [iI (vL x.prod y.prod),iI (vL x.dot y.dot)]::all _):=(ag (St.all _) λb w' h=>h:new _ (oC [iI (vL x.prod y.prod),iI (vL x.dot y.dot)] dX) λb w'=>St w' (az b [iI (vL x.prod y.prod),iI (vL x.dot y.dot)]::all _)) k3 W b3 J;have V:=U.aP;refine⟨V,(agu (x:=vL x.prod y.prod) (y:=vL x.dot y.dot) (bt rfl (.inr ⟨_,rfl,af 0 U.l⟩))).mono ?_⟩;rintro _ _⟨rfl,rfl⟩;refine⟨_,rfl,V,rfl,1,#[oC [iI x.prod,iI x.dot] cH,oC [iI y.prod,iI y.dot] cH,oC [iI (vL x.prod y.prod),iI (vL x.dot y.dot)] dX],?_⟩;unfold drawn at X;rw[J,X,e2,e1];rfl
theorem aaO{blk off:Nat}{n:Nat}:CmpLays Tryz.prog fu #[] fh 2 Rf blk off n w:=λm os J u x y=>by
 refine Calls.mono (ady x y _) ?_
 simp_all
theorem Ev.afA(w:aiA)(blk off m:Nat)(dk:Array au)(os:Array Obj):Ev w (sortWorldK fh 2 w blk off m dk os):=Ev.sort (enc:=id) (blk:=blk) w off m (flatK fh 2 dk) os
theorem aaP{a:aiz}{l c:Nat}{xs:List au}(h:St w (own 2 a l c (tv xs)::L))(hb:l<4611686018427387904):
  rE iE [vS a l c,.func (.func fu) (Array.mk []) (Array.mk [])] w λv w'=>v=.tuple (Array.mk [])/\∃ys:List au,ys.Perm xs/\ys.Pairwise (λx y=>¬y.lt x)/\St w' (own 2 a l c (tv ys)::L):=by
 have V:=fk h;rw[jX] at V
 by_cases hl:0<l
 ·obtain⟨b,O,rfl,J,hH,U,Z⟩:=Xq h hl;subst J;have eg:∀u w,(callFunc fu u).run Tryz.prog w=.ok (.enter fu u) w:=enters_of FP (by rfl) rfl;refine Calls.mono (AnyQ.slices_SortFunc acM 2 L7 L8 fh (λ_=>rfl) (λx v Y=>by simp[fh] at Y;rcases Y with rfl|rfl<;>rfl) Rf agt fu #[] b O c xs.toArray w eg aaO hH U ω) ?_;rintro e w'⟨rfl,X,n,os,hP,hS,rfl⟩;have J:X.size=xs.length:=by simpa using hP.1
  refine⟨_,rfl,Ev.afA w b O n _ os,rfl,X.toList,?_,?_,Z n os X J⟩
  ·have:=hP.2.2
   grind[Array.extract_size]
  ·rw[ahP];intro i j hi hj W;rw[aiy] at hi hj;have:=hS i j (agP _) W (by simp_all)
   simp_all[yD,getElem!_pos]
 ·have e:l=0:=ω
  subst e;have ex:xs=[]:=ag2 ω;subst ex;refine Calls.mono (AnyF.slices_SortFunc_none acM a c _ w) ?_;rintro e w'⟨rfl,rfl⟩;exact⟨_,rfl,Ev.refl _,rfl,[],.refl _,.nil,h⟩
theorem S5{a:aiz}{l c:Nat}{zs:List Int}(h:St w (own 1 a l c (iv zs)::L))(hb:l<4611686018427387904):
  rE s_ [vS a l c] w λv w'=>v=.tuple (Array.mk [])/\St w' (own 1 a l c (iv (zs.mergeSort λx y=>decide (x<=y)))::L):=by
 rcases ain l with rfl|hl
 ·have V:zs=[]:=ag2 (by have:=fk h;simp_all[iv]);subst V;refine Calls.mono (Any.slices_Sort_int_none acN a c w) ?_;rintro e w'⟨rfl,rfl⟩;exact⟨_,rfl,Ev.refl _,rfl,by simp_all⟩
 obtain⟨b,J,rfl,u,U,O,W⟩:=aaK (d:=zs.toArray) (enc:=Value.int .i64) (by simpa[iv] using h) hl;simp only[List.size_toArray] at u;subst u;refine Calls.mono (Any.slices_Sort_int acN b J c zs w U O hb) ?_;rintro e w'⟨rfl,n,os,rfl⟩;refine⟨_,rfl,Ev.sort (enc:=Value.int .i64) w J n _ os,rfl,?_⟩;have:=W n os (zs.mergeSort λx y=>decide (x<=y)).toArray σ;have e:(zs.mergeSort λx y=>decide (x<=y)).toArray.toList.map (Value.int .i64)=iv (zs.mergeSort λx y=>decide (x<=y)):=by rfl
 rw[e] at this;exact this
end
section
variable{P:Program}{Ty:TypeId->Option dD}{w:aiA}{L:List aE}
theorem KS(hT:ec P Ty){t e ty:TypeId}{i:dD}{z:Value}(hk:ai Ty t=.slice e)(hi:Ty e=some i)(hz:i.zero=some z)(hzs:(cellsOf z).length=i.size)(h1:∀v∈cellsOf z,aK v=true)(h0:0<i.size)
  {a:aiz} {l c kk c2:Nat} {us:List Value} (h:St w (own i.size a l c us::L)) (hkl:kk<=l):
  aY P (Builtin.clear_ (Array.mk [t]) ty (Array.mk [vS (fK a kk c i.size) (l-kk) c2])) w λv w'=>∃us':List Value,us'.take (kk*i.size)=us.take (kk*i.size)/\St w' (own i.size a l c us'::L):=by
 obtain⟨d,Y,X⟩:=dJ hT hk σ;rw[fm X] at Y;obtain⟨a4,d2,ha⟩:=sE hT hi;have Z:(zeroValue e).run P w=.ok z w:=mR ha.inf (by rw[<-ha.zero,hz]);have U:=fk h
 by_cases a7:kk<l
 ·have V:0<us.length:=by rw[U];exact Nat.mul_pos ω h0
  obtain⟨J,rfl⟩:=eQ h V;have a8:=bD h
  have W:fK (some J) kk c i.size=some (J.add (kk*i.size)):=by
   unfold fK;rw[agW ω,bh];rfl
  obtain⟨m,hm⟩:∃m,l-kk=m+1:=⟨l-kk-1,ω⟩;have a9:z.cells=⟨cellsOf z⟩:=by rw[dU]
  have O:(Builtin.zeroCells z.cells (m+1)).toList=(List.replicate (m+1) (cellsOf z)).flatten:=by grind[Builtin.zeroCells,Ha,cellsOf,List.size_toArray]
  have a6:∀n,(List.replicate n (cellsOf z)).flatten.length=n*i.size:=λn=>by simp_all
  have a0:(m+1)*i.size=l*i.size-kk*i.size:=by grind[Nat.sub_mul]
  have a5:kk*i.size<=l*i.size:=ahO _ hkl
  have u:=Gy (i:=kk*i.size) (vs:=(List.replicate (m+1) (cellsOf z)).flatten) (k:=λw'=>St w' (own i.size (some J) l c (us.take (kk*i.size)++(List.replicate (m+1) (cellsOf z)).flatten++us.drop (kk*i.size+(List.replicate (m+1) (cellsOf z)).flatten.length))::L)) h rfl
   (by simp_all) (λv hv=>by simp_all) (by grind) λw' h=>h
  refine⟨.tuple #[],_,?_,Ev.dI w _ _ _ _ (Ev.refl _),_,?_,u.2 _ rfl⟩
  ·unfold Builtin.clear_;rw[W,hm];simp only;simp[Sem.run_bind,bn Y,Z,O,kR _ _ _ _ u.1]
  simp_all
 ·have e:l-kk=0:=ω
  rw[e];refine⟨.tuple #[],w,?_,Ev.refl _,us,rfl,h⟩;unfold Builtin.clear_;cases hs:fK a kk c i.size<;>simp[bn Y]
end
section
variable{w:aiA}{L:List aE}{xs:List au}{a:aiz}{l c:Nat}
theorem Xs{h:Hp}{ad:Addr}(r:aq h ad (tv xs)){i:Nat}{x:au}(hx:xs[i]? =some x):aq h (ad.add (ff i 2)) (fh x):=λj v u=>by
 have J:j<2:=(agN.1 u).1
 rw[bh,add_add]
 refine r (i*2+j) v ?_
 grind[Xp]
theorem Mn{h:Hp}(hl:xs.length=l)(r:eE a (tv xs) h):aX h xs a l:=by
 refine⟨hl,λi x u=>?_⟩
 rcases r with e|⟨J,rfl,hc⟩
 ·have O:=congrArg List.length e
  grind[jX,List.length_nil,List.getElem?_eq_some_iff]
 ·exact⟨J,_,rfl,Xs hc u,rfl⟩
theorem Cb(h:St w (own 2 a l c (tv xs)::L)):aX (hp w) xs a l:=by
 have hl:=fk h;rw[jX] at hl;obtain⟨u,s,ha⟩:=h.first;exact(Mn ω (bH ha)).mono s
theorem lu{h:Hp}(r:aX h xs a l){i:Nat}(hi:i<l):∃x ad,xs[i]? =some x/\a=some ad/\∀u:aiA,sub h (hp u)->rowAt u (ad.add (ff i 2)) 0 2=some [iI x.prod,iI x.dot]:=by
 obtain⟨x,ad,vs,J,ha,O,rfl⟩:=r.get hi;exact⟨x,ad,J,ha,λu s=>O.at s rfl⟩
theorem adz{i:Nat}{x:au}(hi:i<xs.length):(tv xs).take (i*2)++[iI x.prod,iI x.dot]++(tv xs).drop (i*2+2)=tv (xs.set i x):=by
 rw[aij,ag0 hi];have O:tv xs=tv (xs.take i)++tv (xs.drop i):=by rw[<-DW,aha]
 have J:tv xs=tv (xs.take (i+1))++tv (xs.drop (i+1)):=by rw[<-DW,aha]
 have u:(tv (xs.take i)).length=i*2:=by grind[jX,List.length_take]
 have l2:(tv (xs.take (i+1))).length=i*2+2:=by grind[jX,List.length_take]
 grind[tv,List.take_left',List.drop_left',DW,Ml]
theorem aaQ(xs:List au)(k:Nat):(tv xs).take (k*2)=tv (xs.take k):=by
 by_cases h:k<=xs.length
 ·grind[tv,DW,List.take_append_drop,List.take_left',jX,List.length_take]
 grind[List.take_of_length_le,jX]
theorem cq{sz:Nat}{vs:List Value}(h:St w (own sz a l c vs::L)):St w (own sz (fK a 0 l sz) l l vs::L):=by
 rcases dE h with⟨rfl,rfl,rfl,rfl⟩|⟨b,u,cs,post,rfl,hc,J,U,O⟩
 ·simp_all[fK]
 ·have e:fK (some (⟨b,u.length,none⟩:Addr)) 0 l sz=some ⟨b,u.length,none⟩:=by simp[fK,bh,add_lit]
  rw[e];exact fp (cs:=[]) (post:=cs++post) (by simp_all) J (by simp_all) (agT _)
theorem bS{a:aiz}{l c sz:Nat}{k:aiz->Nat->Nat->Prop}(h1:l<=c)(hk:k (fK a 0 l sz) l l):lU a l c none (some (l:Int)) (some (l:Int)) sz k:=
 ⟨.inr ⟨σ,σ,by simp_all⟩,.inr ⟨σ,σ⟩,⟨σ,σ⟩,by simpa using hk⟩
end
abbrev NdI(l:List au):Prop:=l.Pairwise λx y=>¬y.lt x
theorem NdI.at{xs:List au}(h:NdI xs){i j:Nat}{x y:au}(hij:i<j)(hi:xs[i]? =some x)(hj:xs[j]? =some y):¬y.lt x:=by
 obtain⟨u,rfl⟩:=agN.1 hi;obtain⟨J,rfl⟩:=agN.1 hj
 simp_all[ahP]
theorem S6{xs:List au}{n:Nat}{x:au}(h1:xs[n]? =some x)(h2:xs[n+1]? =some x):lay (xs.take (n+2))=lay (xs.take (n+1)):=
 Q7 (oE _) λy=>by
  rw[mM,agR (i:=n+1),h2,ahS,agX,ag_]
  refine⟨.inl,λh=>h.elim id ?_⟩
  rintro rfl
  exact agL (i:=n) (by simp_all)
theorem S7{xs:List au}(hs:NdI xs){n:Nat}{x z:au}(h1:xs[n]? =some z)(h2:xs[n+1]? =some x)(hne:x≠z):lay (xs.take (n+2))=lay (xs.take (n+1))++[x]:=by
 refine Q7 ?_ λy=>by grind[mM,List.take_add_one,Option.toList_some]
 rw[oD,List.pairwise_append];refine⟨oE _,σ,λy O u U=>?_⟩;rw[ag_] at U;subst U;rw[mM] at O;obtain⟨i,hi⟩:=ahb O;have J:i<n+1:=by grind
 rw[ahJ,ag0 J] at hi;have W:z.lt u:=(au.Xj hne).resolve_left (hs.at (Nat.lt_succ_self n) h1 h2)
 by_cases e:i=n
 ·simp_all
 ·have V:=hs.at (show i<n by omega) hi h1
  grind[au.lt_trans,au.Xj]
theorem Xt{xs:List au}(hs:NdI xs){n:Nat}{x z:au}(h:oD (xs.take (n+1)))(h1:xs[n]? =some z)(h2:xs[n+1]? =some x)(hne:x≠z):oD (xs.take (n+2)):=by grind[S7,wZ,List.take_add_one,oE]
section
variable{w:aiA}{L:List aE}
theorem KT(w:aiA)(x y:au):(Op.equalIn (9998+1+1) cH (.agg ⟨fh x⟩) (.agg ⟨fh y⟩)).run Tryz.prog w=.ok (decide (x=y)) w:=by
 have ht:Tryz.prog.underlying cH=some (.struct (Tryz.prog.fieldsOf cH)):=by rfl
 have hi:Tryz.prog.underlying dX=some (.int .i64):=bL;have hf:(Tryz.prog.fieldsOf cH).toList=[{ name:="Prod",type:=dX,offset:=0,embedded:=false,tag:="",pkgPath:="",byteOffset:=0 },{ name:="Dot",type:=dX,offset:=1,embedded:=false,tag:="",pkgPath:="",byteOffset:=8 }]:=by rfl
 have V:∀(v u:Value)(w:aiA),(part dX #[v,u] 0).run Tryz.prog w=.ok v w:=λv u w=>by rfl
 have O:∀(v u:Value)(w:aiA),(part dX #[v,u] 1).run Tryz.prog w=.ok u w:=λv u w=>by rfl
 have J:∀n m d w,(Op.equalIn (d+1) dX (iI n) (iI m)).run Tryz.prog w=.ok (n==m) w:=λn m d w=>run_equalIn_int w d _ _ _ _ _ hi
 have e:decide (x=y)=(x.prod==y.prod&&x.dot==y.dot):=by
  rw[ahN];simp only[ahc,ag1,beq_iff_eq];exact⟨λh=>by simp_all,λ⟨U,W⟩=>au.ext' U W⟩
 unfold fh;rw[run_equalIn_agg w (9998+1) cH _ _ ht L6,hf,e];unfold Op.eqFields;simp only[ne_eq,String.reduceEq,not_false_eq_true,if_true,Sem.run_bind,V,Result.andThen_ok,J]
 cases hq:(x.prod==y.prod)
 ·simp
 ·unfold Op.eqFields;simp only[ne_eq,String.reduceEq,not_false_eq_true,if_true,Sem.run_bind,O,Result.andThen_ok,J,Bool.not_true,Bool.false_eq_true,if_false]
  cases hn:(x.dot==y.dot)
  ·simp
  rfl
theorem Rg(w:aiA)(xo yo:Operand)(x y:au):Sem.run Tryz.prog (q9 .eql cH xo yo (.agg ⟨fh x⟩) (.agg ⟨fh y⟩)) w=.ok (vB (decide (x=y))) w:=by
 unfold q9;rw[Sem.run_bind,run_eqGuard_agg w _ _ _ _ _ _ BY];simp only[Result.andThen_ok];rw[run_eql_struct]
 show((Op.equalIn (9998+1+1) cH (.agg ⟨fh x⟩) (.agg ⟨fh y⟩)).run Tryz.prog w).andThen _=_
 simp[KT]
theorem adB(w:aiA)(xo yo:Operand)(x y:au):Sem.run Tryz.prog (q9 .neq cH xo yo (.agg ⟨fh x⟩) (.agg ⟨fh y⟩)) w=.ok (vB (!decide (x=y))) w:=by
 unfold q9;rw[Sem.run_bind,run_eqGuard_agg w _ _ _ _ _ _ BY];simp only[Result.andThen_ok];rw[run_neq_struct]
 show((Op.equalIn (9998+1+1) cH (.agg ⟨fh x⟩) (.agg ⟨fh y⟩)).run Tryz.prog w).andThen _=_
 simp[KT]
end
theorem S8{xs:List au}{n:Nat}(h:n<=1):oD (xs.take n):=by
 match n,h with
 |0,_=>simp
 |1,_=>cases xs<;>simp
theorem Xu{xs ys:List au}(h:ys.Perm xs):lay ys=lay xs:=Q7 (oE _) λy=>by grind[mM]
section
variable{w:aiA}{L:List aE}{a:aiz}{l c:Nat}{xs:List au}
theorem UY(h:St w (own 2 a l c (tv xs)::L))(hs:NdI xs)(hb:l<4611686018427387904):
  ρ 192 [vS a l c] w λv w'=>∃a' c',v=.slice a' (lay xs).length c'/\St w' (own 2 a' (lay xs).length c' (tv (lay xs))::L):=by
 have a5:=fk h;rw[jX] at a5;have W:=bD h;have hl:xs.length=l:=ω
 refine iK (ae (λh1=>?_) λh1=>?_)
 ·have h1:l<2:=by grind
  have e:lay xs=xs:=wZ (by have:=S8 (xs:=xs) (n:=l) ω;grind)
  grind
 have h1:2<=l:=by grind
 refine⟨λz w'=>∃n:Nat,z=((n+1:Nat):Int)/\n+1<=l/\oD (xs.take (n+1))/\St w' (own 2 a l c (tv xs)::L),λz _=>l-z.toNat,⟨0,rfl,ω,S8 (agT _),h⟩,?_⟩;clear h;rintro _ z w1⟨n,rfl,hn,hS,h⟩;refine ae (λU=>?_) λU=>?_
 rotate_left
 ·have U:l=n+1:=by grind
  have e:lay xs=xs:=wZ (by grind)
  grind
 have U:n+1<l:=by grind
 intro w2 hd;have h:=h.eq (aQ hd);have X:=Cb h;obtain⟨x,ad,hx,rfl,cx⟩:=lu X U;obtain⟨z,b3,hz,e2,cz⟩:=lu X (by omega:n<l);cases e2;have e1:((n+1:Nat):Int)-1=(n:Int):=ω
 rw[e1];refine⟨λu=>Gr w2 u,Gr.refl _,aO rfl U ⟨_,_,cx,ξ,aO rfl ω ⟨_,_,cz,_,λu _=>Rg u _ _ x z,_,rfl,ae (λJ=>?_) λJ=>?_⟩⟩⟩
 rotate_left
 ·have J:x≠z:=agO J;exact⟨ξ,⟨n+1,σ,U,Xt hs hS hz hx J,h⟩,bR U⟩
 have J:x=z:=agQ J;subst J;refine dy ω W ?_
 refine⟨λz y w'=>∃(k t:Nat)(us:List au),z=(k:Int)/\y=((t+1:Nat):Int)/\n+1<=k/\k<=n+1+t/\n+1+t+1<=l/\us.length=l/\us.drop k=xs.drop k/\us.take k=lay (xs.take (n+1+t+1))/\St w' (own 2 (some ad) l c (tv us)::L),λ_ y _=>l-y.toNat,
  ⟨n+1,0,xs,rfl,rfl,agT _,agT _,ω,hl,rfl,?_,h⟩,?_⟩
 ·simp_all[S6,wZ]
 clear h X cx cz;rintro _ _ _ w3⟨k,t,us,rfl,rfl,a7,av,ht,a6,O,a0,h⟩;have am:(tv us).length=l*2:=by grind[jX]
 refine ae (λJ=>?_) λJ=>?_
 rotate_left
 ·have J:l=n+1+t+1:=by grind
  rw[<-J,ag4 (show xs.length<=l by omega)] at a0;have b2:(lay xs).length=k:=by grind
  have hc:=KS (ty:=0) (c2:=c-k) aT (rfl:ai Ty JL=.slice _) (rfl:Ty cH=some _) rfl rfl (λv Y=>by rcases ag6.1 Y with rfl|Y;rfl;rw[ag_] at Y;subst Y;rfl) σ h (show k<=l by omega);refine dy ω W (hc.mono ?_);rintro _ w4⟨vs,Y,h⟩;refine iH ω ?_;have h:=qS h (k:=k) ω;have e:vs.take (k*2)=tv (lay xs):=Y.trans (by simp_all[aaQ])
  grind
 have J:t+1<l-(n+1):=by grind
 intro w4 hd;have h:=h.eq (aQ hd);have X:=(Cb h).drop (k:=n+1) (m:=c) ω W
 have same:∀j,k<=j->us[j]? =xs[j]?:=λj hj=>by
  have:=congrArg (λl=>l[j-k]?) O;simp only[ahy] at this
  simp_all
 obtain⟨V,b1,a4,e3,cx⟩:=lu X J;obtain⟨z2,b4,a8,e4,cz⟩:=lu X (by omega:t<l-(n+1));rw[e3] at e4;cases e4;rw[ahy,same _ ω] at a4 a8;have e1:((t+1:Nat):Int)-1=(t:Int):=ω
 have al:xs[n+1+t+1]? =some V:=ω
 have aa:xs[n+1+t]? =some z2:=ω
 rw[e1];refine⟨λu=>Gr w4 u,Gr.refl _,aO e3 J ⟨_,_,cx,ξ,aO e3 ω ⟨_,_,cz,_,λu _=>adB u _ _ V z2,_,rfl,ae (λZ=>?_) λZ=>?_⟩⟩⟩
 rotate_left
 ·have Z:V=z2:=by simp_all
  subst Z;refine⟨ξ,⟨k,t+1,us,rfl,σ,a7,ω,ω,a6,O,?_,h⟩,bR ω⟩
  grind[S6]
 have Z:V≠z2:=by simp_all
 refine aO e3 J ⟨_,_,cx _ (Gr.refl _),aO rfl ω ?_⟩;rw[bh];refine Gy (i:=k*2) h rfl (by grind) (by simp[aK]) σ λw5 h=>?_;rw[show(k*2+[iI V.prod,iI V.dot].length)=k*2+2 from rfl,adz ω] at h
 refine⟨ξ,ξ,⟨k+1,t+1,us.set k V,σ,σ,ω,ω,ω,by simp_all,?_,?_,h⟩,bR ω⟩
 ·rw[List.drop_set_of_lt ω,<-List.drop_drop (i:=1),O,List.drop_drop]
 ·have a9:k<us.length:=ω
  rw[show n+1+(t+1)+1=n+1+t+2 by omega,S7 hs aa al Z,<-a0,agR,aik a9,List.take_set_of_le (agT _)];rfl
theorem Xv(h:St w (own 2 a l c (tv xs)::L))(hb:l<4611686018427387904):
  ρ 97 [vS a l c] w λv w'=>∃a',v=.slice a' (lay xs).length (lay xs).length/\St w' (own 2 a' (lay xs).length (lay xs).length (tv (lay xs))::L):=by
 refine Mj ((aaP h hb).mono ?_);rintro _ J⟨rfl,ys,hp,hn,h⟩;refine⟨rfl,(UY h hn hb).mono ?_⟩;rintro _ O⟨a2,c2,rfl,h⟩;have u:=bD h;refine⟨_,_,_,rfl,jW (bS u ?_)⟩;have h:=cq h;rw[Xu hp] at h ⊢
 grind
end
namespace cX
inductive Rc (E:Nat->List Nat):Nat->Nat->Prop
 |refl (a:Nat):Rc E a a
 |step {a b c:Nat}:b∈E a->Rc E b c->Rc E a c
theorem Rc.trans{E:Nat->List Nat}{a b c:Nat}(h:Rc E a b):Rc E b c->Rc E a c:=by
 induction h with
 |refl=>simp
 |step h _ ih=>exactλk=>.step h (ih k)
theorem Rc.one{E:Nat->List Nat}{a b:Nat}(h:b∈E a):Rc E a b:=.step h (.refl b)
def Good(E:Nat->List Nat)(gs:List (List Nat)):Prop:=
 gs.flatten.Nodup/\∀g1 g g2,gs=g1++g::g2->g≠[]/\(∀a∈g,∀b∈g,Rc E a b)/\∀a∈g,∀b∈E a,b∈g\/b∈g1.flatten
theorem Good.nil(E:Nat->List Nat):Good E []:=⟨σ,λg1 g g2 h=>by simp at h⟩
theorem Good.snoc{E:Nat->List Nat}{gs:List (List Nat)}{g:List Nat}(h:Good E gs)(hn:g≠[])(hd:g.Nodup)(hx:∀a∈g,a∉gs.flatten)
  (hr:∀a∈g,∀b∈g,Rc E a b) (he:∀a∈g,∀b∈E a,b∈g\/b∈gs.flatten):Good E (gs++[g]):=by
 refine⟨?_,?_⟩
 ·rw[List.flatten_append,ahx];refine⟨h.1,by simp_all,?_⟩
  grind
 ·intro g1 u g2 e
  rcases List.eq_nil_or_concat g2 with rfl|⟨g3,x,rfl⟩
  ·obtain⟨rfl,J⟩:=List.append_inj' e rfl
   grind
  ·rw[List.concat_eq_append,<-List.cons_append,<-ag3] at e;obtain⟨O,J⟩:=List.append_inj' e rfl;exact h.2 g1 u g3 O
theorem OM{gs:List (List Nat)}(h:gs.flatten.Nodup){g1 g2:List (List Nat)}{g:List Nat}(e:gs=g1++g::g2){a:Nat}(ha:a∈g):a∉g1.flatten/\a∉g2.flatten:=by grind
abbrev Sc:=Nat×Nat×List Nat
def aU:List Sc->List Nat
 |[]=>[]
 |(n,_,r)::t=>aU t++n::r
structure Sec(E:Nat->List Nat)(low:Nat->Nat)(op:List Nat)(D:Nat->Prop)(b n k:Nat)(r:List Nat):Prop where
 le:k<=(E n).length
 top:low n<=b+1
 lo:∀v∈r,low n<=low v
 pos:∀v∈n::r,0<low v
 at_:∀v∈r,∀i,op[i]? =some v->low v<=i
 rc:∀v∈r,Rc E n v
 to:∀v∈n::r,∃u,op[low v-1]? =some u/\Rc E v u
 ed:∀v∈r,∀m∈E v,D m\/∃i,op[i]? =some m/\low n<=i+1
 en:∀j m,j<k->(E n)[j]? =some m->D m\/∃i,op[i]? =some m/\low n<=i+1
def OK(E:Nat->List Nat)(low:Nat->Nat)(op:List Nat)(D:Nat->Prop):List Sc->Prop
 |[]=>True
 |(n,k,r)::t=>Sec E low op D (aU t).length n k r/\(∀u k' r' t',t=(u,k',r')::t'->Rc E u n)/\OK E low op D t
theorem da{t:List Sc}{n k:Nat}{r:List Nat}:(aU ((n,k,r)::t)).length=(aU t).length+1+r.length:=by grind[aU]
theorem OK.mono{E:Nat->List Nat}{low low':Nat->Nat}{op op':List Nat}{D D':Nat->Prop}:∀(t:List Sc),OK E low op D t->
  (∀v∈aU t,low' v=low v)->(∀i v:Nat,op[i]? =some v->op'[i]? =some v\/D' v)->(∀i v:Nat,op'[i]? =some v->v∈aU t->op[i]? =some v)->(∀i:Nat,i<(aU t).length->op'[i]? =op[i]?)->op.Nodup->(∀v:Nat,D v->D' v)->
  (∀i:Nat,i<(aU t).length->op[i]? =(aU t)[i]?)->OK E low' op' D' t
 |[],_,_,_,_,_,_,_,_=>trivial
 |(n,k,r)::t,⟨s,hu,ht⟩,hl,ho,hb,hi,nd,hD,hp=>by
  have hn:low' n=low n:=hl n (by simp[aU])
  have hr:∀v∈r,low' v=low v:=λv hv=>hl v (by grind[aU])
  have hnr:∀v∈n::r,low' v=low v:=λv hv=>hl v (by simp_all[aU])
  refine⟨⟨s.le,by rw[hn];exact s.top,λv hv=>by rw[hn,hr v hv];exact s.lo v hv,λv hv=>by rw[hnr v hv];exact s.pos v hv,?_,s.rc,?_,?_,?_⟩,hu,?_⟩
  ·intro v hv i h
   rw[hr v hv]
   exact s.at_ v hv i (hb i v h (by grind[aU]))
  ·intro v hv
   obtain⟨u,h1,h2⟩:=s.to v hv
   refine⟨u,?_,h2⟩
   rw[hnr v hv,hi _ ?_,h1]
   rw[da]
   have hp':=s.pos v hv
   rcases ag6.1 hv with rfl|hv
   ·have:=s.top;omega
   ·have hv2:v∈aU ((n,k,r)::t):=by grind[aU]
    obtain⟨i,hi1,hi2⟩:=List.getElem_of_mem hv2
    have:=s.at_ v hv i (by simp_all)
    grind[da]
  ·intro v hv m hm
   rcases s.ed v hv m hm with h|⟨i,h1,h2⟩
   ·simp_all
   grind
  ·intro j m hj hm
   rcases s.en j m hj hm with h|⟨i,h1,h2⟩
   ·simp_all
   grind
  ·refine OK.mono t ht (λv hv=>hl v (by simp[aU,hv])) ho (λi v h hv=>hb i v h (by simp[aU,hv])) (λi h=>hi i (by rw[da];omega)) nd hD ?_
   intro i h
   rw[hp i (by rw[da];omega)]
   simp only[aU]
   rw[ag8 h]
def Gz(f:Nat->Nat)(i x:Nat):Nat->Nat:=λj=>if j=i then x else f j
theorem bU(f:Nat->Nat)(i x:Nat):Gz f i x i=x:=by simp[Gz]
theorem eF{f:Nat->Nat}{i x j:Nat}(h:j≠i):Gz f i x j=f j:=by grind[Gz]
structure Inv(E:Nat->List Nat)(N:Nat)(low:Nat->Nat)(S:List Sc)(gs:List (List Nat)):Prop where
 ok:OK E low (aU S) (·∈gs.flatten) S
 nd:(aU S++gs.flatten).Nodup
 lt:∀v∈aU S++gs.flatten,v<N
 un:∀v,v<N->(low v=0↔v∉aU S++gs.flatten)
 dn:∀v∈gs.flatten,low v=N+1
 good:Good E gs
theorem Xw:∀(l m:List Nat),l.Nodup->(∀v∈l,v∈m)->l.length<=m.length
 |[],_,_,_=>agP _
 |a::l,m,h,hs=>by
  have ha:=hs a σ
  rw[ahE] at h
  have:=Xw l (m.erase a) h.2 (λv hv=>(List.mem_erase_of_ne (λe:v=a=>h.1 (e▸hv))).2 (hs v (by grind)))
  grind
theorem Xx{l:List Nat}{N:Nat}(h1:l.Nodup)(h2:∀v∈l,v<N):l.length<=N:=by
 have:=Xw l (List.range N) h1 (λv u=>ahd.2 (h2 v u))
 simp_all
variable{E:Nat->List Nat}{N:Nat}{low:Nat->Nat}{S t:List Sc}{gs:List (List Nat)}{D:Nat->Prop}{op:List Nat}
theorem ON{l:List Nat}(h:l.Nodup){i j:Nat}{v:Nat}(h1:l[i]? =some v)(h2:l[j]? =some v):i=j:=by grind[List.getElem?_eq_some_iff,List.getElem_inj]
theorem OK.to:∀(S:List Sc),OK E low op D S->∀v∈aU S,0<low v/\∃u,op[low v-1]? =some u/\Rc E v u
 |[],_,v,hv=>by simp_all[aU]
 |(n,k,r)::t,⟨s,_,h⟩,v,hv=>by
  simp only[aU,agX] at hv
  rcases hv with hv|hv
  ·exact OK.to t h v hv
  ·exact⟨s.pos v hv,s.to v hv⟩
theorem OK.acO:∀(S:List Sc),OK E low op D S->op.Nodup->(∀i:Nat,i<(aU S).length->op[i]? =(aU S)[i]?)->∀v∈aU S,∀i:Nat,op[i]? =some v->low v<=i+1
 |[],_,_,_,v,hv=>by simp_all[aU]
 |(n,k,r)::t,⟨s,_,h⟩,nd,hp,v,hv=>by
  intro i hi
  simp only[aU,agX] at hv
  rcases hv with hv|hv
  ·refine OK.acO t h nd (λj hj=>?_) v hv i hi
   grind[da,aU,List.getElem?_append_left]
  ·rcases ag6.1 hv with rfl|hv
   ·have h1:op[(aU t).length]? =some v:=by simp_all[aU]
    have:=ON nd hi h1
    have:=s.top
    omega
   ·have:=s.at_ v hv i hi
    omega
theorem Inv.ndo(h:Inv E N low S gs):(aU S).Nodup:=(ahx.1 h.nd).1
theorem Inv.len(h:Inv E N low S gs):(aU S).length<=N:=Xx h.ndo λv u=>h.lt v (by grind)
theorem Inv.seen(h:Inv E N low S gs){v:Nat}(hv:v<N)(hl:low v≠0):v∈aU S\/v∈gs.flatten:=by
 have:=mt (h.un v hv).2 hl
 grind
theorem Inv.root(h:Inv E N low [] gs){m:Nat}(hm:m<N)(h0:low m=0):Inv E N (Gz low m 1) [(m,0,[])] gs:=by
 have O:=(h.un m hm).1 h0;simp only[aU,ahU] at O;have J:∀v,v∈gs.flatten->v≠m:=λv u e=>O (e▸u)
 refine⟨⟨⟨σ,by simp[aU,bU],σ,?_,σ,σ,?_,σ,σ⟩,σ,trivial⟩,?_,?_,?_,?_,h.good⟩
 ·simp[bU]
 ·intro v u;simp only[ag_] at u;subst u;exact⟨v,by simp[bU,aU],.refl v⟩
 ·have:=h.nd
  simp_all[aU]
 ·intro v u;simp only[aU,ahU,List.singleton_append,ag6] at u
  rcases u with rfl|u
  ·omega
  ·exact h.lt v (by simp_all)
 ·intro v u;simp only[aU,ahU,List.singleton_append,ag6]
  by_cases e:v=m
  ·simp_all[bU]
  ·rw[eF e,h.un v u];grind[aU]
 ·intro v u;rw[eF (J v u)];exact h.dn v u
theorem Inv.push{n k m:Nat}{r:List Nat}(h:Inv E N low ((n,k,r)::t) gs)(hk:(E n)[k]? =some m)(hm:m<N)(h0:low m=0):
  Inv E N (Gz low m ((aU ((n,k,r)::t)).length+1)) ((m,0,[])::(n,k+1,r)::t) gs:=by
 have X:=(h.un m hm).1 h0;have O:m∉aU ((n,k,r)::t):=λe=>X (by simp_all);have U:m∉gs.flatten:=λe=>X (by simp_all);have V:aU ((m,0,[])::(n,k+1,r)::t)=aU ((n,k,r)::t)++[m]:=rfl
 have J:=OK.mono (low':=Gz low m ((aU ((n,k,r)::t)).length+1)) (op':=aU ((n,k,r)::t)++[m]) (D':=(·∈gs.flatten)) _ h.ok
  (λv u=>eF λe=>O (e▸u))
  (λi v hi=>Or.inl (by grind))
  (λi v hi u=>by grind)
  (λi hi=>ag8 hi) h.ndo (λ_ h=>h) (λ_ _=>rfl)
 obtain⟨s,Y,ht⟩:=J;have W:k<(E n).length:=(agN.1 hk).1
 refine⟨⟨⟨σ,?_,σ,?_,σ,σ,?_,σ,σ⟩,?_,⟨⟨W,s.top,s.lo,s.pos,s.at_,s.rc,s.to,s.ed,?_⟩,Y,ht⟩⟩,?_,?_,?_,?_,h.good⟩
 ·rw[bU];exact agT _
 ·simp[bU]
 ·intro v u;simp only[ag_] at u;subst u;refine⟨v,?_,.refl v⟩
  simp_all[bU]
 ·grind[Rc.one,List.mem_of_getElem?]
 ·intro j v Z u
  by_cases e:j=k
  ·subst e;rw[hk] at u;cases u;refine Or.inr ⟨(aU ((n,j,r)::t)).length,by simp_all,?_⟩;have h1:=s.top
   grind[aU,da]
  ·exact s.en j v ω u
 ·rw[V];have:=h.nd
  grind
 ·intro v u;rw[V] at u;simp only[agX,ag_] at u
  rcases u with(u|rfl)|u
  ·exact h.lt v (by simp_all)
  ·omega
  ·exact h.lt v (by simp_all)
 ·intro v u;rw[V]
  by_cases e:v=m
  ·simp_all[bU]
  ·rw[eF e,h.un v u];grind
 ·intro v u;have e:v≠m:=λe=>U (e▸u);rw[eF e];exact h.dn v u
theorem Inv.adC{n k:Nat}{r:List Nat}(h:Inv E N low ((n,k,r)::t) gs):n∉aU t/\n∉r/\n∉gs.flatten/\(∀v∈r,v∉aU t):=by
 have:=h.nd;simp only[aU,ahx,ahE,agX,ag6] at this
 grind
theorem Inv.look{n k m:Nat}{r:List Nat}(h:Inv E N low ((n,k,r)::t) gs)(hk:(E n)[k]? =some m)(hm:m<N)(h0:low m≠0):
  Inv E N (Gz low n (min (low n) (low m))) ((n,k+1,r)::t) gs:=by
 obtain⟨x1,x2,x3,x4⟩:=h.adC;obtain⟨s,hu,ht⟩:=h.ok;have a4:k<(E n).length:=(agN.1 hk).1;have hr:∀v∈r,v≠n:=λv J e=>x2 (e▸J);have Y:=h.len;rw[da] at Y;have a6:=s.top;have a9:=s.pos n σ;have O:Gz low n (min (low n) (low m)) n<=low n:=by grind[bU]
 have a5:m∈gs.flatten->min (low n) (low m)=low n:=λe=>by rw[h.dn m e];omega
 have U:=OK.mono (low':=Gz low n (min (low n) (low m))) (op':=aU ((n,k,r)::t)) (D':=(·∈gs.flatten)) _ ht
  (λv J=>eF λe=>x1 (e▸J)) (λi v hi=>Or.inl hi) (λi v hi _=>hi) (λi hi=>rfl) h.ndo (λ_ h=>h)
  (λi hi=>by simp_all[aU,ag8])
 refine⟨⟨⟨a4,ω,?_,?_,?_,s.rc,?_,?_,?_⟩,hu,U⟩,h.nd,h.lt,?_,?_,h.good⟩
 ·intro v J;rw[eF (hr v J)];exact ahq O (s.lo v J)
 ·intro v J
  by_cases e:v=n
  ·grind[bU]
  ·rw[eF e];exact s.pos v J
 ·intro v J;rw[eF (hr v J)];exact s.at_ v J
 ·intro v J
  by_cases e:v=n
  ·subst e;rw[bU]
   by_cases hc:low v<=low m
   ·rw[ais hc];exact s.to v σ
   ·rw[Nat.min_eq_right ω]
    rcases h.seen hm h0 with W|W
    ·obtain⟨_,u,V,X⟩:=OK.to _ h.ok m W;exact⟨u,V,.step (agL hk) X⟩
    grind
  ·rw[eF e];exact s.to v J
 ·intro v J x Z
  rcases s.ed v J x Z with V|⟨i,V,X⟩
  ·simp_all
  ·exact Or.inr ⟨i,V,ahq O X⟩
 ·intro j x hj Z
  by_cases e:j=k
  ·subst e;rw[hk] at Z;cases Z
   rcases h.seen hm h0 with W|W
   ·obtain⟨i,a7,a8⟩:=List.getElem_of_mem W;have a0:(aU ((n,j,r)::t))[i]? =some m:=by simp_all
    refine Or.inr ⟨i,a0,?_⟩;have:=OK.acO _ h.ok h.ndo (λ_ _=>rfl) m W i a0
    grind[bU]
   simp_all
  ·rcases s.en j x ω Z with V|⟨i,V,X⟩
   ·simp_all
   ·exact Or.inr ⟨i,V,ahq O X⟩
 ·intro v J
  by_cases e:v=n
  ·grind[bU,aU,absurd]
  ·rw[eF e];exact h.un v J
 ·intro v J;have e:v≠n:=λe=>x3 (e▸J);rw[eF e];exact h.dn v J
theorem Inv.merge{n k u ku:Nat}{r ru:List Nat}(h:Inv E N low ((n,k,r)::(u,ku,ru)::t) gs)(hk:k=(E n).length)(hne:low n≠(aU ((u,ku,ru)::t)).length+1):
  Inv E N (Gz low u (min (low u) (low n))) ((u,ku,ru++n::r)::t) gs:=by
 obtain⟨x1,x2,x3,x4⟩:=h.adC;obtain⟨s,hu,s2,a0,ht⟩:=h.ok;have ho:aU ((u,ku,ru++n::r)::t)=aU ((n,k,r)::(u,ku,ru)::t):=by simp[aU]
 have V:u∉aU t/\u∉ru/\u≠n/\u∉r/\u∉gs.flatten:=by
  have:=h.nd;simp only[aU,ahx,ahE,agX,ag6] at this
  grind
 obtain⟨y1,y2,y3,y4,y5⟩:=V;have W:Gz low u (min (low u) (low n)) u<=low u:=by grind[bU]
 have Z:Gz low u (min (low u) (low n)) u<=low n:=by grind[bU]
 have O:∀v,v≠u->Gz low u (min (low u) (low n)) v=low v:=λv e=>eF e;have hn:Gz low u (min (low u) (low n)) n=low n:=O n (Ne.symm y3);have hr:∀v∈r,Gz low u (min (low u) (low n)) v=low v:=λv J=>O v λe=>y4 (e▸J);have V:∀v∈ru,Gz low u (min (low u) (low n)) v=low v:=λv J=>O v λe=>y2 (e▸J);have a6:=s.pos n σ;have a5:=s2.pos u σ
 have Y:=OK.mono (low':=Gz low u (min (low u) (low n))) (op':=aU ((n,k,r)::(u,ku,ru)::t)) (D':=(·∈gs.flatten)) _ ht
  (λv J=>eF λe=>y1 (e▸J)) (λi v hi=>Or.inl hi) (λi v hi _=>hi) (λi hi=>rfl) h.ndo (λ_ h=>h)
  (λi hi=>by simp_all[aU,ag8])
 have X:(aU ((n,k,r)::(u,ku,ru)::t))[(aU ((u,ku,ru)::t)).length]? =some n:=by simp[aU]
 refine⟨?_,by rw[ho];exact h.nd,by rw[ho];exact h.lt,?_,?_,h.good⟩
 ·rw[ho]
  refine⟨⟨s2.le,ahq W s2.top,?_,?_,?_,?_,?_,?_,?_⟩,a0,Y⟩
  ·intro v J;simp only[agX,ag6] at J
   rcases J with J|rfl|J
   ·rw[V v J];exact ahq W (s2.lo v J)
   ·omega
   ·rw[hr v J];exact ahq Z (s.lo v J)
  ·intro v J
   by_cases e:v=u
   ·grind[bU]
   ·rw[O v e];simp only[agX,ag6] at J
    rcases J with J|J|rfl|J
    ·omega
    ·exact s2.pos v (by grind)
    ·omega
    ·exact s.pos v (by grind)
  ·intro v J i hi;simp only[agX,ag6] at J
   rcases J with J|rfl|J
   ·rw[V v J];exact s2.at_ v J i hi
   ·rw[hn];have:=ON h.ndo hi X;have:=s.top;omega
   ·rw[hr v J];exact s.at_ v J i hi
  ·intro v J;have U:=hu u ku ru t rfl;simp only[agX,ag6] at J
   rcases J with J|rfl|J
   ·exact s2.rc v J
   ·omega
   ·exact U.trans (s.rc v J)
  ·intro v J
   by_cases e:v=u
   ·subst e;rw[bU]
    by_cases hc:low v<=low n
    ·rw[ais hc];exact s2.to v σ
    ·rw[Nat.min_eq_right ω];obtain⟨x,U,h2⟩:=s.to n σ;exact⟨x,U,(hu v ku ru t rfl).trans h2⟩
   ·rw[O v e];simp only[agX,ag6] at J
    rcases J with J|J|rfl|J
    ·omega
    ·exact s2.to v (by grind)
    ·exact s.to v σ
    ·exact s.to v (by grind)
  ·intro v J x hx;simp only[agX,ag6] at J
   rcases J with J|rfl|J
   ·rcases s2.ed v J x hx with U|⟨i,U,h2⟩
    ·simp_all
    grind
   ·obtain⟨j,a4,a7⟩:=List.getElem_of_mem hx
    rcases s.en j x ω (by simp_all) with U|⟨i,U,h2⟩
    ·simp_all
    grind
   ·rcases s.ed v J x hx with U|⟨i,U,h2⟩
    ·simp_all
    grind
  ·intro j x hj hx
   rcases s2.en j x hj hx with U|⟨i,U,h2⟩
   ·simp_all
   grind
 ·intro v J;rw[ho]
  by_cases e:v=u
  ·grind[bU,aU,absurd]
  ·rw[O v e];exact h.un v J
 ·intro v J;rw[O v λe=>y5 (e▸J)];exact h.dn v J
variable{E:Nat->List Nat}{N:Nat}{low:Nat->Nat}{S t:List Sc}{gs:List (List Nat)}
theorem Inv.agv{n k u ku:Nat}{r ru:List Nat}(h:Inv E N low ((n,k,r)::(u,ku,ru)::t) gs)(hl:low n=(aU ((u,ku,ru)::t)).length+1):min (low u) (low n)=low u:=by
 obtain⟨s,O,s2,J,ht⟩:=h.ok;have:=s2.top
 grind[da]
theorem Inv.pop{n k:Nat}{r:List Nat}(h:Inv E N low ((n,k,r)::t) gs)(hk:k=(E n).length)(hl:low n=(aU t).length+1):
  Inv E N (λv=>if v∈n::r then N+1 else low v) t (gs++[n::r]):=by
 obtain⟨s,hu,ht⟩:=h.ok;have X:=h.nd;simp only[aU,ahx,agX] at X;obtain⟨⟨W,h2,h3⟩,h4,h5⟩:=X;have a0:aU ((n,k,r)::t)=aU t++n::r:=rfl;have a4:∀(i m:Nat),(aU ((n,k,r)::t))[i]? =some m->low n<=i+1->m∈n::r:=by grind
 have back:∀p:Nat,∀i:Nat,i<p->∀v:Nat,v∈n::r->(aU ((n,k,r)::t))[i]? =some v->Rc E v n:=by
  intro p
  induction p with
  |zero=>omega
  |succ p ih=>
   intro i hi v J Y
   rcases ag6.1 J with rfl|V
   ·exact .refl _
   ·have a1:=s.at_ v V i Y;have a2:=s.lo v V;obtain⟨u,b1,b2⟩:=s.to v J;have a3:=s.pos v J;exact b2.trans (ih (low v-1) ω u (a4 _ u b1 ω) b1)
 have back:∀v∈n::r,Rc E v n:=by
  intro v J;obtain⟨i,a7,a8⟩:=List.getElem_of_mem (show v∈aU ((n,k,r)::t) by simp_all)
  grind
 have Z:∀v∈n::r,Rc E n v:=by
  intro v J
  rcases ag6.1 J with rfl|V
  ·simp_all
  ·exact s.rc v V
 have hg:Good E (gs++[n::r]):=by
  refine h.good.snoc σ h2 (λa ha hb=>h5 a (Or.inr ha) a hb rfl) (λa ha b hb=>(back a ha).trans (Z b hb)) ?_;intro a ha b hb
  rcases ag6.1 ha with rfl|V
  ·obtain⟨j,a6,a9⟩:=List.getElem_of_mem hb
   rcases s.en j b ω (by simp_all) with W|⟨i,W,h2⟩
   ·simp_all
   grind
  ·rcases s.ed a V b hb with W|⟨i,W,h2⟩
   ·simp_all
   grind
 have a5:∀v∈aU t,v∉n::r:=λv J e=>h3 v J v e rfl;have O:∀v,v∈(gs++[n::r]).flatten↔v∈gs.flatten\/v∈n::r:=σ
 have U:=OK.mono (low':=λv=>if v∈n::r then N+1 else low v) (op':=aU t) (D':=(·∈(gs++[n::r]).flatten)) _ ht
  (λv J=>by simp_all)
  (λi v hi=>by grind)
  (λi v hi _=>by grind)
  (λi hi=>by grind) h.ndo (λv J=>(O v).2 (Or.inl J))
  (λi hi=>by grind)
 refine⟨U,?_,?_,?_,?_,hg⟩
 ·rw[ahx];refine⟨W,hg.1,?_⟩
  grind
 ·intro v J;rw[agX,O] at J;refine h.lt v ?_
  grind
 ·intro v J;rw[agX,O]
  by_cases e:v∈n::r
  ·grind
  ·simp only[agW e];rw[h.un v J,a0,agX,agX]
   grind
 ·intro v J
  rcases(O v).1 J with J|J
  ·by_cases e:v∈n::r
   ·grind
   ·simp only[agW e];exact h.dn v J
  grind
theorem Inv.start(E:Nat->List Nat)(N:Nat):Inv E N (λ_=>0) [] []:=⟨trivial,by simp[aU],by simp[aU],by simp[aU],σ,Good.nil E⟩
def todo(E:Nat->List Nat)(N:Nat)(low:Nat->Nat)(S:List Sc):Nat:=
 ((List.range N).map λv=>if low v=0 then(E v).length+2 else 0).sum+(S.map λs=>(E s.1).length+1-s.2.1).sum
theorem adD{l:List Nat}{f g:Nat->Nat}(h:∀v∈l,f v<=g v):(l.map f).sum<=(l.map g).sum:=by
 induction l with
 |nil=>simp
 |cons a l ih=>
  grind
theorem adE{l:List Nat}{f g:Nat->Nat}(h:∀v∈l,f v<=g v){a d:Nat}(ha:a∈l)(hd:f a+d<=g a):(l.map f).sum+d<=(l.map g).sum:=by
 induction l with
 |nil=>simp_all
 |cons b l ih=>
  simp only[ahw,List.sum_cons]
  rcases ag6.1 ha with rfl|ha
  ·have:=adD (l:=l) λv u=>h v (by grind);omega
  grind
theorem UZ{n k m:Nat}{r:List Nat}(h:Inv E N low ((n,k,r)::t) gs)(hk:(E n)[k]? =some m)(hm:m<N)(h0:low m=0)(x:Nat)(hx:x≠0):
  todo E N (Gz low m x) ((m,0,[])::(n,k+1,r)::t)<todo E N low ((n,k,r)::t):=by
 have u:k<(E n).length:=(agN.1 hk).1
 have:=adE (l:=List.range N) (f:=λv=>if Gz low m x v=0 then(E v).length+2 else 0) (g:=λv=>if low v=0 then(E v).length+2 else 0) (a:=m) (d:=(E m).length+2)
  (λv _=>by
   by_cases e:v=m
   ·grind
   simp_all[eF]) (ahd.2 hm) (by simp_all[bU])
 grind[todo]
theorem DX{low':Nat->Nat}(h:∀v,v<N->(low' v=0↔low v=0)):((List.range N).map λv=>if low' v=0 then(E v).length+2 else 0).sum=((List.range N).map λv=>if low v=0 then(E v).length+2 else 0).sum:=by simp_all[ah0]
end cX
section
variable{a b c d:aiz}{i j k l m n o p:Nat}{A:Int}{w:aiA}{R:Value->WP}
theorem JR(h:new w (ψ a i j b k l c m n A d o p) λa b=>χ b (aM a) λc=>rE 100 [c] b λb c=>∃d e f g,b=vU [vS d e f,iI g]/\br (g !=0) (R (vU [zS,iI g]) c) (χ c (aM a) λb=>rE 101 [b] c λb c=>∃f g h i,b=vU [vS f g h,iI i]/\br (i !=0) (R (vU [zS,iI i]) c) (τ [(7,kT),(31,aN)] λb h=>b none 0 0 0 c/\∀(_:ν) c i j k l,b c i j k l->bQ (k<(g:Int)) (idx f g k 3 λf=>∃g m n o p,rA l f 3 [iI g,iI m,vS n o p]/\new l (oC [iI 0,iI 0,zS] 212) λf q=>bA q (aM f) [iI g,iI m,vS n o p] λg=>cLs g (aM a) λm n o=>rEp 102 [iI (n:Int),zS] g λm g=>cLs g (Addr.add (aM f) 2) λa n o=>τ [(42,aN)] λo p=>o 0 g/\∀(_:ν) g q,o g q->bQ (g<(n:Int)) (idx a n g 1 λa=>cLi q a λb=>idx d e b 1 λa=>cLs q a λb c d=>rEi 103 [vP m,vS b c d] q λc b=>aA (g+1)/\nA o p (g+1) b g q) (dW1 q λa d=>dLi d (aM f) λe=>dLi d (Addr.add (aM f) 1) λg=>rEs 89 [vP m] a λm n o f=>d f/\new f (oC [iI e,iI g,vS m n o] 216) λa e=>d e/\rS (fW1 100 [vS c i j,vS (some (aM a)) 1 1]) e λa e=>∃f g m,a=vS f g m/\d e/\aA (k+1)/\nD1 b h f g m (k+1) e c i j k l)) (rEs 104 [vS c i j] l λc d e b=>R (vU [vS c d e,iI 0]) b)))):ρ 42 [φ a i j b k l c m n A d o p] w R:=rv Tryz.func42 h ⟨[(9,[(7,kT),(31,aN)]),(13,[(42,aN)])],[],[],[]⟩
theorem AF(h:new w (ψ a i j b k l c m n A d o p) λa b=>dW1 b λc b=>∃d e f g h i j k l m n o p,(∀c,b c->rA c (aM a) 5 [vS d e f,vS g h i,vS j k l,iI m,vS n o p])/\rEs 193 [] c λq r s c=>∃(a:WP),a c/\(∀c,a c->b c)/\idx q r 1 2 λb=>∃q r s t,(∀c,a c->rA c b 2 [vF1 q r,vF1 s t])/\rE 194 [vG [vF1 q r,vF1 s t],vG [vS d e f,vS g h i,vS j k l,iI m,vS n o p]] c λb c=>∃d e f g,b=vU [vS d e f,iI g]/\a c/\R (vU [vS d e f,iI g]) c):ρ 100 [φ a i j b k l c m n A d o p] w R:=rv Tryz.func100 h
theorem jZ(h:lU a i j none (some (i:Int)) (some (i:Int)) 3 λ(a:aiz)(b c:Nat)=>R (vS a b c) w):ρ 104 [vS a i j] w R:=rv Tryz.func104 h
theorem AH  {w:aiA}{R:Value->WP}(h:new w (oC [vF1 284 [],vF1 285 [],vF1 286 [],vF1 287 []] 340) λa b=>R (vS (some (aM a)) 2 2) b):ρ 193 [] w R:=rv Tryz.func193 h
theorem rJ{F:FuncId}{G:List Value}{H:FuncId}{I:List Value}(h:new w (oC [vF1 F G,vF1 H I] 340) λe f=>new f (ψ a i j b k l c m n A d o p) λa b=>∃c d,cL b (aM e) (vF1 c d)/\χ b (aM a) λf=>pj (Fn c) (rE c (f::d) b λb c=>∃d f g h,b=vU [vS d f g,iI h]/\br (h !=0) (R (vU [zS,iI h]) c) (∃b h,cL c (Addr.add (aM e) 1) (vF1 b h)/\χ c (aM a) λa=>pj (Fn b) (rE b (a::h) c λa b=>∃c e h i,a=vU [vS c e h,iI i]/\br (i !=0) (R (vU [zS,iI i]) b) (rE 288 [vS c e h,vS d f g] b λa b=>∃c d e f,a=vU [vS c d e,iI f]/\R (vU [vS c d e,iI f]) b))))):ρ 194 [(.agg #[(.func (.func F) #[] ⟨G⟩),(.func (.func H) #[] ⟨I⟩)]),φ a i j b k l c m n A d o p] w R:=rv Tryz.func194 h
abbrev xk:FuncId:=286
theorem D3(h:new w (ψ a i j b k l c m n A d o p) λa b=>dW1 b λc b=>∃d e f g h i j k l m n o p,(∀c,b c->rA c (aM a) 5 [vS d e f,vS g h i,vS j k l,iI m,vS n o p])/\rEs 193 [] c λq r s c=>∃(a:WP),a c/\(∀c,a c->b c)/\idx q r 0 2 λb=>∃q r s t,(∀c,a c->rA c b 2 [vF1 q r,vF1 s t])/\rE 194 [vG [vF1 q r,vF1 s t],vG [vS d e f,vS g h i,vS j k l,iI m,vS n o p]] c λb c=>∃d e f g,b=vU [vS d e f,iI g]/\a c/\R (vU [vS d e f,iI g]) c):ρ 286 [φ a i j b k l c m n A d o p] w R:=rv Tryz.func286 h
theorem Cd(h:new w (oC [vS a i j] 71) λa c=>new c (oC [vS b k l] 71) λb c=>∃(d:lP [(19,yV)]),(∃e f g,World.cell? c (aM a)=some (vS e f g)/\rEb 345 [vS e f g] c λf e=>br (!f) (d true e) (∃c f g,World.cell? e (aM b)=some (vS c f g)/\∃b c g,World.cell? e (aM a)=some (vS b c g)/\d ((f:Int) !=(c:Int)) e))/\∀(_:ν) c e,d c e->br c (R (vU [zS,iI 1]) e) (∃c d f,World.cell? e (aM b)=some (vS c d f)/\τ [(22,aN)] λf g=>f 0 e/\∀(_:ν) e h,f e h->bQ (e<(d:Int)) (idx c d e 1 λa=>∃b c d,World.cell? h a=some (vS b c d)/\rEb 126 [vS b c d,vF1 346 []] h λc b=>br c (R (vU [zS,iI 1]) b) (aA (e+1)/\nA f g (e+1) b e h)) (∃c d e,World.cell? h (aM a)=some (vS c d e)/\od (d:Int) (d:Int) 8/\new h (Obj.cells (Array.mk (gD (Int.toNat (d:Int)) [vP none])) 178) λc e=>new e (oC [zS] 179) λe f=>st1 f (aM e) (vS (some (aM c)) (Int.toNat (d:Int)) (Int.toNat (d:Int))) λc=>∃d f g,World.cell? c (aM a)=some (vS d f g)/\od (f:Int) (f:Int) 24/\new c (Obj.cells (Array.mk (gD (Int.toNat (f:Int)) [zS])) 24) λc d=>new d (oC [zS] 71) λd g=>st1 g (aM d) (vS (some (aM c)) (Int.toNat (f:Int)) (Int.toNat (f:Int))) λc=>∃f g h,World.cell? c (aM a)=some (vS f g h)/\rE 347 [vS f g h,vF1 348 [vP (some (aM e)),vP (some (aM b)),vP (some (aM a)),vP (some (aM d))]] c λa b=>a=vU []/\∃a c e,World.cell? b (aM d)=some (vS a c e)/\R (vU [vS a c e,iI 0]) b))):ρ 288 [vS a i j,vS b k l] w R:=rv Tryz.func288 h ⟨[(4,[(22,aN)])],[(2,[(19,yV)])],[],[]⟩
theorem Cf(h:new w (oC [vS a i j] 71) λa b=>∃c d e,World.cell? b (aM a)=some (vS c d e)/\rEb 380 [vS c d e,vF1 381 [vP (some (aM a))]] b λc b=>R (vB !c) b):ρ 345 [vS a i j] w R:=rv Tryz.func345 h
abbrev AI:FuncId:=346
theorem xm(h:bQ (A<0) (R (vB true) w) (R (vB (decide (1024<=A))) w)):ρ 346 [iI A] w R:=rv Tryz.func346 h
theorem D5{a:aiz}{b c:Nat}{d:FuncId}{e:List Value}{w:aiA}{R:Value->WP}(h:od (b:Int) (b:Int) 8/\new w (Obj.cells (Array.mk (gD (Int.toNat (b:Int)) [iI 0])) 3) λc f=>new f (oC [zS] 24) λf g=>st1 g (aM f) (vS (some (aM c)) (Int.toNat (b:Int)) (Int.toNat (b:Int))) λc=>aA ((b:Int)+1)/\new c (oC [zS] 24) λc g=>new g (oC [zS] 511) λg h=>τ [(26,aN)] λi j=>i 0 h/\∀(_:ν) h k,i h k->bQ (h<(b:Int)) (∃l m n,World.cell? k (aM f)=some (vS l m n)/\idx l m h 1 λl=>∃m,World.cell? k l=some (iI m)/\bQ (0<m) (aA (h+1)/\nA i j (h+1) k h k) (new k (Obj.map (Array.mk []) 0) λl m=>∃n o p,World.cell? m (aM c)=some (vS n o p)/\aA ((o:Int)+1)/\aY Tryz.prog (Instr.mapUpdate 276 (Value.map (some l)) (iI h) (iI ((o:Int)+1))) m λ(_:Unit)(m:aiA)=>rE 383 [iI h,vP (some (aM c)),vP (some (aM f)),vP (some (aM g))] m λm n=>m=vU []/\τ [] λm o=>m n/\∀(_:ν) n,m n->∃p q r,World.cell? n (aM g)=some (vS p q r)/\bQ (0<(q:Int)) (∃h i j,World.cell? n (aM g)=some (vS h i j)/\∃j k p,World.cell? n (aM g)=some (vS j k p)/\aA ((k:Int)-1)/\idx h i ((k:Int)-1) 2 λh=>τ [] λi j=>i n/\∀(_:ν) k,i k->dW1 k λp q=>dLi q (h.add 1) λr=>dLi q h λs=>idx a b s 1 λs=>dLs q s λt u v=>bQ (r<(u:Int)) (dW1 p λd e=>dLi e h λp=>idx a b p 1 λa=>dLs e a λb p q=>dLi e (h.add 1) λa=>idx b p a 1 λa=>dLi e a λb=>∃a,World.cell? d (h.add 1)=some (iI a)/\aA (a+1)/\st1 d (h.add 1) (iI (a+1)) λa=>∃d e p,World.cell? a (aM f)=some (vS d e p)/\idx d e b 1 λd=>∃e,World.cell? a d=some (iI e)/\br (e==0) (∃d e h,World.cell? a (aM c)=some (vS d e h)/\aA ((e:Int)+1)/\aY Tryz.prog (Instr.mapUpdate 276 (Value.map (some l)) (iI b) (iI ((e:Int)+1))) a λ(_:Unit)(a:aiA)=>rE 383 [iI b,vP (some (aM c)),vP (some (aM f)),vP (some (aM g))] a λa b=>a=vU []/\m b/\o b<o n) (dW1 a λc a=>dLs a (aM f) λd e g=>dLi a h λg=>dLs a (aM f) λl m n=>dLi a h λn=>idx l m n 1 λh=>dLi a h λl=>dLs a (aM f) λh m n=>idx h m b 1 λb=>dLi a b λf=>idx d e g 1 λa=>st1 c a (iI (if f<l then f else l)) λa=>i a/\j a<j k)) (∃a,World.cell? p h=some (iI a)/\∃h i j,World.cell? p (aM g)=some (vS h i j)/\∃k q r,World.cell? p (aM g)=some (vS k q r)/\aA ((q:Int)-1)/\lU h i j none (some ((q:Int)-1)) none 2 λ(h:aiz)(i j:Nat)=>st1 p (aM g) (vS h i j) λh=>∃(i:lP []),(∃b c d,World.cell? h (aM g)=some (vS b c d)/\bQ (0<(c:Int)) (∃b c d,World.cell? h (aM g)=some (vS b c d)/\∃d e j,World.cell? h (aM g)=some (vS d e j)/\aA ((e:Int)-1)/\idx b c ((e:Int)-1) 2 λb=>∃c,World.cell? h b=some (iI c)/\dW1 h λb d=>dLs d (aM f) λe g h=>dLs d (aM f) λh j k=>idx h j c 1 λh=>dLi d h λj=>dLs d (aM f) λh k l=>idx h k a 1 λa=>dLi d a λf=>idx e g c 1 λa=>st1 b a (iI (if f<j then f else j)) λa=>i a) (i h))/\∀(_:ν) g,i g->dW1 g λh g=>dLs g (aM f) λi j k=>idx i j a 1 λi=>dLi g i λj=>aY Tryz.prog (Instr.lookup 276 (Value.map (some l)) (iI a) false) h λh i=>∃k,h=iI k/\g i/\br (j==k) (∃g h j,World.cell? i (aM c)=some (vS g h j)/\aY Tryz.prog (Instr.lookup 276 (Value.map (some l)) (iI a) false) i λi k=>∃p,i=iI p/\aA (p-1)/\lU g h j (some (p-1)) none none 1 λ(g:aiz)(h i:Nat)=>rEs 115 [vS g h i] k λi j k h=>∃g p q,World.cell? h (aM c)=some (vS g p q)/\aY Tryz.prog (Instr.lookup 276 (Value.map (some l)) (iI a) false) h λa h=>∃l,a=iI l/\aA (l-1)/\lU g p q none (some (l-1)) none 1 λ(a:aiz)(g l:Nat)=>st1 h (aM c) (vS a g l) λa=>τ [(170,aN)] λc g=>c 0 a/\∀(_:ν) a h,c a h->bQ (a<(j:Int)) (idx i j a 1 λd=>∃e,World.cell? h d=some (iI e)/\∃d i j,World.cell? h (aM f)=some (vS d i j)/\idx d i e 1 λd=>st1 h d (iI ((b:Int)+1)) λb=>aA (a+1)/\nA c g (a+1) b a h) (pj (Fn d) (rE d (vS i j k::e) h λa b=>a=vU []/\m b/\o b<o n))) (m i/\o i<o n))) (aA (h+1)/\nA i j (h+1) n h k))) (R (vU []) k)):ρ 347 [vS a b c,(.func (.func d) #[] ⟨e⟩)] w R:=rv Tryz.func347 h ⟨[(5,[(26,aN)]),(12,[]),(14,[]),(30,[(170,aN)])],[(26,[])],[],[]⟩
abbrev AJ:FuncId:=348
theorem xq{d:Addr}{e:Addr}{f:Addr}{g:Addr}(h:rEp 102 [iI 1024,zS] w λh c=>τ [(19,aN)] λb j=>b 0 c/\∀(_:ν) c k,b c k->bQ (c<(i:Int)) (idx a i c 1 λa=>∃e,World.cell? k a=some (iI e)/\∃a f g,World.cell? k d=some (vS a f g)/\idx a f e 1 λa=>st1 k a (vP h) λa=>aA (c+1)/\nA b j (c+1) a c k) (τ [(30,aN)] λb c=>b 0 k/\∀(_:ν) j k,b j k->bQ (j<(i:Int)) (idx a i j 1 λa=>∃g,World.cell? k a=some (iI g)/\∃a i l,World.cell? k e=some (vS a i l)/\idx a i g 1 λa=>∃e i l,World.cell? k a=some (vS e i l)/\rEi 103 [vP h,vS e i l] k λi e=>∃a i l,World.cell? e f=some (vS a i l)/\idx a i g 1 λa=>∃f g i,World.cell? e a=some (vS f g i)/\τ [(45,aN)] λa i=>a 0 e/\∀(_:ν) e l,a e l->bQ (e<(g:Int)) (idx f g e 1 λb=>∃c,World.cell? l b=some (iI c)/\∃b f g,World.cell? l d=some (vS b f g)/\idx b f c 1 λb=>∃f,World.cell? l b=some (vP f)/\ac3 Proofs.YtaoaemnefghnbaaGreatDoor.Ty (λ(a:Sem Value)(b:Value->Prop)=>∃c,Sem.run Tryz.prog a l=Result.ok c l/\b c) BinOp.neq 178 (Operand.tmp 52) (Operand.tmp 53) f h λb=>br b (∃b f g,World.cell? l d=some (vS b f g)/\idx b f c 1 λb=>∃c,World.cell? l b=some (vP c)/\new l (oC [vP c] 178) λb c=>rEi 349 [vP h,vS (some (aM b)) 1 1] c λd c=>aA (e+1)/\nA a i (e+1) c e l) (aA (e+1)/\nA a i (e+1) l e l)) (aA (j+1)/\nA b c (j+1) l j k)) (rEs 89 [vP h] k λd e f c=>τ [(68,aN)] λb h=>b 0 c/\∀(_:ν) c j,b c j->bQ (c<(i:Int)) (idx a i c 1 λa=>∃i,World.cell? j a=some (iI i)/\dW1 j λa k=>dLs k g λl m n=>rEs 115 [vS d e f] a λe f g d=>k d/\idx l m i 1 λa=>st1 d a (vS e f g) λa=>aA (c+1)/\nA b h (c+1) a c j) (R (vU []) j)))):ρ 348 [vS a i j,(.pointer (some d)),(.pointer (some e)),(.pointer (some f)),(.pointer (some g))] w R:=rv Tryz.func348 h ⟨[(2,[(19,aN)]),(7,[(30,aN)]),(11,[(45,aN)]),(19,[(68,aN)])],[],[],[]⟩
abbrev AK:FuncId:=381
theorem xt{d:Addr}(h:rEb 126 [vS a i j,vF1 382 [vP (some d)]] w λc b=>R (vB c) b):ρ 381 [vS a i j,(.pointer (some d))] w R:=rv Tryz.func381 h
abbrev vM:FuncId:=382
theorem tj{b:Addr}(h:bQ (A<0) (R (vB true) w) (∃a c d,World.cell? w b=some (vS a c d)/\R (vB (decide ((c:Int)<=A))) w)):ρ 382 [iI A,(.pointer (some b))] w R:=rv Tryz.func382 h
end
theorem za{a:Int}{b c d:Addr}{w:aiA}{R:Value->WP}(h:∃e f g,World.cell? w b=some (vS e f g)/\new w (oC [iI a] 3) λh i=>rS (fW1 24 [vS e f g,vS (some (aM h)) 1 1]) i λe f=>∃g h i,e=vS g h i/\st1 f b (vS g h i) λe=>∃f g h,World.cell? e c=some (vS f g h)/\∃c h i,World.cell? e b=some (vS c h i)/\idx f g a 1 λb=>st1 e b (iI (h:Int)) λb=>∃c e f,World.cell? b d=some (vS c e f)/\new b (oC [iI a,iI 0] 513) λa b=>rS (fW1 511 [vS c e f,vS (some (aM a)) 1 1]) b λa b=>∃c e f,a=vS c e f/\st1 b d (vS c e f) λa=>R (vU []) a):ρ 383 [iI a,(.pointer (some b)),(.pointer (some c)),(.pointer (some d))] w R:=rv Tryz.func383 h
def Qq(l:List (Nat×Nat)):List Value:=l.flatMap λx=>[iI (x.1:Int),iI (x.2:Int)]
theorem Mo:∀l,(Qq l).length=l.length*2
 |[]=>rfl
 |x::l=>by
  have:=Mo l
  grind[Qq,List.length_append]
theorem OP(l:List (Nat×Nat))(a b:Nat):Qq l++[iI (a:Int),iI (b:Int)]=Qq (l++[(a,b)]):=by simp[Qq]
theorem Xy{gs:List (List Nat)}(h:∀g∈gs,g≠[]):gs.length<=gs.flatten.length:=by
 induction gs with
 |nil=>simp
 |cons g gs ih=>
  grind[List.length_pos_iff,List.flatten_cons,List.length_append,List.length_cons]
theorem cX.Good.ne{E:Nat->List Nat}{gs:List (List Nat)}(h:cX.Good E gs):∀g∈gs,g≠[]:=λg u=>by
 obtain⟨g1,g2,e⟩:=List.append_of_mem u
 exact(h.2 g1 g g2 e).1
theorem cX.Good.len{E:Nat->List Nat}{gs:List (List Nat)}{N:Nat}(h:cX.Good E gs)(hl:∀v∈gs.flatten,v<N):gs.length<=N/\∀g∈gs,g.length<=N:=by
 have J:=Xy h.ne;have O:=cX.Xx h.1 hl;refine⟨ω,λg u=>?_⟩;obtain⟨g1,g2,e⟩:=List.append_of_mem u
 grind
section
abbrev Ls:=(aiz×Nat)×List Int
def HN(p:Ls):Value:=vS p.1.1 p.2.length p.1.2
def D6(p:Ls):aE:=own 1 p.1.1 p.2.length p.1.2 (iv p.2)
variable{w:aiA}{L:List aE}
abbrev zb(ko kl kw bl N:Nat)(oa:aiz)(oc:Nat)(wa:aiz)(wc:Nat)(op low:List Nat)(wk:List (Nat×Nat)):List aE:=
 [az ko [vS oa op.length oc],own 1 oa op.length oc (dS op),az kl [vS (some ⟨bl,0,none⟩) N N],az bl (dS low),az kw [vS wa wk.length wc],own 2 wa wk.length wc (Qq wk)]
theorem S9{ko kl kw bl N n:Nat}{oa:aiz}{oc:Nat}{wa:aiz}{wc:Nat}{op low:List Nat}{wk:List (Nat×Nat)}
  (h:St w (zb ko kl kw bl N oa oc wa wc op low wk++L)) (hN:low.length=N) (hn:n<N) (ho:op.length<N) (hw:wk.length<N) (hb:N*24<=140737488355328):
  ρ 383 [iI (n:Int),vP (some (aM ko)),vP (some (aM kl)),vP (some (aM kw))] w λv w'=>v=.tuple (Array.mk [])/\
   ∃oa oc wa wc,St w' (zb ko kl kw bl N oa oc wa wc (op++[n]) (low.set n (op.length+1)) (wk++[(n,0)])++L):=by
 refine@za (n:Int) (aM ko) (aM kl) (aM kw) w _ ?_;refine⟨_,_,_,(af 0 h.l).cell0 sZZ,ag h λk3 w1 h=>?_⟩;refine(aS aT (rfl:ai Ty _=.slice _) (rfl:ai Ty _=.slice _) rfl rfl rfl (h.pick 7 [0,2,1,3,4,5,6]) rfl (by simp[aK]) (by grind) ω).mono ?_;rintro _ w2⟨U,u,rfl,h⟩;rw[Xi] at h;refine⟨_,_,_,rfl,aR (h.pick 7 [2,0,3,4,5,6]) σ λY h=>?_⟩;refine⟨_,_,_,(af 2 h.l).cell0 sZZ,_,_,_,(af 0 h.l).cell0 sZZ,ax rfl hn ?_⟩;rw[ak];refine aR (h.pick 6 [3,0,1,2,4,5]) (by simp_all[dS]) λZ h=>?_;refine⟨_,_,_,(af 4 h.l).cell0 sZZ,ag h λW X h=>?_⟩;refine(aS aT (rfl:ai Ty _=.slice _) (rfl:ai Ty _=.slice _) rfl rfl rfl (h.pick 7 [0,6,1,2,3,4,5]) rfl (by simp[aK]) (by grind) ω).mono ?_;rintro _ w6⟨O,J,rfl,h⟩;refine⟨_,_,_,rfl,aR (h.pick 7 [6,0,2,3,4,5]) σ λw7 h=>⟨rfl,U,u,O,J,?_⟩⟩;have V:(op++[n]).length=op.length+1:=σ
 have l2:(wk++[(n,0)]).length=wk.length+1:=σ
 unfold zb;rw[V,l2,<-B7,<-OP];exact h.pick 6 [3,4,5,2,0,1]
end
section
variable{w:aiA}{L:List aE}
theorem Ch{l:List (Nat×Nat)}:∀{i n k:Nat},l[i]? =some (n,k)->(Qq l)[i*2]? =some (iI (n:Int))/\(Qq l)[i*2+1]? =some (iI (k:Int)):=by
 induction l with
 |nil=>simp
 |cons x l ih=>
  intro i n k h;have e:Qq (x::l)=iI (x.1:Int)::iI (x.2:Int)::Qq l:=rfl;rw[e];cases i with
  |zero=>simp_all
  |succ i=>
   grind
theorem Xz{l:List (Nat×Nat)}:∀{i n k:Nat}(k':Nat),l[i]? =some (n,k)->(Qq l).set (i*2+1) (iI (k':Int))=Qq (l.set i (n,k')):=by
 induction l with
 |nil=>simp
 |cons x l ih=>
  intro i n k k' h;have e:Qq (x::l)=iI (x.1:Int)::iI (x.2:Int)::Qq l:=rfl;rw[e];cases i with
  |zero=>simp at h;subst h;rfl
  |succ i=>
   simp only[aic] at h;rw[show(i+1)*2+1=(i*2+1)+1+1 from ω,List.set_cons_succ,List.set_cons_succ,ih k' h];rfl
theorem St.afB{M Q L:List aE}(h:St w (M++(Q++L))):St w (Q++(M++L)):=h.perm (by
 rw[<-ag3,<-ag3];exact List.perm_append_comm.append_right L)
theorem XA(xs:List Nat):dS xs=iv (xs.map Int.ofNat):=by simp[dS,iv]
end
def dZ(S:List cX.Sc):List (Nat×Nat):=(S.map λs=>(s.1,s.2.1)).reverse
theorem dR(n k:Nat)(r:List Nat)(t:List cX.Sc):dZ ((n,k,r)::t)=dZ t++[(n,k)]:=by simp[dZ]
theorem HO:∀(S:List cX.Sc),(dZ S).length<=(cX.aU S).length
 |[]=>by simp[dZ,cX.aU]
 |(n,k,r)::t=>by
  have:=HO t
  grind[dR,cX.da,List.length_append]
def lf(low:List Nat)(v:Nat):Nat:=low.getD v 0
theorem rK{low:List Nat}{i x:Nat}(h:i<low.length):lf (low.set i x)=cX.Gz (lf low) i x:=by
 funext j
 unfold lf cX.Gz
 grind
theorem HP{low:List Nat}{i:Nat}(h:i<low.length):low[i]? =some (lf low i):=by simp_all[lf]
def AM(mp:List (Int×Value)):List cX.Sc->Prop
 |[]=>True
 |(n,_,_)::t=>assoc (n:Int) mp=some (.int .i64 (((cX.aU t).length+1:Nat):Int))/\AM mp t
theorem AM.put{mp:List (Int×Value)}{m:Nat}{v:Value}:∀(S:List cX.Sc),AM mp S->(∀s∈S,s.1≠m)->AM (cV (m:Int) v mp) S
 |[],_,_=>trivial
 |(n,k,r)::t,⟨h1,h2⟩,hn=>by
  refine⟨?_,AM.put t h2 λs hs=>hn s (by grind)⟩
  have:=hn (n,k,r) σ
  rw[ft,agW ω]
  omega
theorem adG{S:List cX.Sc}:∀s∈S,s.1∈cX.aU S:=by
 induction S with
 |nil=>simp
 |cons x t ih=>
  obtain⟨n,k,r⟩:=x;intro s u
  rcases ag6.1 u with rfl|u
  ·simp[cX.aU]
  grind[cX.aU]
def En(es:List (List Int))(n:Nat):List Nat:=(es.getD n []).map Int.toNat
def HQ(es:List (List Int)):Prop:=∀l∈es,∀x∈l,0<=x/\x<(es.length:Int)
theorem XB{es:List (List Int)}{n:Nat}{l:List Int}(h:es[n]? =some l):En es n=l.map Int.toNat:=by simp_all[En]
theorem acP{es:List (List Int)}(hR:HQ es){n m:Nat}(h:m∈En es n):m<es.length:=by
 unfold En at h;rw[agU] at h;cases hl:es[n]? with
 |none=>simp_all
 |some l=>
  rw[hl] at h;obtain⟨x,u,rfl⟩:=agY.1 h;have:=hR l (agL hl) x u;omega
def qT(low:List Nat)(n:Nat):List cX.Sc->List Nat
 |[]=>low
 |(u,_,_)::_=>low.set u (min (lf low u) (lf low n))
def lx(x:Nat)(low:List Nat)(g:List Nat):List Nat:=g.foldl (λl m=>l.set m x) low
theorem AN(x:Nat):∀(g low:List Nat),(lx x low g).length=low.length
 |[],_=>rfl
 |m::g,low=>by show(lx x (low.set m x) g).length=_;rw[AN x g];simp
theorem OQ(x:Nat)(low g:List Nat)(m:Nat):lx x low (g++[m])=(lx x low g).set m x:=by simp[lx]
theorem KU(x:Nat):∀(g low:List Nat),(∀m∈g,m<low.length)->lf (lx x low g)=λv=>if v∈g then x else lf low v
 |[],_,_=>by rfl
 |m::g,low,h=>by
  have:=KU x g (low.set m x) (λy hy=>by simp_all)
  grind[lf,lx,rK,cX.Gz]
structure WD where
 S:List cX.Sc
 low:List Nat
 gs:List (List Nat)
 mp:List (Int×Value)
 oa:aiz
 oc:Nat
 wa:aiz
 wc:Nat
section
variable{w:aiA}{L:List aE}{es:List (List Int)}{a:aiz}{N c l:Nat}{d:FuncId}{e:List Value}{Q:List (List Nat)->List aE}
theorem OR{xs:List Int}(hr:aX (hp w) xs a l)(hb:xs.length*8<=140737488355328)(hb2:xs.length<=9223372036854775807):ρ 115 [vS a l c] w λv w'=>∃o c',v=vS o xs.length c'/\St w' (own 1 o xs.length c' (iv xs)::all w):=by
 refine iQ ?_;have hl:=hr.1;cases a with
 |none=>
  have h0:xs=[]:=by
   cases xs with
   |nil=>rfl
   |cons t ts=>obtain⟨J,_,e,_⟩:=hr.2 0 t rfl;grind
  subst h0;exact⟨none,0,rfl,aI 1 (St.all w)⟩
 |some J=>
  refine ag (St.all w) λb X O=>?_;have Y:St X (own 1 (some ⟨b,0,none⟩) 0 0 []::all w):=bg (cs:=[]) O rfl rfl (agT _);have hr:=hr.mono O.aP
  refine(ji aT (rfl:ai Ty _=.slice _) rfl rfl rfl Y (n:=l) (news:=iv xs) (gA aT (rfl:ai Ty _=.slice _) (by rw[cf,hl,ahH]) (by
    rcases hr.iv with h0|⟨U,e,hc⟩
    ·simp_all
    ·cases e;exact .inr ⟨J,rfl,λj u V=>jI (hc j u V)⟩) (by
   intro u W;obtain⟨t,_,rfl⟩:=agY.1 W;rfl)) (by simp_all) ω).mono ?_
  grind
def WDI(ko kl kw bl km N fr:Nat)(es:List (List Int))(Q:List (List Nat)->List aE)(L:List aE)(x:WD)(w:aiA):Prop:=
 x.low.length=N/\cX.Inv (En es) N (lf x.low) x.S x.gs/\(∀v,v<=fr->lf x.low v≠0)/\AM x.mp x.S/\
  St w (zb ko kl kw bl N x.oa x.oc x.wa x.wc (cX.aU x.S) x.low (dZ x.S)++(mapA km x.mp::(Q x.gs++L)))
def acQ(d:FuncId)(e:List Value)(es:List (List Int))(Q:List (List Nat)->List aE):Prop:=
 ∀(gs:List (List Nat))(g:List Nat)(F:List aE)(w:aiA)(o:aiz)(gc:Nat),cX.Good (En es) (gs++[g])->(∀v∈(gs++[g]).flatten,v<es.length)->
  St w (own 1 o g.length gc (dS g)::(Q gs++F))->ρ d (vS o g.length gc::e) w λv w'=>v=.tuple (Array.mk [])/\St w' (Q (gs++[g])++F)
theorem adH(hfl:Fn d=true)(hD:acQ d e es Q)(hE:∀gs h,aF (Q gs++L) h->aX h es a N)(hR:HQ es)(hB:∀l∈es,l.length*8<=140737488355328)(hb:N*24<=140737488355328)(h:St w (Q []++L)):
  ρ 347 [vS a N c,.func (.func d) (Array.mk []) ⟨e⟩] w λv w'=>v=.tuple (Array.mk [])/\∃gs,cX.Good (En es) gs/\(∀v,v∈gs.flatten↔v<N)/\St w' (Q gs++L):=by
 refine@D5 a N c d e w _ ?_;have hN:es.length=N:=(hE [] _ h.l).1;refine⟨⟨ω,rfl,ω⟩,ag h λY w1 h=>ag h λkl w2 h=>aR h σ λw3 h=>⟨ξ,ag h λko w4 h=>ag h λkw w5 h=>?_⟩⟩
 have h:St w5 (zb ko kl kw Y N none 0 none 0 [] (List.replicate N 0) []++(Q []++L)):=by
  have e1:gD (Int.toNat (N:Int)) [iI 0]=dS (List.replicate N 0):=by simp[cZ,dS]
  rw[e1] at h;have h:=aI 2 (aI 1 h);exact h.pick 6 [3,1,4,5,2,0]
 refine⟨λz w'=>∃k:Nat,z=k/\k<=N/\∃gs low oa oc wa wc,low.length=N/\cX.Inv (En es) N (lf low) [] gs/\(∀v,v<k->lf low v≠0)/\St w' (zb ko kl kw Y N oa oc wa wc [] low []++(Q gs++L)),
  λz _=>N-z.toNat,⟨0,rfl,agP _,[],List.replicate N 0,none,0,none,0,σ,?_,λv X=>ω,h⟩,?_⟩
 ·have:lf (List.replicate N 0)=λ_=>0:=by grind[lf]
  simp_all[cX.Inv.start]
 rintro _ z w6⟨k,rfl,hk,gs,low,oa,oc,wa,wc,hl,hI,hs,h⟩;refine ae (λh1=>?_) λh1=>?_
 rotate_left
 ·have h1:k=N:=by grind
  subst h1
  refine⟨rfl,gs,hI.good,λv=>⟨λX=>hI.lt v (by simp_all),λX=>?_⟩,?_⟩
  ·have:=hI.seen X (hs v X)
   simp_all[cX.aU]
  ·exact h.tail.tail.tail.tail.tail.tail
 have h1:k<N:=by simp_all
 refine⟨_,_,_,(af 2 h.l).cell0 sZZ,ax rfl h1 ⟨_,(af 3 h.l).cell sZZ (j:=k) (lr (HP ω)),?_⟩⟩
 refine ae (λh2=>?_) λh2=>?_
 ·have h2:=agQ h2;refine⟨ξ,⟨k+1,rfl,h1,gs,low,oa,oc,wa,wc,hl,hI,λv X=>?_,h⟩,bR h1⟩
  grind
 have h2:lf low k=0:=by simp_all
 refine nS h λkm w7 h=>?_;have h:=dW (κ:=Int) h;refine⟨_,_,_,(af 1 h.l).cell0 sZZ,⟨σ,σ⟩,(dr (κ:=Int) aT (rfl:ai Ty _=.map _ _) bL h (k:Int) _).mono ?_⟩;rintro _ w8 h;refine(S9 (n:=k) (h.pick 7 [1,2,3,4,5,6,0]) hl h1 (by grind) (by grind) hb).mono ?_;rintro _ w9⟨rfl,oa,oc,wa,wc,h⟩
 refine⟨rfl,λw'=>∃x,WDI ko kl kw Y km N k es Q L x w',λw'=>V4 (WDI ko kl kw Y km N k es Q L) (λx=>cX.todo (En es) N (lf x.low) x.S) w',?_,?_⟩
 ·refine⟨⟨[(k,0,[])],low.set k 1,gs,_,oa,oc,wa,wc⟩,by grind,?_,?_,?_,h⟩
  ·show cX.Inv _ _ (lf (low.set k 1)) _ _
   rw[rK ω];exact hI.root h1 h2
  ·intro v X
   show lf (low.set k 1) v≠0
   rw[rK ω]
   grind[ev,cX.bU,cX.eF]
  ·exact⟨by simp[assoc,cX.aU],trivial⟩
 intro _ d8 hw;obtain⟨⟨S,bc,V,mp,oa,oc,wa,wc⟩,⟨cd,a8,c8,hM,h⟩,hm⟩:=B5 hw;simp only at cd a8 c8 hM h hm;refine⟨_,_,_,(af 4 h.l).cell0 sZZ,?_⟩;refine ae (λh3=>?_) λh3=>?_
 rotate_left
 ·have h3:=agO h3;cases S with
  |cons x t=>grind[dR]
  |nil=>
   refine⟨ξ,⟨k+1,rfl,h1,V,bc,oa,oc,wa,wc,cd,a8,λv X=>c8 v ω,?_⟩,bR h1⟩;exact h.pick 7 [0,1,2,3,4,5]
 cases S with
 |nil=>have h3:=agQ h3;simp_all[dZ]
 |cons x t=>
 obtain⟨n,k0,r⟩:=x;have eL:=a8.len;have fd:=HO ((n,k0,r)::t);have g5:(dZ ((n,k0,r)::t)).length=(dZ t).length+1:=by simp[dR]
 have Z:n<N:=a8.lt n (by simp[cX.aU]);obtain⟨fz,b1,_⟩:=cO (h.pick 7 [5,0,1,2,3,4,6]) (j:=(dZ t).length*2) (Ch (i:=(dZ t).length) (n:=n) (k:=k0) (by simp[dR])).1;refine⟨_,_,_,(af 4 h.l).cell0 sZZ,_,_,_,(af 4 h.l).cell0 sZZ,ξ,?_⟩;have ei:((dZ ((n,k0,r)::t)).length:Int)-1=((dZ t).length:Int):=ω
 rw[ei];refine aO b1 ω ?_;rw[bh]
 --the steps of one node
 let P2:Nat×List Nat->aiA->Prop:=λp w'=>p.2.length=N/\cX.Inv (En es) N (lf p.2) ((n,p.1,r)::t) V/\(∀v,v<=k->lf p.2 v≠0)/\cX.todo (En es) N (lf p.2) ((n,p.1,r)::t)<=V4 (WDI ko kl kw Y km N k es Q L) (λx=>cX.todo (En es) N (lf x.low) x.S) d8/\
  St w' (zb ko kl kw Y N oa oc wa wc (cX.aU ((n,p.1,r)::t)) p.2 (dZ ((n,p.1,r)::t))++(mapA km mp::(Q V++L)))
 refine⟨λw'=>∃p,P2 p w',λw'=>V4 P2 (λp=>(En es n).length-p.1) w',⟨(k0,bc),cd,a8,c8,by rw[<-hm];simp,h⟩,?_⟩;intro _ g7 hw;obtain⟨⟨j,J⟩,⟨c9,O,d4,b4,h⟩,em⟩:=B5 (f:=λp=>(En es n).length-p.1) hw;simp only at c9 O d4 b4 h em;intro a6 hd;have h:=h.eq (aQ hd);obtain⟨el,av⟩:∃el,es[n]? =some el:=⟨es[n]'ω,agM _⟩;have ge:=XB av;have ey:aX (hp a6) es a N:=hE V _ h.tail.tail.tail.tail.tail.tail.tail.l;obtain⟨gu,g8,ev,be,ch,am,o6,l6,c6,rfl,f2,b6⟩:=ey.get (i:=n) Z;rw[av] at be;cases be;rw[bh,show n*uj.n (List Int)=n from ahH n] at am;have f4:el.length=l6:=b6.1;have eS:(En es n).length=l6:=by simp_all
 have eX:j<=(En es n).length:=O.ok.1.le;have f9:=hB el (agL av);have cg:(dZ ((n,j,r)::t))[(dZ t).length]? =some (n,j):=by simp[dR]
 have f8:(dZ ((n,j,r)::t)).length=(dZ t).length+1:=by simp[dR]
 obtain⟨eP,bi,c5⟩:=cO (h.pick 7 [5,0,1,2,3,4,6]) (Ch cg).1;obtain⟨eu,a7,b2⟩:=cO (h.pick 7 [5,0,1,2,3,4,6]) (Ch cg).2;rw[b1] at bi a7;cases bi;cases a7;rw[<-add_add] at b2;have cw:∀{u:aiA}{ad:Addr}{v:Value},hp u=hp a6->a6.cell? ad=some v->u.cell? ad=some v:=λW h=>by grind[cG]
 refine⟨λu=>hp u=hp a6,rfl,(j:Int),λu W=>cw W b2,(n:Int),λu W=>cw W c5,ax ch Z ⟨o6,l6,c6,λu W=>cw W (am.cell0 sZZ),?_⟩⟩
 refine ae (λh4=>?_) λh4=>?_
 ·have h4:j<l6:=by simp_all
  intro cW cp;have h:=h.eq (aQ cp);have dl:=aQ cp;obtain⟨mI,cu⟩:∃mI,el[j]? =some mI:=⟨el[j]'ω,agM _⟩;obtain⟨m,rfl⟩:∃m:Nat,mI=(m:Int):=⟨mI.toNat,by have:=hR el (agL av) mI (agL cu);omega⟩;have aa:(En es n)[j]? =some m:=by simp_all
  have a4:m<N:=by have:=acP hR (agL aa);omega
  obtain⟨f3,ck,et⟩:=b6.at cu;have cw:∀{u:aiA}{ad:Addr}{v:Value},hp u=hp cW->a6.cell? ad=some v->u.cell? ad=some v:=λW h=>cw (W.trans dl) h;refine⟨λu=>hp u=hp cW,rfl,(n:Int),λu W=>cw W c5,ax ch Z ⟨o6,l6,c6,λu W=>cw W (am.cell0 sZZ),(j:Int),λu W=>cw W b2,ax ck h4 ⟨(m:Int),λu W=>et u (by simp_all[sub.refl]),(j:Int),cw rfl b2,ξ,?_⟩⟩⟩;rw[add_add];refine fX (h.pick 7 [5,0,1,2,3,4,6]) b1 (by grind[Mo]) λeD h=>?_;have ej:((j:Int)+1)=((j+1:Nat):Int):=by rfl
  rw[ej,Xz (j+1) cg] at h
  have h:St eD (zb ko kl kw Y N oa oc wa wc (cX.aU ((n,j+1,r)::t)) J (dZ ((n,j+1,r)::t))++(mapA km mp::(Q V++L))):=by
   have e1:(dZ ((n,j,r)::t)).set (dZ t).length (n,j+1)=dZ ((n,j+1,r)::t):=by simp[dR]
   have e2:(dZ ((n,j+1,r)::t)).length=(dZ ((n,j,r)::t)).length:=by grind
   rw[e1] at h;unfold zb;rw[e2];exact h.pick 7 [1,2,3,4,5,0,6]
  have bT:=O.len;have cz:lf J m=0->m∉cX.aU ((n,j,r)::t):=λh0 hm=>(O.un m a4).1 h0 (by simp_all);refine⟨_,_,_,(af 2 h.l).cell0 sZZ,ax rfl a4 ⟨_,(af 3 h.l).cell sZZ (j:=m) (lr (HP ω)),?_⟩⟩
  refine ae (λh5=>?_) λh5=>?_
  ·have h5:lf J m=0:=by simp_all
   have cc:(cX.aU ((n,j+1,r)::t)).length<N:=by
    have h6:=O.push aa a4 h5;have h7:=h6.len;have e1:cX.aU ((m,0,[])::(n,j+1,r)::t)=cX.aU ((n,j+1,r)::t)++[m]:=rfl
    grind
   have eK:=HO ((n,j+1,r)::t);refine⟨_,_,_,(af 0 h.l).cell0 sZZ,ξ,(dr (κ:=Int) aT (rfl:ai Ty _=.map _ _) bL (h.pick 7 [6,0,1,2,3,4,5]) (m:Int) _).mono ?_⟩;rintro _ fc h;refine(S9 (n:=m) (h.pick 7 [1,2,3,4,5,6,0]) c9 a4 cc ω hb).mono ?_;rintro _ d0⟨rfl,dF,d7,er,e8,h⟩
   have U:WDI ko kl kw Y km N k es Q L ⟨(m,0,[])::(n,j+1,r)::t,J.set m ((cX.aU ((n,j+1,r)::t)).length+1),V,cV (m:Int) (iI (((cX.aU ((n,j+1,r)::t)).length:Int)+1)) mp,dF,d7,er,e8⟩ d0:=by
    refine⟨by simp_all,?_,?_,⟨?_,?_⟩,?_⟩
    ·show cX.Inv _ _ (lf (J.set m _)) _ _
     rw[rK ω];exact O.push aa a4 h5
    ·intro v X
     show lf (J.set m _) v≠0
     rw[rK ω]
     grind[ev,cX.bU,cX.eF]
    ·show assoc _ (cV _ _ _)=_
     rw[ft,ag0 rfl];rfl
    ·exact AM.put ((n,j+1,r)::t) hM λs hs e=>cz h5 (by rw[<-e];exact adG (S:=(n,j+1,r)::t) s hs)
    ·have e1:dZ ((m,0,[])::(n,j+1,r)::t)=dZ ((n,j+1,r)::t)++[(m,0)]:=dR _ _ _ _
     show St d0 (zb _ _ _ _ _ _ _ _ _ (cX.aU ((n,j+1,r)::t)++[m]) _ (dZ ((m,0,[])::(n,j+1,r)::t))++_)
     rw[e1];exact h
   refine⟨rfl,⟨_,U⟩,?_⟩;have l1:=AA (f:=λx=>cX.todo (En es) N (lf x.low) x.S) U;have l2:=cX.UZ O aa a4 h5 ((cX.aU ((n,j+1,r)::t)).length+1) ω
   grind[rK,Nat.lt_of_le_of_lt,Nat.lt_of_lt_of_le]
  ·have h5:lf J m≠0:=λe=>by simp_all
   intro bP cN;have h:=h.eq (aQ cN);have cL:∀u,hp u=hp bP->u.cell? (aM kl)=some (vS (some (aM Y)) N N):=λu W=>by rw[cG W];exact(af 2 h.l).cell0 sZZ
   have cI:∀u,hp u=hp bP->∀v,v<N->u.cell? ((aM Y).add v)=some (iI (lf J v:Int)):=λu W v X=>by rw[cG W];exact(af 3 h.l).cell sZZ (j:=v) (lr (HP ω))
   have fS:=aQ cN;have cF:(dZ ((n,j+1,r)::t))[(dZ t).length]? =some (n,j+1):=by simp[dR]
   obtain⟨eT,b7,g9⟩:=cO (h.pick 7 [5,0,1,2,3,4,6]) (Ch cF).1;rw[b1] at b7;cases b7;refine⟨λu=>hp u=hp bP,rfl,_,_,_,cL,(n:Int),λu W=>by grind[cG],_,_,_,cL,(n:Int),λu W=>by grind[cG],ax rfl Z ⟨_,λu W=>cI u W n Z,_,_,_,cL,ax rfl a4 ⟨_,λu W=>cI u W m a4,ax rfl Z ?_⟩⟩⟩;rw[ak];have al:(if(lf J m:Int)<(lf J n:Int) then(lf J m:Int) else(lf J n:Int))=((min (lf J n) (lf J m):Nat):Int):=ω
   rw[al];refine aR (h.pick 7 [3,0,1,2,4,5,6]) (by simp_all[dS]) λef h=>?_;rw[B7] at h
   have U:P2 (j+1,J.set n (min (lf J n) (lf J m))) ef:=by
    have a0:=rK (low:=J) (i:=n) (x:=min (lf J n) (lf J m)) ω;have e0:=O.look aa a4 h5
    refine⟨by simp_all,?_,?_,?_,h.pick 7 [1,2,3,0,4,5,6]⟩
    ·simp_all
    ·intro v X
     show lf (J.set n _) v≠0
     rw[a0]
     by_cases ev:v=n
     ·simp_all[cX.bU]
     simp_all[cX.eF]
    ·show cX.todo _ _ (lf (J.set n _)) _<=_
     rw[a0];refine ahq ?_ b4;unfold cX.todo
     rw[cX.DX (low:=lf J)]
     ·simp only[ahw,List.sum_cons];omega
     ·intro v X
      by_cases ev:v=n
      ·simp_all[cX.bU]
      grind[cX.eF]
   refine⟨⟨_,U⟩,?_⟩;have l1:=AA (f:=λp=>(En es n).length-p.1) U
   grind
 ·have h4:j=(En es n).length:=by grind
  have bT:=O.len;refine⟨(n:Int),c5,_,_,_,(af 4 h.l).cell0 sZZ,_,_,_,(af 4 h.l).cell0 sZZ,ξ,?_⟩;have ei:((dZ ((n,j,r)::t)).length:Int)-1=((dZ t).length:Int):=ω
  have eY:=bD (h.pick 7 [5,0,1,2,3,4,6]);rw[ei];refine iH ω (aR (h.pick 7 [4,0,1,2,3,5,6]) σ λeG h=>?_);have h:=qS (h.pick 7 [5,0,1,2,3,4,6]) (k:=(dZ t).length) ω
  have ca:(Qq (dZ ((n,j,r)::t))).take ((dZ t).length*2)=Qq (dZ t):=by
   rw[dR,<-OP,<-Mo,List.take_left'];rfl
  rw[ca] at h;have h:St eG (zb ko kl kw Y N oa oc (fK wa 0 wc 2) wc (cX.aU ((n,j,r)::t)) J (dZ t)++(mapA km mp::(Q V++L))):=h.pick 7 [2,3,4,5,1,0,6]
  --the one below takes over
  refine⟨λw'=>St w' (zb ko kl kw Y N oa oc (fK wa 0 wc 2) wc (cX.aU ((n,j,r)::t)) (qT J n t) (dZ t)++(mapA km mp::(Q V++L))),⟨_,_,_,(af 4 h.l).cell0 sZZ,?_⟩,?_⟩
  ·refine ae (λh5=>?_) λh5=>?_
   rotate_left
   ·have h5:=agO h5;cases t with
    |nil=>exact h
    |cons x t=>grind[dR]
   ·cases t with
    |nil=>have h5:=agQ h5;simp_all[dZ]
    |cons x t=>
    obtain⟨u,ku,ru⟩:=x;have a5:u<N:=O.lt u (by simp[cX.aU]);have ep:(dZ ((u,ku,ru)::t))[(dZ t).length]? =some (u,ku):=by simp[dR]
    have f5:(dZ ((u,ku,ru)::t)).length=(dZ t).length+1:=by simp[dR]
    obtain⟨eU,cx,e7⟩:=cO (h.pick 7 [5,0,1,2,3,4,6]) (Ch ep).1;have eB:((dZ ((u,ku,ru)::t)).length:Int)-1=((dZ t).length:Int):=ω
    refine⟨_,_,_,(af 4 h.l).cell0 sZZ,_,_,_,(af 4 h.l).cell0 sZZ,ξ,?_⟩;rw[eB];refine aO cx ω ?_;rw[bh];refine⟨(u:Int),e7,?_⟩;intro c7 eI;have h:=h.eq (aQ eI);have cL:∀v,hp v=hp c7->v.cell? (aM kl)=some (vS (some (aM Y)) N N):=λu W=>by rw[cG W];exact(af 2 h.l).cell0 sZZ
    have cI:∀u,hp u=hp c7->∀v,v<N->u.cell? ((aM Y).add v)=some (iI (lf J v:Int)):=λu W v X=>by rw[cG W];exact(af 3 h.l).cell sZZ (j:=v) (lr (HP ω))
    refine⟨λu=>hp u=hp c7,rfl,_,_,_,cL,_,_,_,cL,ax rfl a5 ⟨_,λv X=>cI v X u a5,_,_,_,cL,ax rfl Z ⟨_,λv X=>cI v X n Z,ax rfl a5 ?_⟩⟩⟩;rw[ak];have al:(if(lf J n:Int)<(lf J u:Int) then(lf J n:Int) else(lf J u:Int))=((min (lf J u) (lf J n):Nat):Int):=ω
    rw[al];refine aR (h.pick 7 [3,0,1,2,4,5,6]) (by simp_all[dS]) λgg h=>?_;rw[B7] at h;exact h.pick 7 [1,2,3,0,4,5,6]
  ·intro _ gc h bz e3;have h:=h.eq (aQ e3);obtain⟨fs,go,f6,f7⟩:=O.adC;have e6:(qT J n t).length=N:=by cases t<;>simp[qT,c9]
   have ci:lf (qT J n t) n=lf J n:=by
    cases t with
    |nil=>rfl
    |cons x t=>
     obtain⟨u,ku,ru⟩:=x;have a5:u<N:=O.lt u (by simp[cX.aU])
     show lf (J.set u _) n=_
     simp_all[rK,cX.eF,cX.aU]
   obtain⟨d9,d3⟩:=hM;have lk:=λ{w':aiA}{L':List aE}(h:St w' (mapA km mp::L'))=>cr (κ:=Int) (P:=Tryz.prog) (z:=iI 0) aT (rfl:ai Ty dM=.map _ _) bL rfl rfl h (n:Int);rw[d9] at lk;have cL:∀v,hp v=hp bz->v.cell? (aM kl)=some (vS (some (aM Y)) N N):=λu W=>by rw[cG W];exact(af 2 h.l).cell0 sZZ
   have cI:∀u,hp u=hp bz->∀v,v<N->u.cell? ((aM Y).add v)=some (iI (lf (qT J n t) v:Int)):=λu W v X=>by rw[cG W];exact(af 3 h.l).cell sZZ (j:=v) (lr (HP ω))
   refine⟨λu=>hp u=hp bz,rfl,_,_,_,cL,ax rfl Z ⟨_,λv X=>cI v X n Z,(lk (h.pick 7 [6,0,1,2,3,4,5])).mono ?_⟩⟩;rintro _ cC⟨rfl,rfl⟩;refine⟨_,rfl,rfl,?_⟩;rw[ci];have cc:(cX.aU ((n,j,r)::t)).length=(cX.aU t).length+1+r.length:=cX.da
   refine ae (λh6=>?_) λh6=>?_
   ·have h6:lf J n=(cX.aU t).length+1:=by grind
    have hP:=O.pop h4 h6;have eC:∀v∈n::r,v<N:=λv X=>O.lt v (by grind[cX.aU])
    have a9:qT J n t=J\/lf (qT J n t)=lf J:=by
     cases t with
     |nil=>exact .inl rfl
     |cons x t=>
      obtain⟨u,ku,ru⟩:=x;have a5:u<N:=O.lt u (by simp[cX.aU]);right
      show lf (J.set u _)=_
      rw[rK ω,O.agv h6]
      funext v;simp_all[cX.Gz]
    have a9:lf (qT J n t)=lf J:=by grind
    have bb:=bD (h.pick 7 [1,0,2,3,4,5,6]);refine⟨_,_,_,(af 0 h.l).cell0 sZZ,(lk (h.pick 7 [6,0,1,2,3,4,5])).mono ?_⟩;rintro _ eA⟨rfl,rfl⟩;have eb:((((cX.aU t).length+1:Nat):Int)-1)=((cX.aU t).length:Int):=ω
    refine⟨_,rfl,ξ,?_⟩;rw[eb];have ez:aX (hp eA) ((cX.aU ((n,j,r)::t)).map Int.ofNat) oa (cX.aU ((n,j,r)::t)).length:=bt σ (by rw[<-XA];exact dN 1 h.l);have d6:=ez.drop (k:=(cX.aU t).length) (m:=oc) ω bb;have ea:((cX.aU ((n,j,r)::t)).map Int.ofNat).drop (cX.aU t).length=(n::r).map Int.ofNat:=by simp[cX.aU,List.drop_left']
    rw[ea] at d6;have g6:(cX.aU ((n,j,r)::t)).length-(cX.aU t).length=(n::r).length:=by rw[cc];grind
    refine dy ω bb ((OR d6 (by grind) (by grind)).mono ?_);rintro _ fC⟨b3,b5,rfl,e5⟩;have h:=e5.eM h;have cT:((n::r).map Int.ofNat).length=(n::r).length:=σ
    rw[cT,<-XA] at h;refine⟨_,_,_,by rw[cT],_,_,_,(af 1 h.l).cell0 sZZ,(lk (h.pick 8 [7,0,1,2,3,4,5,6])).mono ?_⟩;rintro _ g0⟨rfl,rfl⟩;refine⟨_,rfl,ξ,?_⟩;rw[eb];refine iH ω (aR (h.pick 8 [1,0,2,3,4,5,6,7]) σ λe4 h=>?_);have h:=qS (h.pick 8 [2,0,1,3,4,5,6,7]) (k:=(cX.aU t).length) ω;have ca:(dS (cX.aU ((n,j,r)::t))).take ((cX.aU t).length*1)=dS (cX.aU t):=by simp[dS,cX.aU,List.take_left']
    rw[ca] at h;have h:St e4 (own 1 b3 (n::r).length b5 (dS (n::r))::(zb ko kl kw Y N (fK oa 0 oc 1) oc (fK wa 0 wc 2) wc (cX.aU t) (qT J n t) (dZ t)++(mapA km mp::(Q V++L)))):=h.pick 8 [2,1,0,3,4,5,6,7]
    refine⟨λz w'=>∃i:Nat,z=i/\i<=(n::r).length/\St w' (own 1 b3 (n::r).length b5 (dS (n::r))::(zb ko kl kw Y N (fK oa 0 oc 1) oc (fK wa 0 wc 2) wc (cX.aU t) (lx (N+1) (qT J n t) ((n::r).take i)) (dZ t)++(mapA km mp::(Q V++L)))),
     λz _=>(n::r).length-z.toNat,⟨0,rfl,agP _,h⟩,?_⟩
    rintro _ z d5⟨i,rfl,hi,h⟩
    refine ae (λh7=>?_) λh7=>?_
    ·have h7:i<(n::r).length:=by grind
     obtain⟨v,X⟩:∃v,(n::r)[i]? =some v:=⟨(n::r)[i],agM _⟩;have dc:=eC v (agL X);obtain⟨fL,eg,e9⟩:=cO h (lr X);refine ax eg h7 ⟨_,e9,_,_,_,(af 3 h.l).cell0 sZZ,ax rfl dc ?_⟩;rw[ak];have eN:((N:Int)+1)=((N+1:Nat):Int):=by rfl
     rw[eN];refine aR (h.pick 8 [4,0,1,2,3,5,6,7]) (by grind[dS,AN]) λfw h=>⟨ξ,⟨i+1,rfl,h7,?_⟩,bR h7⟩;rw[B7] at h;rw[agR,X,ahS,OQ];exact h.pick 8 [1,2,3,4,0,5,6,7]
    ·have h7:i=(n::r).length:=by grind
     subst h7;rw[ag9] at h;refine a_.2 ⟨hfl,?_⟩;let M':=zb ko kl kw Y N (fK oa 0 oc 1) oc (fK wa 0 wc 2) wc (cX.aU t) (lx (N+1) (qT J n t) (n::r)) (dZ t)++[mapA km mp]
     have eo:(M'++(Q V++L)).Perm (Q V++(M'++L)):=by
      rw[<-ag3,<-ag3];exact List.perm_append_comm.append_right L
     have h8:St d5 (own 1 b3 (n::r).length b5 (dS (n::r))::(Q V++(M'++L))):=h.perm (List.Perm.cons _ eo);have cA:=hD V (n::r) (M'++L) d5 b3 b5 hP.good (λv X=>by rw[hN];exact hP.lt v (List.mem_append_right _ X)) h8;refine cA.mono ?_;rintro _ ek⟨rfl,h⟩
     have ba:lf (lx (N+1) (qT J n t) (n::r))=λv=>if v∈n::r then N+1 else lf J v:=by
      rw[KU _ _ _ (λm hm=>by grind),a9]
     have U:WDI ko kl kw Y km N k es Q L ⟨t,lx (N+1) (qT J n t) (n::r),V++[n::r],mp,fK oa 0 oc 1,oc,fK wa 0 wc 2,wc⟩ ek:=by
      refine⟨by grind[lx,AN],?_,?_,d3,St.afB (M:=Q (V++[n::r])) (Q:=M') (L:=L) h⟩
      ·grind
      ·intro v X
       show lf (lx _ _ _) v≠0
       rw[ba];simp only
       split
       ·omega
       grind
     refine⟨rfl,⟨_,U⟩,?_⟩;have l1:=AA (f:=λx=>cX.todo (En es) N (lf x.low) x.S) U;refine Nat.lt_of_le_of_lt l1 (Nat.lt_of_lt_of_le ?_ b4)
     show cX.todo _ _ (lf (lx _ _ _)) _<_
     rw[ba];unfold cX.todo
     rw[cX.DX (low:=lf J)]
     ·grind
     ·intro v X
      show(if v∈n::r then N+1 else lf J v)=0↔lf J v=0
      split
      ·rename_i e;have h9:lf J v≠0:=λh0=>(O.un v X).1 h0 (by simp only[cX.aU,agX];exact Or.inl (Or.inr e));omega
      rfl
   ·have h6:lf J n≠(cX.aU t).length+1:=λe=>by rw[e] at h6;simp at h6
    cases t with
    |nil=>
     exfalso;have h8:=O.ok.1.top;have h9:=O.ok.1.pos n σ;simp[cX.aU] at h8 h6;omega
    |cons x t=>
    obtain⟨u,ku,ru⟩:=x;have a5:u<N:=O.lt u (by simp[cX.aU]);have a0:=rK (low:=J) (i:=u) (x:=min (lf J u) (lf J n)) ω;have dk:=O.merge h4 h6;have g4:=O.ok.2.2.1.pos u σ;have fg:=O.ok.1.pos n σ
    have U:WDI ko kl kw Y km N k es Q L ⟨(u,ku,ru++n::r)::t,qT J n ((u,ku,ru)::t),V,mp,oa,oc,fK wa 0 wc 2,wc⟩ cC:=by
     refine⟨e6,?_,?_,d3,?_⟩
     ·show cX.Inv _ _ (lf (J.set u _)) _ _
      rw[a0];exact dk
     ·intro v X
      show lf (J.set u _) v≠0
      rw[a0]
      by_cases ev:v=u
      ·subst ev;rw[cX.bU];omega
      ·rw[cX.eF ev];exact d4 v X
     ·have e1:cX.aU ((u,ku,ru++n::r)::t)=cX.aU ((n,j,r)::(u,ku,ru)::t):=by simp[cX.aU]
      show St cC (zb _ _ _ _ _ _ _ _ _ (cX.aU ((u,ku,ru++n::r)::t)) _ _++_)
      rw[e1];exact h
    refine⟨⟨_,U⟩,?_⟩;have l1:=AA (f:=λx=>cX.todo (En es) N (lf x.low) x.S) U;refine Nat.lt_of_le_of_lt l1 (Nat.lt_of_lt_of_le ?_ b4)
    show cX.todo _ _ (lf (J.set u _)) _<_
    rw[a0];unfold cX.todo
    rw[cX.DX (low:=lf J)]
    ·simp only[ahw,List.sum_cons];omega
    ·intro v X
     by_cases ev:v=u
     ·subst ev;rw[cX.bU];omega
     ·rw[cX.eF ev]
section
variable{a b:aiz}{i j k l:Nat}{A B C:Int}{w:aiA}{R:Value->WP}
theorem D8(h:new w (oC [iI 0,iI 0,zS,zS,zS,iI 0,zS] 41) λc d=>rE 49 [vP a,vB true,vS b i j] d λa b=>∃d e f g h i j k l m n o p q r s,a=vU [vG [iI d,iI e,vS f g h,vS i j k,vS l m n,iI o,vS p q r],iI s]/\bA b (aM c) [iI d,iI e,vS f g h,vS i j k,vS l m n,iI o,vS p q r] λa=>∃b d e f g h i j k l m n o p q,rA a (aM c) 7 [iI b,iI d,vS e f g,vS h i j,vS k l m,iI n,vS o p q]/\R (vU [vG [iI b,iI d,vS e f g,vS h i j,vS k l m,iI n,vS o p q],iI s]) a):ρ 12 [.pointer a,vS b i j] w R:=rv Tryz.func12 h
theorem JT{F:Bool}(h:new w (oC [iI 0,iI 0,zS,zS,zS,iI 0,zS] 41) λc d=>rEp 55 [vP a,vB F] d λe d=>∃(a:lP [(24,yV)]),br (Option.isNone e) (a true d) (rEb 57 [vP e,vS b i j] d λd c=>a (!d) c)/\∀(_:ν) d f,a d f->br d (bA f (aM c) [iI 0,iI 0,zS,zS,zS,iI 0,zS] λa=>∃b d e f g h i j k l m n o p q,rA a (aM c) 7 [iI b,iI d,vS e f g,vS h i j,vS k l m,iI n,vS o p q]/\R (vU [vG [iI b,iI d,vS e f g,vS h i j,vS k l m,iI n,vS o p q],iI 1]) a) (rEs 115 [vS b i j] f λd f g b=>new b (oC [iI 0] 3) λa b=>rS (fW1 24 [vS d f g,vS (some (aM a)) 1 1]) b λa b=>∃d f g,a=vS d f g/\τ [(31,aN)] λa g=>a 0 b/\∀(_:ν) b h,a b h->bQ (b<(f:Int)) (idx d f b 1 λd=>cLi h d λf=>rE 58 [vP e,iI f] h λd f=>∃i j,d=vU [vB i,iI j]/\br (j !=0) (bA f (aM c) [iI 0,iI 0,zS,zS,zS,iI 0,zS] λa=>∃b d e f g h i k l m n o p q r,rA a (aM c) 7 [iI b,iI d,vS e f g,vS h i k,vS l m n,iI o,vS p q r]/\R (vU [vG [iI b,iI d,vS e f g,vS h i k,vS l m n,iI o,vS p q r],iI j]) a) (br i (aA (b+1)/\nA a g (b+1) f b h) (dW1 f λa d=>nn e λf=>dLp d (f.add 2) λg=>nn e λf=>dLp d f λh=>rE 116 [vP g,vB F,vP h] a λa f=>∃g h i j,a=vU [vS g h i,iI j]/\d f/\br (j !=0) (bA f (aM c) [iI 0,iI 0,zS,zS,zS,iI 0,zS] λa=>∃b d e f g h i k l m n o p q r,rA a (aM c) 7 [iI b,iI d,vS e f g,vS h i k,vS l m n,iI o,vS p q r]/\R (vU [vG [iI b,iI d,vS e f g,vS h i k,vS l m n,iI o,vS p q r],iI j]) a) (dW1 f λa d=>nn e λf=>dLp d f λj=>nn e λf=>dLp d (f.add 1) λk=>nn e λe=>dLs d (e.add 4) λf l m=>rEs 61 [vP j] a λj n o e=>d e/\rEs 60 [vP k] e λk p q e=>d e/\rEs 117 [vS f l m] e λf l m e=>d e/\bA e (aM c) [iI 2,iI b,vS g h i,vS j n o,vS k p q,iI 0,vS f l m] λa=>∃b d e f g h i j k l m n o p q,rA a (aM c) 7 [iI b,iI d,vS e f g,vS h i j,vS k l m,iI n,vS o p q]/\R (vU [vG [iI b,iI d,vS e f g,vS h i j,vS k l m,iI n,vS o p q],iI 0]) a)))) (dW1 h λa b=>nn e λd=>dLp b d λf=>nn e λd=>dLp b (d.add 1) λg=>nn e λd=>dLp b (d.add 1) λh=>nn e λd=>dLs b (d.add 4) λe i j=>rEs 61 [vP f] a λf k l d=>b d/\rEs 60 [vP g] d λg m n d=>b d/\rEi 118 [vP h] d λh d=>b d/\aA (h-1)/\rEs 117 [vS e i j] d λe i j d=>b d/\bA d (aM c) [iI 1,iI 0,zS,vS f k l,vS g m n,iI (h-1),vS e i j] λa=>∃b d e f g h i j k l m n o p q,rA a (aM c) 7 [iI b,iI d,vS e f g,vS h i j,vS k l m,iI n,vS o p q]/\R (vU [vG [iI b,iI d,vS e f g,vS h i j,vS k l m,iI n,vS o p q],iI 0]) a))):ρ 49 [.pointer a,vB F,vS b i j] w R:=rv Tryz.func49 h ⟨[(5,[(31,aN)])],[(3,[(24,yV)])],[],[]⟩
theorem FY{b:Bool}(h:rEp 123 [vP a] w λd c=>br (Option.isNone d) (R (vP none) c) (rEp 124 [iI 0] c λe c=>rEp 125 [] c λf c=>new c (oC [vP e,vP f,vP d,vB b,zS,iI 0,vB false] 149) λa b=>R (vP (some (aM a))) b)):ρ 55 [.pointer a,vB b] w R:=rv Tryz.func55 h
theorem Cj(h:new w (oC [vP a] 141) λa c=>rEb 126 [vS b i j,vF1 127 [vP (some (aM a))]] c λc b=>R (vB !c) b):ρ 57 [.pointer a,vS b i j] w R:=rv Tryz.func57 h
theorem AP(h:dW1 w λb c=>nn a λd=>dLp c (d.add 2) λe=>nn a λd=>dLb c (d.add 3) λf=>nn a λd=>dLp c d λg=>(rE 129 [vP e,vB f,vP g,iI A] b λb d=>∃e f g h i j k l,b=vU [vG [vB e,vS f g h,vS i j k],iI l]/\c d/\new d (oC [vB false,zS,zS] 245) λb d=>c d/\bA d (aM b) [vB e,vS f g h,vS i j k] λd=>c d/\∃(c:lP [(33,yV)]),br (l !=0) (c true d) (cLb d (aM b) λa=>c (!a) d)/\∀(_:ν) d e,c d e->br d (R (vU [vB false,iI l]) e) (cLs e (Addr.add (aM b) 1) λc d f=>τ [(38,aN)] λb f=>b 0 e/\∀(_:ν) e g,b e g->bQ (e<(d:Int)) (idx c d e 2 λc=>∃d h,rA g c 2 [iI d,iI h]/\new g (oC [iI 0,iI 0] 170) λc i=>bA i (aM c) [iI d,iI h] λd=>∃h i,rA d (aM c) 2 [iI h,iI i]/\rE 130 [vP a,vG [iI h,iI i],iI A] d λa c=>a=vU []/\aA (e+1)/\nA b f (e+1) c e g) (bQ (0<A) (nn a λb=>cLi g (b.add 5) λc=>aA (c+1)/\nn a λa=>st1 g (a.add 5) (iI (c+1)) λa=>R (vU [vB true,iI 0]) a) (R (vU [vB true,iI 0]) g))))/\new b (oC [vB false,zS,zS] 245) λb d=>c d/\rE 129 [vP e,vB f,vP g,iI A] d λd e=>∃f g h i j k l m,d=vU [vG [vB f,vS g h i,vS j k l],iI m]/\c e/\bA e (aM b) [vB f,vS g h i,vS j k l] λd=>c d/\∃(c:lP [(33,yV)]),br (m !=0) (c true d) (cLb d (aM b) λa=>c (!a) d)/\∀(_:ν) d e,c d e->br d (R (vU [vB false,iI m]) e) (cLs e (Addr.add (aM b) 1) λc d f=>τ [(38,aN)] λb f=>b 0 e/\∀(_:ν) e g,b e g->bQ (e<(d:Int)) (idx c d e 2 λc=>∃d h,rA g c 2 [iI d,iI h]/\new g (oC [iI 0,iI 0] 170) λc i=>bA i (aM c) [iI d,iI h] λd=>∃h i,rA d (aM c) 2 [iI h,iI i]/\rE 130 [vP a,vG [iI h,iI i],iI A] d λa c=>a=vU []/\aA (e+1)/\nA b f (e+1) c e g) (bQ (0<A) (nn a λb=>cLi g (b.add 5) λc=>aA (c+1)/\nn a λa=>st1 g (a.add 5) (iI (c+1)) λa=>R (vU [vB true,iI 0]) a) (R (vU [vB true,iI 0]) g)))):ρ 58 [.pointer a,iI A] w R:=rv Tryz.func58 h ⟨[(5,[(38,aN)])],[(3,[(33,yV)])],[],[]⟩
theorem xv(h:br (Option.isNone a) (R (zS) w) (nn a λa=>cLs w a λb c d=>rEs 131 [vS b c d] w λc d e b=>τ [(14,aN)] λa f=>a 0 b/\∀(_:ν) b g,a b g->bQ (b<(d:Int)) (idx c d b 4 λe=>cLs g (e.add 3) λh i j=>rEs 115 [vS h i j] g λi j k h=>idx c d b 4 λc=>st1 h (c.add 3) (vS i j k) λc=>aA (b+1)/\nA a f (b+1) c b g) (R (vS c d e) g))):ρ 60 [.pointer a] w R:=rv Tryz.func60 h ⟨[(5,[(14,aN)])],[],[],[]⟩
theorem uz(h:br (Option.isNone a) (R (zS) w) (dW1 w λb c=>nn a λd=>dLi c d λe=>nn a λa=>dLs c (a.add 1) λd f g=>new b (oC [iI e] 3) λa b=>c b/\rS (fW1 24 [vS (some (aM a)) 1 1,vS d f g]) b λa b=>∃d e f,a=vS d e f/\c b/\rEs 132 [vS d e f] b λd e f b=>c b/\R (vS d e f) b)):ρ 61 [.pointer a] w R:=rv Tryz.func61 h
theorem uB{F:Bool}(h:rEi 128 [vP a] w λe d=>τ [(8,kT),(14,aN)] λc f=>c none 0 0 0 d/\∀(_:ν) d g h i j,c d g h i j->bQ (i<e) (rE 129 [vP a,vB F,vP b,iI i] j λa b=>∃e k l m n o p q,a=vU [vG [vB e,vS k l m,vS n o p],iI q]/\new b (oC [vB false,zS,zS] 245) λa b=>bA b (aM a) [vB e,vS k l m,vS n o p] λb=>br (q !=0) (R (vU [zS,iI q]) b) (cLb b (aM a) λe=>br e (new b (oC [iI i] 3) λa b=>rS (fW1 24 [vS d g h,vS (some (aM a)) 1 1]) b λa b=>∃e k l,a=vS e k l/\aA (i+1)/\nD1 c f e k l (i+1) b d g h i j) (aA (i+1)/\nD1 c f d g h (i+1) b d g h i j))) (rEs 132 [vS d g h] j λc d e b=>R (vU [vS c d e,iI 0]) b)):ρ 116 [.pointer a,vB F,.pointer b] w R:=rv Tryz.func116 h ⟨[(3,[(8,kT),(14,aN)])],[],[],[]⟩
theorem j4(h:lU a i j none (some (i:Int)) (some (i:Int)) 3 λ(a:aiz)(b c:Nat)=>R (vS a b c) w):ρ 117 [vS a i j] w R:=rv Tryz.func117 h
theorem AR{a:aiz}{w:aiA}{R:Value->WP}(h:br (Option.isNone a) (R (iI 0) w) (nn a λa=>cLs w a λb c d=>R (iI (c:Int)) w)):ρ 118 [.pointer a] w R:=rv Tryz.func118 h
theorem Mq(h:rE 9 [vP a] w λb c=>∃d e f g h i j k l m n o p,b=vG [vS d e f,vS g h i,vS j k l,iI m,vS n o p]/\new c (oC [zS,zS,zS,iI 0,zS] 27) λb c=>bA c (aM b) [vS d e f,vS g h i,vS j k l,iI m,vS n o p] λc=>cLs c (Addr.add (aM b) 4) λd e f=>br ((e:Int)==0) (R (vP none) c) (dW1 c λd c=>∃e f g h i j k l m n o p q,(∀a,c a->rA a (aM b) 5 [vS e f g,vS h i j,vS k l m,iI n,vS o p q])/\rE 37 [vP a] d λb d=>∃r s t u v w x y z,b=vG [vS r s t,vS u v w,vS x y z]/\c d/\rE 218 [vP a] d λa b=>∃d x y z a0 a1 a2 a3 a4 a5 a6 a7 a8 a9 b0 b1 b2 b3 b4 b5 b6 b7 b8 b9,a=vG [vS d x y,vS z a0 a1,vS a2 a3 a4,vS a5 a6 a7,vS a8 a9 b0,vS b1 b2 b3,vS b4 b5 b6,vS b7 b8 b9]/\c b/\new b (oC [vS e f g,vS h i j,vS k l m,iI n,vS o p q,Value.iface 376 (vG [vS r s t,vS u v w]),Value.iface 379 (vG [vS d x y,vS z a0 a1,vS a2 a3 a4,vS a5 a6 a7,vS a8 a9 b0,vS b1 b2 b3,vS b4 b5 b6,vS b7 b8 b9])] 383) λa b=>c b/\R (vP (some (aM a))) b)):ρ 123 [.pointer a] w R:=rv Tryz.func123 h
theorem JW(h:new w (oC [iI A,zS,zS] 253) λa b=>R (vP (some (aM a))) b):ρ 124 [iI A] w R:=rv Tryz.func124 h
theorem Ms  {w:aiA}{R:Value->WP}(h:new w (oC [zS,zS] 251) λa b=>R (vP (some (aM a))) b):ρ 125 [] w R:=rv Tryz.func125 h
theorem xz{b:Addr}(h:bQ (A<1) (R (vB true) w) (cLp w b λa=>nn a λa=>cLp w (a.add 2) λb=>rEi 128 [vP b] w λc b=>R (vB (decide (c<=A))) b)):ρ 127 [iI A,(.pointer (some b))] w R:=rv Tryz.func127 h
theorem uD(h:nn a λa=>cLs w a λb c d=>R (iI (c:Int)) w):ρ 128 [.pointer a] w R:=rv Tryz.func128 h
theorem xD{F:Bool}(h:new w (oC [vB false,zS,zS] 245) λc d=>dW1 d λe d=>nn a λf=>∃g h i j k l m n o p q r s,(∀a,d a->rA a f 5 [vS g h i,vS j k l,vS m n o,iI p,vS q r s])/\nn a λf=>∃(t:TypeId),∃u,(∀a,d a->cL a (f.add 5) (Value.iface t u))/\rEp 219 [vP b] e λf e=>d e/\new e (oC [vP f,vS g h i,vS j k l,vS m n o,iI p,vS q r s,Value.iface t u,zS] 388) λb e=>d e/\∃(d:lP []),br F (nn a λa=>∃(c:TypeId),∃f,cL e (a.add 6) (Value.iface c f)/\st1 e (Addr.add (aM b) 6) (Value.iface c f) λa=>d a) (d e)/\∀(_:ν) a,d a->rE 220 [vP (some (aM b)),iI A] a λa d=>∃e f,a=vU [vB e,iI f]/\br (f !=0) (bA d (aM c) [vB false,zS,zS] λa=>∃b d e g h i j,rA a (aM c) 3 [vB b,vS d e g,vS h i j]/\R (vU [vG [vB b,vS d e g,vS h i j],iI f]) a) (dW1 d λa d=>dLs d (Addr.add (aM b) 7) λf g h=>dLp d (aM b) λi=>rEs 202 [vS f g h] a λf g h b=>d b/\rEs 221 [vP i] b λi j k b=>d b/\rEs 132 [vS i j k] b λi j k b=>d b/\bA b (aM c) [vB e,vS f g h,vS i j k] λa=>∃b d e f g h i,rA a (aM c) 3 [vB b,vS d e f,vS g h i]/\R (vU [vG [vB b,vS d e f,vS g h i],iI 0]) a)):ρ 129 [.pointer a,vB F,.pointer b,iI A] w R:=rv Tryz.func129 h ⟨[],[(4,[])],[],[]⟩
abbrev fx:FuncId:=130
theorem j5(h:new w (oC [iI A,iI B] 170) λb c=>dW1 c λd c=>nn a λe=>dLs c (e.add 4) λf g h=>∃e i,(∀a,c a->rA a (aM b) 2 [iI e,iI i])/\nn a λj=>dLi c (j.add 5) λk=>new d (oC [iI e,iI i,iI k] 235) λd e=>c e/\rS (fW1 39 [vS f g h,vS (some (aM d)) 1 1]) e λd e=>∃f g h,d=vS f g h/\c e/\nn a λc=>st1 e (c.add 4) (vS f g h) λc=>cLi c (aM b) λd=>br (d==1) (dW1 c λd c=>nn a λe=>dLp c (e.add 1) λf=>nn a λe=>dLi c (e.add 5) λg=>rE 222 [vP f,iI C,iI g] d λd e=>∃f g,d=vU [iI f,iI g]/\c e/\dW1 e λc d=>nn a λa=>dLp d a λe=>dLi d (Addr.add (aM b) 1) λa=>rEi 223 [vP e,iI a,iI f] c λc b=>R (vU []) b) (br (d==2) (dW1 c λd c=>nn a λe=>dLp c (e.add 2) λf=>dLi c (Addr.add (aM b) 1) λe=>rE 224 [vP f,iI e] d λd e=>∃f g,d=vU [iI f,iI g]/\c e/\nn a λc=>cLp e c λd=>rE 225 [vP d,iI f] e λc d=>∃e f h i,c=vU [vS e f h,iI i]/\dW1 d λc d=>nn a λi=>dLp d (i.add 1) λj=>dLi d (Addr.add (aM b) 1) λi=>rE 226 [vP j,iI g,iI i,vS e f h] c λb c=>∃e f,b=vU [iI e,iI f]/\d c/\dW1 c λb c=>nn a λd=>dLp c d λf=>nn a λd=>dLp c (d.add 2) λh=>nn a λa=>dLp c a λd=>rEi 228 [vP d] b λd b=>c b/\rEi 227 [vP h,iI d,iI g] b λd b=>c b/\rEi 223 [vP f,iI d,iI e] b λc b=>R (vU []) b) (br (d==3) (nn a λa=>st1 c (a.add 6) (vB true) λa=>R (vU []) a) (R (vU []) c)))):ρ 130 [.pointer a,(.agg #[iI A,iI B]),iI C] w R:=rv Tryz.func130 h
theorem jB(h:br (Option.isNone a) (R (zS) w) (new w (oC [] 138) λb c=>rS (fW1 38 [vS (some (aM b)) 0 0,vS a i j]) c λa b=>∃c d e,a=vS c d e/\R (vS c d e) b)):ρ 131 [vS a i j] w R:=rv Tryz.func131 h
theorem xF(h:br (Option.isNone a) (R (vP none) w) (new w (oC [vP a,iI 0,zS] 450) λa b=>rE 303 [vP (some (aM a))] b λb c=>b=vU []/\R (vP (some (aM a))) c)):ρ 219 [.pointer a] w R:=rv Tryz.func219 h
theorem xH{a:aiz}{b:Int}{w:aiA}{R:Value->WP}(h:∃(x1:lP []),∃(x2:lN []),x1 w/\∀(I1:Nat->Value)(w1:aiA),x1 w1->∃(x3:lP [(6,S1.one Cs.ptr)]),(dW1 w1 λw2 I2=>nn a λa1=>∃(t1:TypeId),∃v1,(∀w3,I2 w3->cL w3 (a1.add 6) (Value.iface t1 v1))/\nn a λa2=>dLp I2 a2 λo1=>(rEi 304 [vP o1] w2 λn1 w5=>I2 w5/\(∃g1 x4,Sem.run Tryz.prog (callMethod (Value.iface t1 v1) "presage/trial.action" (Array.mk [iI n1,iI b])) w5=Result.ok (Next.enter g1 (Array.mk x4)) w5/\rE g1 x4 w5 λv3 w6=>∃n2 n3,v3=vG [iI n2,iI n3]/\new w6 (oC [iI 0,iI 0] 170) λk1 w7=>I2 w7/\bA w7 (aM k1) [iI n2,iI n3] λw8=>x3 (some (aM k1)) w8)/\new w5 (oC [iI 0,iI 0] 170) λk2 w9=>I2 w9/\∃g2 x5,Sem.run Tryz.prog (callMethod (Value.iface t1 v1) "presage/trial.action" (Array.mk [iI n1,iI b])) w9=Result.ok (Next.enter g2 (Array.mk x5)) w9/\rE g2 x5 w9 λv4 w10=>∃n4 n5,v4=vG [iI n4,iI n5]/\bA w10 (aM k2) [iI n4,iI n5] λw11=>x3 (some (aM k2)) w11)/\new w2 (oC [iI 0,iI 0] 170) λk3 w12=>I2 w12/\rEi 304 [vP o1] w12 λn6 w13=>I2 w13/\∃g3 x6,Sem.run Tryz.prog (callMethod (Value.iface t1 v1) "presage/trial.action" (Array.mk [iI n6,iI b])) w13=Result.ok (Next.enter g3 (Array.mk x6)) w13/\rE g3 x6 w13 λv6 w14=>∃n7 n8,v6=vG [iI n7,iI n8]/\bA w14 (aM k3) [iI n7,iI n8] λw15=>x3 (some (aM k3)) w15)/\∀(I3:Nat->Value)(o2:aiz)(w16:aiA),x3 o2 w16->nn o2 λa3=>cLi w16 a3 λn9=>br (n9==1) (nn a λa4=>cLp w16 a4 λo3=>rEi 305 [vP o3] w16 λn10 w17=>bQ (64<=n10) (R (vU [vB false,iI 15]) w17) (dW1 w17 λw18 I4=>nn a λa5=>dLs I4 (a5.add 7) λo4 k4 k5=>nn o2 λa6=>∃n11 n12,(∀w20,I4 w20->rA w20 a6 2 [iI n11,iI n12])/\new w18 (oC [iI n11,iI n12] 170) λk6 w21=>I4 w21/\rS (fW1 86 [vS o4 k4 k5,vS (some (aM k6)) 1 1]) w21 λv8 w22=>∃o5 k7 k8,v8=vS o5 k7 k8/\I4 w22/\nn a λa7=>st1 w22 (a7.add 7) (vS o5 k7 k8) λw23=>R (vU [vB true,iI 0]) w23)) (br (n9==3) (dW1 w16 λw24 I5=>nn a λa8=>dLs I5 (a8.add 7) λo6 k9 k10=>nn o2 λa9=>∃n13 n14,(∀w26,I5 w26->rA w26 a9 2 [iI n13,iI n14])/\new w24 (oC [iI n13,iI n14] 170) λk11 w27=>I5 w27/\rS (fW1 86 [vS o6 k9 k10,vS (some (aM k11)) 1 1]) w27 λv9 w28=>∃o7 k12 k13,v9=vS o7 k12 k13/\I5 w28/\nn a λa10=>st1 w28 (a10.add 7) (vS o7 k12 k13) λw29=>R (vU [vB true,iI 0]) w29) (br (n9==2) (nn a λa11=>cLs w16 (a11.add 7) λo8 k14 k15=>bQ (1024<=(k14:Int)) (R (vU [vB false,iI 15]) w16) (dW1 w16 λw30 I6=>nn a λa12=>dLs I6 (a12.add 7) λo9 k16 k17=>nn o2 λa13=>∃n15 n16,(∀w32,I6 w32->rA w32 a13 2 [iI n15,iI n16])/\new w30 (oC [iI n15,iI n16] 170) λk18 w33=>I6 w33/\rS (fW1 86 [vS o9 k16 k17,vS (some (aM k18)) 1 1]) w33 λv10 w34=>∃o10 k19 k20,v10=vS o10 k19 k20/\I6 w34/\nn a λa14=>st1 w34 (a14.add 7) (vS o10 k19 k20) λw35=>dW1 w35 λw36 I7=>nn a λa15=>dLs I7 (Addr.add (a15.add 1) 4) λo11 k21 k22=>nn o2 λa16=>dLi I7 (a16.add 1) λn17=>idx o11 k21 n17 3 λa17=>∃n18 o12 k23 k24 n19,(∀w39,I7 w39->rA w39 a17 3 [iI n18,vS o12 k23 k24,iI n19])/\new w36 (oC [iI 0,zS,iI 0] 134) λk25 w40=>I7 w40/\bA w40 (aM k25) [iI n18,vS o12 k23 k24,iI n19] λw41=>dW1 w41 λw42 I8=>nn a λa18=>dLp I8 a18 λo13=>dLs I8 (Addr.add (aM k25) 1) λo14 k26 k27=>rEi 306 [vP o13,iI (k26:Int)] w42 λn20 w45=>∃(x7:lP [(8,aN)]),(dW1 w45 λw46 I9=>nn a λa19=>dLp I9 a19 λo15=>nn a λa20=>∃(t2:TypeId),∃v12,(∀w48,I9 w48->cL w48 (a20.add 6) (Value.iface t2 v12))/\nn a λa21=>dLp I9 a21 λo16=>dLi I9 (aM k25) λn21=>nn a λa22=>dLs I9 (a22.add 1) λo17 k28 k29=>aA (n21-(k28:Int))/\rEi 304 [vP o16] w46 λn22 w52=>I9 w52/\∃g4 x8,Sem.run Tryz.prog (callMethod (Value.iface t2 v12) "presage/trial.target" (Array.mk [iI n22,iI (n21-(k28:Int))])) w52=Result.ok (Next.enter g4 (Array.mk x8)) w52/\rEi g4 x8 w52 λn23 w53=>I9 w53/\rEi 307 [vP o15,iI n23] w53 λn24 w54=>I9 w54/\x7 n24 w54)/\∀(I10:Nat->Value)(n25:Int)(w55:aiA),x7 n25 w55->br (n25 !=0) (R (vU [vB false,iI n25]) w55) (x1 w55/\x2 w55<x2 w1))) (R (vU [vB false,iI 0]) w16)))):ρ 220 [.pointer a,iI b] w R:=rv Tryz.func220 h ⟨[(1,[])],[(2,[(6,(.one .ptr))]),(19,[(8,aN)])],[],[]⟩
theorem rQ(h:rEb 308 [vP a] w λd c=>br (!d) (R (zS) c) (dW1 c λb c=>nn a λd=>dLp c d λe=>nn e λd=>dLi c d λe=>nn a λd=>dLp c d λf=>nn f λd=>dLs c (d.add 1) λf g h=>nn a λd=>dLs c (d.add 2) λi j k=>(new b (oC [iI e] 3) λb d=>c d/\rEi 310 [vP a] d λe d=>c d/\lU f g h none (some e) none 1 λ(a:aiz)(e f:Nat)=>new d (oC [vS (some (aM b)) 1 1,vS a e f,vS i j k] 24) λa b=>c b/\rEs 309 [vS (some (aM a)) 3 3] b λd e f b=>c b/\R (vS d e f) b)/\rEi 310 [vP a] b λd b=>c b/\lU f g h none (some d) none 1 λ(a:aiz)(d f:Nat)=>new b (oC [iI e] 3) λb e=>c e/\new e (oC [vS (some (aM b)) 1 1,vS a d f,vS i j k] 24) λa b=>c b/\rEs 309 [vS (some (aM a)) 3 3] b λd e f b=>c b/\R (vS d e f) b)):ρ 221 [.pointer a] w R:=rv Tryz.func221 h
theorem zd(h:br (Option.isNone a) (R (vU [iI 0,iI 1]) w) (bQ (A<0) (R (vU [iI 0,iI 1]) w) (bQ (B<0) (R (vU [iI 0,iI 1]) w) (rE 311 [vP a,vG [iI A,iI (-1),iI B,zS]] w λa b=>∃c d,a=vU [iI c,iI d]/\R (vU [iI c,iI d]) b)))):ρ 222 [.pointer a,iI A,iI B] w R:=rv Tryz.func222 h
theorem xJ(h:br (Option.isNone a) (R (iI 1) w) (nn a λb=>cLs w (b.add 1) λc d e=>bQ (64<=(d:Int)) (R (iI 15) w) (nn a λb=>cLs w (b.add 1) λc d e=>new w (oC [iI A] 3) λb f=>rS (fW1 24 [vS c d e,vS (some (aM b)) 1 1]) f λb c=>∃d e f,b=vS d e f/\nn a λb=>st1 c (b.add 1) (vS d e f) λb=>nn a λc=>cLs b (c.add 2) λd e f=>new b (oC [iI B] 3) λb c=>rS (fW1 24 [vS d e f,vS (some (aM b)) 1 1]) c λb c=>∃d e f,b=vS d e f/\nn a λa=>st1 c (a.add 2) (vS d e f) λa=>R (iI 0) a))):ρ 223 [.pointer a,iI A,iI B] w R:=rv Tryz.func223 h
theorem tq(h:dW1 w λb c=>nn a λd=>dLs c (d.add 4) λe f g=>idx e f A 3 λd=>dLs c (d.add 1) λe f g=>nn a λa=>dLs c (a.add 4) λd e g=>idx d e A 3 λa=>dLi c a λd=>R (vU [iI (f:Int),iI d]) b):ρ 224 [.pointer a,iI A] w R:=rv Tryz.func224 h
theorem zf(h:∃(b:lP [(22,yV)]),br (Option.isNone a) (b true w) (bQ (A<0) (b true w) (nn a λa=>cLs w (a.add 1) λc d e=>b (decide ((d:Int)<A)) w))/\∀(_:ν) c d,b c d->br c (R (vU [zS,iI 1]) d) (nn a λb=>cLs d (b.add 1) λc e f=>aA ((e:Int)-A)/\nn a λb=>cLs d (b.add 2) λc f g=>lU c f g (some ((e:Int)-A)) none none 1 λ(b:aiz)(c f:Nat)=>rEs 115 [vS b c f] d λd f g c=>rEs 132 [vS d f g] c λd f g c=>nn a λb=>cLs c (b.add 1) λh i j=>lU h i j none (some ((e:Int)-A)) none 1 λ(b:aiz)(h i:Nat)=>nn a λj=>st1 c (j.add 1) (vS b h i) λb=>nn a λc=>cLs b (c.add 2) λh i j=>lU h i j none (some ((e:Int)-A)) none 1 λ(c:aiz)(e h:Nat)=>nn a λa=>st1 b (a.add 2) (vS c e h) λa=>R (vU [vS d f g,iI 0]) a)):ρ 225 [.pointer a,iI A] w R:=rv Tryz.func225 h ⟨[],[(2,[(22,yV)])],[],[]⟩
theorem zh(h:∃(c:lP [(25,yV)]),br (Option.isNone a) (c true w) (bQ (A<0) (c true w) (bQ (B<0) (c true w) (rEb 312 [vP a,vS b i j] w λd b=>c (!d) b)))/\∀(_:ν) d e,c d e->br d (R (vU [iI 0,iI 1]) e) (rEs 115 [vS b i j] e λd e f c=>rE 311 [vP a,vG [iI A,iI B,iI 0,vS d e f]] c λa b=>∃c d,a=vU [iI c,iI d]/\R (vU [iI c,iI d]) b)):ρ 226 [.pointer a,iI A,iI B,vS b i j] w R:=rv Tryz.func226 h ⟨[],[(2,[(25,yV)])],[],[]⟩
theorem tu{a:aiz}{b c:Int}{w:aiA}{R:Value->WP}(h:dW1 w λw1 I1=>nn a λa1=>∃(t1:TypeId),∃v1,(∀w2,I1 w2->cL w2 (a1.add 5) (Value.iface t1 v1))/\nn a λa2=>dLs I1 a2 λo1 k1 k2=>aA (c-(k1:Int))/\∃g1 x1,Sem.run Tryz.prog (callMethod (Value.iface t1 v1) "presage/trial.target" (Array.mk [iI b,iI (c-(k1:Int))])) w1=Result.ok (Next.enter g1 (Array.mk x1)) w1/\rEi g1 x1 w1 λn1 w4=>I1 w4/\R (iI n1) w4):ρ 227 [.pointer a,iI b,iI c] w R:=rv Tryz.func227 h
theorem zj(h:br (Option.isNone a) (R (iI 0) w) (nn a λb=>cLs w (b.add 1) λc d e=>br ((d:Int)==0) (nn a λa=>cLi w a λb=>R (iI b) w) (dW1 w λb c=>nn a λd=>dLs c (d.add 1) λe f g=>nn a λa=>dLs c (a.add 1) λd g h=>aA ((g:Int)-1)/\idx e f ((g:Int)-1) 1 λa=>dLi c a λd=>R (iI d) b))):ρ 228 [.pointer a] w R:=rv Tryz.func228 h
theorem tz(h:rEb 308 [vP a] w λd c=>br d (nn a λb=>cLp c b λd=>nn d λb=>cLs c (b.add 1) λd e f=>nn a λb=>st1 c (b.add 1) (iI (e:Int)) λb=>nn a λa=>st1 b (a.add 2) (zS) λa=>R (vU []) a) (R (vU []) c)):ρ 303 [.pointer a] w R:=rv Tryz.func303 h
theorem vR(h:rEb 308 [vP a] w λd c=>br (!d) (R (iI 0) c) (nn a λb=>cLs c (b.add 2) λd e f=>bQ (0<(e:Int)) (dW1 c λb c=>nn a λd=>dLs c (d.add 2) λe f g=>nn a λa=>dLs c (a.add 2) λd g h=>aA ((g:Int)-1)/\idx e f ((g:Int)-1) 1 λa=>dLi c a λd=>R (iI d) b) (rEi 310 [vP a] c λd c=>bQ (0<d) (dW1 c λb c=>nn a λd=>dLp c d λe=>nn e λd=>dLs c (d.add 1) λe f g=>rEi 310 [vP a] b λd b=>∃(a:WP),a b/\(∀b,a b->c b)/\aA (d-1)/\idx e f (d-1) 1 λc=>dLi a c λd=>R (iI d) b) (nn a λa=>cLp c a λb=>nn b λa=>cLi c a λb=>R (iI b) c)))):ρ 304 [.pointer a] w R:=rv Tryz.func304 h
theorem rV(h:rEb 308 [vP a] w λd c=>br (!d) (R (iI 0) c) (dW1 c λb c=>nn a λd=>dLi c (d.add 1) λe=>nn a λa=>dLs c (a.add 2) λd f g=>aA (e+(f:Int))/\R (iI (e+(f:Int))) b)):ρ 305 [.pointer a] w R:=rv Tryz.func305 h
theorem vW(h:∃(b:lP [(18,yV)]),(rEb 308 [vP a] w λe d=>br (!e) (b true d) (bQ (A<0) (b true d) (rEi 305 [vP a] d λd c=>b (decide (d<A)) c)))/\∀(_:ν) c d,b c d->br c (R (iI 1) d) (nn a λb=>cLs d (b.add 2) λc e f=>dW1 d λb c=>nn a λd=>dLs c (d.add 2) λf g h=>nn a λd=>dLs c (d.add 2) λi j k=>aA ((j:Int)-if(e:Int)<A then(e:Int) else A)/\lU f g h none (some ((j:Int)-if(e:Int)<A then(e:Int) else A)) none 1 λ(c:aiz)(d f:Nat)=>nn a λg=>st1 b (g.add 2) (vS c d f) λb=>nn a λc=>cLi b (c.add 1) λd=>aA (A-if(e:Int)<A then(e:Int) else A)/\aA (d-(A-if(e:Int)<A then(e:Int) else A))/\nn a λa=>st1 b (a.add 1) (iI (d-(A-if(e:Int)<A then(e:Int) else A))) λa=>R (iI 0) a)):ρ 306 [.pointer a,iI A] w R:=rv Tryz.func306 h ⟨[],[(2,[(18,yV)])],[],[]⟩
theorem uH(h:rEb 308 [vP a] w λd c=>br (!d) (R (iI 1) c) (rEi 305 [vP a] c λd c=>bQ (64<=d) (R (iI 15) c) (nn a λb=>cLs c (b.add 2) λd e f=>new c (oC [iI A] 3) λb c=>rS (fW1 24 [vS d e f,vS (some (aM b)) 1 1]) c λb c=>∃d e f,b=vS d e f/\nn a λa=>st1 c (a.add 2) (vS d e f) λa=>R (iI 0) a))):ρ 307 [.pointer a,iI A] w R:=rv Tryz.func307 h
theorem tB(h:br (!Option.isNone a) (nn a λa=>cLp w a λb=>R (vB !Option.isNone b) w) (R (vB false) w)):ρ 308 [.pointer a] w R:=rv Tryz.func308 h
theorem pF(h:τ [(3,aN),(11,aN)] λb c=>b 0 0 w/\∀(_:ν) d e f,b d e f->bQ (e<(i:Int)) (idx a i e 1 λa=>∃g h i,World.cell? f a=some (vS g h i)/\aA (d+(h:Int))/\bQ (d+(h:Int)<0) False (aA (e+1)/\nB b c (d+(h:Int)) (e+1) f d e f)) (rEs 359 [zS,iI d] f λd e f c=>τ [(6,kT),(27,aN)] λb g=>b d e f 0 c/\∀(_:ν) c d e f h,b c d e f h->bQ (f<(i:Int)) (idx a i f 1 λa=>∃i j k,World.cell? h a=some (vS i j k)/\rS (fW1 24 [vS c d e,vS i j k]) h λa i=>∃j k l,a=vS j k l/\aA (f+1)/\nD1 b g j k l (f+1) i c d e f h) (R (vS c d e) h))):ρ 309 [vS a i j] w R:=rv Tryz.func309 h ⟨[(3,[(3,aN),(11,aN)]),(11,[(6,kT),(27,aN)])],[],[],[]⟩
theorem tD(h:dW1 w λb c=>nn a λd=>dLi c (d.add 1) λe=>nn a λa=>dLp c a λd=>nn d λa=>dLs c (a.add 1) λd f g=>R (iI (if(f:Int)<e then(f:Int) else e)) b):ρ 310 [.pointer a] w R:=rv Tryz.func310 h
theorem AY(h:new w (oC [iI A,iI B,iI C,vS b i j] 138) λb c=>dW1 c λd c=>nn a λe=>dLs c e λf g h=>∃e i j k l m,(∀a,c a->rA a (aM b) 4 [iI e,iI i,iI j,vS k l m])/\new d (oC [iI e,iI i,iI j,vS k l m] 138) λb d=>c d/\rS (fW1 38 [vS f g h,vS (some (aM b)) 1 1]) d λb d=>∃e f g,b=vS e f g/\c d/\nn a λb=>st1 d b (vS e f g) λb=>nn a λc=>cLs b (c.add 1) λd e f=>new b (oC [vB false] 4) λb c=>rS (fW1 47 [vS d e f,vS (some (aM b)) 1 1]) c λb c=>∃d e f,b=vS d e f/\nn a λb=>st1 c (b.add 1) (vS d e f) λb=>nn a λa=>cLs b a λc d e=>aA ((d:Int)-1)/\R (vU [iI ((d:Int)-1),iI 0]) b):ρ 311 [.pointer a,(.agg #[iI A,iI B,iI C,vS b i j])] w R:=rv Tryz.func311 h
theorem zo(h:new w (oC [vP a] 146) λa c=>rEb 126 [vS b i j,vF1 360 [vP (some (aM a))]] c λe d=>br e (R (vB false) d) (τ [(14,aN)] λc e=>c 0 d/\∀(_:ν) d f,c d f->bQ (d<(i:Int)) (idx b i d 1 λg=>cLi f g λh=>cLp f (aM a) λg=>nn g λg=>cLs f (g.add 1) λk l m=>idx k l h 1 λg=>cLb f g λk=>br k (lU b i j none (some d) none 1 λ(b:aiz)(c _:Nat)=>τ [(30,aN)] λd e=>d 0 f/\∀(_:ν) f g,d f g->bQ (f<(c:Int)) (idx b c f 1 λb=>cLi g b λc=>cLp g (aM a) λb=>nn b λa=>cLs g (a.add 1) λb h i=>idx b h c 1 λa=>st1 g a (vB false) λa=>aA (f+1)/\nA d e (f+1) a f g) (R (vB false) g)) (cLp f (aM a) λb=>nn b λa=>cLs f (a.add 1) λb g i=>idx b g h 1 λa=>st1 f a (vB true) λa=>aA (d+1)/\nA c e (d+1) a d f)) (R (vB true) f))):ρ 312 [.pointer a,vS b i j] w R:=rv Tryz.func312 h ⟨[(4,[(14,aN)]),(8,[(30,aN)])],[],[],[]⟩
theorem rY(h:bQ (A<0) False (rS (Builtin.cap_ (Array.mk [24]) 3 (Array.mk [vS a i j])) w λb c=>∃d,b=iI d/\aA (d-(i:Int))/\aA (A-(d-(i:Int)))/\bQ (0<A-(d-(i:Int))) (rS (Builtin.cap_ (Array.mk [24]) 3 (Array.mk [vS a i j])) c λb c=>∃e,b=iI e/\lU a i j none (some e) none 1 λ(a:aiz)(b e:Nat)=>rS (Builtin.append_ (Array.mk [24,3]) 24 (Array.mk [vS a b e,iI (A-(d-(i:Int)))])) c λa b=>∃c d e,a=vS c d e/\lU c d e none (some (i:Int)) none 1 λ(a:aiz)(c d:Nat)=>R (vS a c d) b) (R (vS a i j) c))):ρ 359 [vS a i j,iI A] w R:=rv Tryz.func359 h
theorem uK{b:Addr}(h:bQ (A<0) (R (vB true) w) (cLp w b λa=>nn a λa=>cLs w a λc d e=>bQ ((d:Int)<=A) (R (vB true) w) (cLp w b λa=>nn a λa=>cLs w (a.add 1) λb c d=>idx b c A 1 λa=>cLb w a λb=>R (vB b) w))):ρ 360 [iI A,(.pointer (some b))] w R:=rv Tryz.func360 h
abbrev nh:FuncId:=420
theorem uM(h:new w (oC [vS a i j,vS b k l] 376) λa b=>cLs b (Addr.add (aM a) 1) λc d e=>idx c d A 1 λa=>cLs b a λc d e=>idx c d B 1 λa=>cLi b a λc=>R (iI c) b):ρ 420 [(.agg #[vS a i j,vS b k l]),iI A,iI B] w R:=rv Tryz.func420 h
end
abbrev mf:FuncId:=421
theorem tF{a:aiz}{b c:Nat}{d:aiz}{e f:Nat}{g:aiz}{i j:Nat}{k:aiz}{l m:Nat}{n:aiz}{o p:Nat}{q:aiz}{s t:Nat}{u:aiz}{v x:Nat}{y:aiz}{z aa:Nat}{ab ac:Int}{w:aiA}{R:Value->WP}(h:new w (oC [vS a b c,vS d e f,vS g i j,vS k l m,vS n o p,vS q s t,vS u v x,vS y z aa] 379) λa b=>new b (oC [iI 0,iI 0] 170) λb c=>∃d e f g h i j k l m n o p q r s t u v w x y z a0,rA c (aM a) 8 [vS d e f,vS g h i,vS j k l,vS m n o,vS p q r,vS s t u,vS v w x,vS y z a0]/\rE 423 [vG [vS d e f,vS g h i,vS j k l,vS m n o,vS p q r,vS s t u,vS v w x,vS y z a0],iI ab,iI ac] c λa c=>∃d e,a=vG [iI d,iI e]/\bA c (aM b) [iI d,iI e] λa=>∃c d,rA a (aM b) 2 [iI c,iI d]/\R (vG [iI c,iI d]) a):ρ 421 [(.agg #[vS a b c,vS d e f,vS g i j,vS k l m,vS n o p,vS q s t,vS u v x,vS y z aa]),iI ab,iI ac] w R:=rv Tryz.func421 h
abbrev mg:FuncId:=422
theorem tH{a:aiz}{b c:Nat}{d:aiz}{e f:Nat}{g:aiz}{i j:Nat}{k:aiz}{l m:Nat}{n:aiz}{o p:Nat}{q:aiz}{s t:Nat}{u:aiz}{v x:Nat}{y:aiz}{z aa:Nat}{ab ac:Int}{w:aiA}{R:Value->WP}(h:new w (oC [vS a b c,vS d e f,vS g i j,vS k l m,vS n o p,vS q s t,vS u v x,vS y z aa] 379) λa b=>∃c d e f g h i j k l m n o p q r s t u v w x y z,rA b (aM a) 8 [vS c d e,vS f g h,vS i j k,vS l m n,vS o p q,vS r s t,vS u v w,vS x y z]/\rEi 424 [vG [vS c d e,vS f g h,vS i j k,vS l m n,vS o p q,vS r s t,vS u v w,vS x y z],iI ab,iI ac] b λc b=>R (iI c) b):ρ 422 [(.agg #[vS a b c,vS d e f,vS g i j,vS k l m,vS n o p,vS q s t,vS u v x,vS y z aa]),iI ab,iI ac] w R:=rv Tryz.func422 h
end
def Ea(h:Hp)(k:Nat)(st:List Int):Prop:=∃o n c r,aq h (aM k) [iI 0,vS o n c,r]/\aX h st o n/\n<=64/\n<=c
theorem Ea.mono{h h':Hp}{k:Nat}{st:List Int}(s:sub h h')(r:Ea h k st):Ea h' k st:=by
 obtain⟨o,n,c,r,J,O,u⟩:=r;exact⟨o,n,c,r,J.mono s,O.mono s,u⟩
def JX(m k kept:Nat)(ab:List Int):aE:=Proofs.YtaoaemnefghnbaaGreatDoor.ex λ(x:aiz×Nat)=>aV [az m [vP (some (aM k)),iI (kept:Int),vS x.1 ab.length x.2],own 1 x.1 ab.length x.2 (iv ab)]
theorem mN{w:aiA}{L:List aE}{m k kept:Nat}{ab:List Int}:St w (JX m k kept ab::L)↔∃o c,St w (az m [vP (some (aM k)),iI (kept:Int),vS o ab.length c]::own 1 o ab.length c (iv ab)::L):=by simp[JX,St.ex,St.flat]
section
variable{w:aiA}{L:List aE}{m k kept:Nat}{st ab:List Int}{a:Addr}
theorem yE(h:w.cell? (aM m)=some (vP (some a))):ρ 308 [vP (some (aM m))] w λv w'=>v=vB true/\w'=w:=
 tB (fM rfl ⟨_,h,rfl,rfl⟩)
theorem GC(h:St w (JX m k kept ab::L))(hs:∀h,aF L h->Ea h k st):ρ 310 [vP (some (aM m))] w λv w'=>v=iI ((min kept st.length:Nat):Int)/\hp w'=hp w:=by
 refine tD λX Y=>?_;have O:=aQ Y;have h:=h.eq O;obtain⟨o,c,h⟩:=mN.1 h;obtain⟨h0,hl,J,_⟩:=h.SO;obtain⟨U,n2,c2,r,V,W,_⟩:=hs _ hl;have Z:=W.1;refine⟨λu=>hp u=hp X,rfl,(kept:Int),λu e=>(by rw[ak,cG e,h.cell];rfl:World.cell? u _=_),some (aM k),λu e=>(by rw[cG e,h.cell];rfl:World.cell? u _=_),U,n2,c2,λu e=>V.cell (by simp_all) (j:=1) rfl,?_,O⟩
 grind
theorem HS(h:St w (JX m k kept ab::L))(hk:kept<=64)(ha:ab.length<=1000):ρ 305 [vP (some (aM m))] w λv w'=>v=iI ((kept+ab.length:Nat):Int)/\hp w'=hp w:=by
 obtain⟨o,c,h⟩:=mN.1 h;refine rV ((yE (h.cell 0)).mono ?_);rintro _ _⟨rfl,rfl⟩;refine⟨_,rfl,bB rfl λO U=>?_⟩;have J:=aQ U;have h:=h.eq J;exact⟨λu=>hp u=hp O,rfl,_,λu e=>(by rw[ak,cG e,h.cell];rfl:World.cell? u _=_),_,_,_,λu e=>(by rw[ak,cG e,h.cell];rfl:World.cell? u _=_),ξ,σ,J⟩
theorem XC(h:St w (JX m k kept ab::L))(hs:∀h,aF L h->Ea h k st)(hk:kept<=st.length)(ha:ab.length<=1000):ρ 304 [vP (some (aM m))] w λv w'=>v=iI ((0::(st.take kept++ab)).getLast σ)/\hp w'=hp w:=by
 have h0:=h;obtain⟨o,c,h⟩:=mN.1 h;obtain⟨h1,hl,a0,_⟩:=h.SO;obtain⟨o2,n2,c2,r,q1,q2,q3⟩:=hs _ hl;have e2:=q2.1;refine vR ((yE (h.cell 0)).mono ?_);rintro _ _⟨rfl,rfl⟩
 refine⟨_,rfl,bB rfl ⟨_,_,_,(by rw[ak,h.cell];rfl:World.cell? _ _=_),ae (λX=>?_) λX=>?_⟩⟩
 ·have X:0<ab.length:=by simp_all
  intro w1 hd;have U:=aQ hd;have J:=h.eq U;obtain⟨ad,rfl⟩:=eQ J.tail (by simp_all[cf]);have V:=bD J.tail;refine⟨λu=>hp u=hp w1,rfl,_,_,_,λu e=>(by rw[ak,cG e,J.cell];rfl:World.cell? u _=_),_,_,_,λu e=>(by rw[ak,cG e,J.cell];rfl:World.cell? u _=_),ξ,?_⟩;have Y:((ab.length:Int)-1)=((ab.length-1:Nat):Int):=ω
  rw[Y]
  refine ax rfl ω ⟨ab[ab.length-1],λu e=>?_,?_,U⟩
  ·show World.cell? u _=_
   rw[cG e];exact qK J.tail rfl (by simp[iv])
  grind
 ·have X:ab=[]:=ag2 (by simp_all);subst X;refine(GC h0 hs).mono ?_;rintro _ w1⟨rfl,U⟩;have hm:min kept st.length=kept:=ω
  rw[hm];have J:=h.eq U
  refine⟨_,rfl,ae (λW=>?_) λW=>?_⟩
  ·have W:0<kept:=by simp_all
   intro Z hd;have e5:=aQ hd;have O:=J.eq e5;have a4:sub h1 (hp Z):=by simp_all
   refine⟨λu=>hp u=hp Z,rfl,some (aM k),λu e=>(by rw[cG e,O.cell];rfl:World.cell? u _=_),o2,n2,c2,λu e=>q1.cell (by simp_all) (j:=1) rfl,(GC (mN.2 ⟨o,c,O⟩) hs).mono ?_⟩;rintro _ w3⟨rfl,Y⟩;rw[hm];have hx:st[kept-1]? =some st[kept-1]:=agM ω;obtain⟨ad,rfl,hc⟩:=q2.at hx;refine⟨_,rfl,λu=>hp u=hp Z,Y,λu e=>e,ξ,?_⟩;have e4:((kept:Int)-1)=((kept-1:Nat):Int):=ω
   rw[e4];have V:kept-1<n2:=ω
   refine ax rfl V ⟨_,λu e=>hc u (by simp_all),?_,by simp_all⟩
   grind
  ·have W:kept=0:=by simp_all
   subst W;exact⟨some (aM k),(by rw[J.cell];rfl:World.cell? _ _=_),_,q1.cell0 (by simp_all),σ,U⟩
end
section
variable{w:aiA}{L:List aE}{m k kept n:Nat}{st ab:List Int}{z:Int}
theorem adI(h:St w (JX m k kept ab::L))(hk:kept<=64)(ha:ab.length<=1000):ρ 307 [vP (some (aM m)),iI z] w λv w'=>
  (64<=kept+ab.length/\v=iI 15/\hp w'=hp w)\/(kept+ab.length<64/\v=iI 0/\St w' (JX m k kept (ab++[z])::L)):=by
 have h0:=h;obtain⟨o,c,h⟩:=mN.1 h;refine uH ((yE (h.cell 0)).mono ?_);rintro _ _⟨rfl,rfl⟩;refine⟨_,rfl,bB rfl ((HS h0 hk ha).mono ?_)⟩;rintro _ w1⟨rfl,X⟩
 refine⟨_,rfl,ae (λu=>?_) λu=>?_⟩
 ·grind
 ·have u:kept+ab.length<64:=by grind
  have h:=h.eq X;refine⟨_,_,_,(by rw[ak,h.cell];rfl:World.cell? _ _=_),ag h λb w2 h=>?_⟩;refine(aS aT (rfl:ai Ty _=.slice _) (rfl:ai Ty _=.slice _) rfl rfl rfl (h.pick 3 [0,2,1]) rfl (by simp[aK]) (by grind) ω).mono ?_;rintro _ U⟨J,O,rfl,V⟩;refine⟨_,_,_,rfl,?_⟩
  show st1 U ((aM m).add 2) _ _
  rw[ak];have W:St U (az m [vP (some (aM k)),iI (kept:Int),vS o ab.length c]::own 1 J (ab.length+1) O (iv ab++[iI z])::L):=V.pick 3 [2,0];refine aR W σ λZ Y=>.inr ⟨u,rfl,mN.2 ⟨J,O,?_⟩⟩
  simp_all[iv]
theorem afC(h:St w (JX m k kept ab::L))(hk:kept<=64)(ha:ab.length<=1000)(hn:n<=kept+ab.length):ρ 306 [vP (some (aM m)),iI (n:Int)] w λv w'=>
  v=iI 0/\St w' (JX m k (kept-(n-ab.length)) (ab.take (ab.length-n))::L):=by
 have h0:=h;obtain⟨o,c,h⟩:=mN.1 h
 refine vW ⟨λb u=>b=false/\hp u=hp w,?_,?_⟩
 ·refine(yE (h.cell 0)).mono ?_;rintro _ _⟨rfl,rfl⟩;refine⟨_,rfl,bB rfl (bB σ ((HS h0 hk ha).mono ?_))⟩
  grind
 rintro _ _ w1⟨rfl,Y⟩;have h:=h.eq Y;refine bB rfl ⟨_,_,_,(by rw[ak,h.cell];rfl:World.cell? _ _=_),λV hd=>?_⟩;have h:=h.eq (aQ hd);have O:(if(ab.length:Int)<(n:Int) then(ab.length:Int) else(n:Int))=((min n ab.length:Nat):Int):=ω
 rw[O];have W:(ab.length:Int)-((min n ab.length:Nat):Int)=((ab.length-n:Nat):Int):=ω
 have X:(kept:Int)-((n:Int)-((min n ab.length:Nat):Int))=((kept-(n-ab.length):Nat):Int):=ω
 have hc:=bD h.tail;refine⟨λu=>hp u=hp V,rfl,_,_,_,λu e=>(by rw[ak,cG e,h.cell];rfl:World.cell? u _=_),_,_,_,λu e=>(by rw[ak,cG e,h.cell];rfl:World.cell? u _=_),ξ,?_⟩;rw[W];refine iH ω ?_
 show st1 V ((aM m).add 2) _ _
 rw[ak];have J:=qS (k:=ab.length-n) h.swap ω;have J:=J.swap;refine aR J σ λZ U=>?_;refine⟨_,(by rw[ak,U.cell];rfl:World.cell? _ _=_),ξ,ξ,?_⟩;rw[X]
 show st1 Z ((aM m).add 1) _ _
 rw[ak];refine aR U σ λw4 h4=>⟨rfl,mN.2 ⟨fK o 0 c 1,c,?_⟩⟩
 simp_all[iv,List.map_take]
theorem adJ(h:St w L)(hs:∀h,aF L h->Ea h k st):ρ 219 [vP (some (aM k))] w λv w'=>∃b,v=vP (some (aM b))/\St w' (JX b k st.length []::L):=by
 refine xF (bB rfl (ag h λb U J=>?_))
 refine(tz ((yE (J.cell 0)).mono ?_)).mono (R:=λv w'=>v=.tuple #[]/\St w' (JX b k st.length []::L)) ?_
 ·rintro _ U⟨rfl,rfl⟩;obtain⟨h0,hl,u,_⟩:=J.freeze;obtain⟨o2,n2,c2,r,W,q2,_⟩:=hs _ hl;have X:=q2.1;refine⟨_,rfl,fM rfl ⟨some (aM k),J.cell 0,_,_,_,W.cell u (j:=1) rfl,?_⟩⟩
  show st1 U ((aM b).add 1) _ _
  rw[ak];refine aR J σ λY Z=>?_
  show st1 Y ((aM b).add 2) _ _
  rw[ak];refine aR Z σ λw3 V=>⟨rfl,mN.2 ⟨none,0,?_⟩⟩;have O:=aI 1 V;rw[<-X] at O;exact O.swap
 simp
end
section
variable{a b c:aiz}{i j k l m n:Nat}{A B C:Int}{w:aiA}{R:Value->WP}
theorem JZ(h:new w (oC [vS a i j,vS b k l] 94) λa b=>new b (oC [zS,zS,zS,zS,zS,zS,zS,zS] 106) λb c=>∃d e f g h i,rA c (aM a) 2 [vS d e f,vS g h i]/\rEb 107 [vG [vS d e f,vS g h i]] c λe d=>br (!e) (bA d (aM b) [zS,zS,zS,zS,zS,zS,zS,zS] λa=>∃c d e f g h i j k l m n o p q r s t u v w x y z,rA a (aM b) 8 [vS c d e,vS f g h,vS i j k,vS l m n,vS o p q,vS r s t,vS u v w,vS x y z]/\R (vU [vG [vS c d e,vS f g h,vS i j k,vS l m n,vS o p q,vS r s t,vS u v w,vS x y z],iI 1]) a) (new d (oC [zS,zS,zS,zS,zS,zS,zS,zS] 106) λc d=>cLs d (aM a) λe f g=>od (f:Int) (f:Int) 24/\new d (Obj.cells (Array.mk (gD (Int.toNat (f:Int)) [zS])) 197) λd e=>cLs e (aM a) λg h i=>τ [(26,aN)] λi j=>i 0 e/\∀(_:ν) e k,i e k->bQ (e<(h:Int)) (idx g h e 1 λa=>cLs k a λb g h=>rEi 108 [vS b g h,vF1 109 [],iI (-1)] k λl h=>cLs h (aM c) λa m n=>new h (oC [iI l] 3) λh o=>rS (fW1 24 [vS a m n,vS (some (aM h)) 1 1]) o λa h=>∃m n o,a=vS m n o/\st1 h (aM c) (vS m n o) λa=>τ [(41,aN)] λc h=>c 0 a/\∀(_:ν) a m,c a m->bQ (a<(g:Int)) (idx b g a 2 λb=>∃g i,rA m b 2 [iI g,iI i]/\new m (oC [iI 0,iI 0] 170) λb j=>bA j (aM b) [iI g,iI i] λg=>cLi g (aM b) λi=>br (i !=0) (cLi g (aM b) λi=>br (i !=2) (dW1 g λi g=>idx (some (aM d)) (Int.toNat (f:Int)) e 1 λj=>dLs g j λk l n=>∃j o,(∀a,g a->rA a (aM b) 2 [iI j,iI o])/\rEi 110 [vG [iI j,iI o]] i λj i=>g i/\new i (oC [iI a,iI j] 203) λb i=>g i/\rS (fW1 197 [vS k l n,vS (some (aM b)) 1 1]) i λb i=>∃j k l,b=vS j k l/\g i/\idx (some (aM d)) (Int.toNat (f:Int)) e 1 λb=>st1 i b (vS j k l) λb=>aA (a+1)/\nA c h (a+1) b a m) (cLi g (Addr.add (aM b) 1) λi=>br (i !=l) (dW1 g λi g=>idx (some (aM d)) (Int.toNat (f:Int)) e 1 λj=>dLs g j λk l n=>∃j o,(∀a,g a->rA a (aM b) 2 [iI j,iI o])/\rEi 110 [vG [iI j,iI o]] i λj i=>g i/\new i (oC [iI a,iI j] 203) λb i=>g i/\rS (fW1 197 [vS k l n,vS (some (aM b)) 1 1]) i λb i=>∃j k l,b=vS j k l/\g i/\idx (some (aM d)) (Int.toNat (f:Int)) e 1 λb=>st1 i b (vS j k l) λb=>aA (a+1)/\nA c h (a+1) b a m) (aA (a+1)/\nA c h (a+1) g a m))) (aA (a+1)/\nA c h (a+1) g a m)) (aA (e+1)/\nA i j (e+1) m e k)) (rE 111 [vS (some (aM d)) (Int.toNat (f:Int)) (Int.toNat (f:Int))] k λd e=>∃f g h i j k l m n o,d=vU [vG [vS f g h,vS i j k,vS l m n],iI o]/\bA e (Addr.add (aM c) 1) [vS f g h,vS i j k,vS l m n] λd=>cLs d (Addr.add (aM a) 1) λe f g=>idx e f 0 1 λe=>cLs d e λf g h=>od (g:Int) (g:Int) 24/\new d (Obj.cells (Array.mk (gD (Int.toNat (g:Int)) [zS])) 197) λd e=>τ [(89,aN)] λf h=>f 0 e/\∀(_:ν) e i,f e i->bQ (e<(↑(Int.toNat (g:Int)):Int)) (new i (oC [iI 0] 3) λb j=>st1 j (aM b) (iI e) λj=>cLs j (Addr.add (aM a) 1) λk l m=>rEi 112 [vS k l m,vF1 113 [vP (some (aM b))],iI (-1)] j λl k=>cLs k (Addr.add (aM c) 4) λj m n=>new k (oC [iI l] 3) λk o=>rS (fW1 24 [vS j m n,vS (some (aM k)) 1 1]) o λj k=>∃m n o,j=vS m n o/\st1 k (Addr.add (aM c) 4) (vS m n o) λc=>cLs c (Addr.add (aM a) 1) λj k m=>τ [(105,aN)] λa m=>a 0 c/\∀(_:ν) c n,a c n->bQ (c<(k:Int)) (idx j k c 1 λe=>cLs n e λf h i=>cLi n (aM b) λe=>idx f h e 1 λe=>cLi n e λi=>bQ (0<=i) (cLi n (aM b) λe=>idx f h e 1 λe=>cLi n e λi=>br (i !=l) (dW1 n λe i=>dLi i (aM b) λj=>dLi i (aM b) λk=>idx (some (aM d)) (Int.toNat (g:Int)) k 1 λk=>dLs i k λl o p=>dLi i (aM b) λk=>idx f h k 1 λb=>dLi i b λf=>new e (oC [iI c,iI f] 203) λb e=>i e/\rS (fW1 197 [vS l o p,vS (some (aM b)) 1 1]) e λb e=>∃f h k,b=vS f h k/\i e/\idx (some (aM d)) (Int.toNat (g:Int)) j 1 λb=>st1 e b (vS f h k) λb=>aA (c+1)/\nA a m (c+1) b c n) (aA (c+1)/\nA a m (c+1) n c n)) (aA (c+1)/\nA a m (c+1) n c n)) (aA (e+1)/\nA f h (e+1) n e i)) (rE 111 [vS (some (aM d)) (Int.toNat (g:Int)) (Int.toNat (g:Int))] i λa d=>∃e f g h i j k l m n,a=vU [vG [vS e f g,vS h i j,vS k l m],iI n]/\bA d (Addr.add (aM c) 5) [vS e f g,vS h i j,vS k l m] λa=>∃d e f g h i j k l m n o p q r s t u v w x y z a0,rA a (aM c) 8 [vS d e f,vS g h i,vS j k l,vS m n o,vS p q r,vS s t u,vS v w x,vS y z a0]/\bA a (aM b) [vS d e f,vS g h i,vS j k l,vS m n o,vS p q r,vS s t u,vS v w x,vS y z a0] λa=>∃c d e f g h i j k l m n o p q r s t u v w x y z,rA a (aM b) 8 [vS c d e,vS f g h,vS i j k,vS l m n,vS o p q,vS r s t,vS u v w,vS x y z]/\R (vU [vG [vS c d e,vS f g h,vS i j k,vS l m n,vS o p q,vS r s t,vS u v w,vS x y z],iI 0]) a)))):ρ 44 [(.agg #[vS a i j,vS b k l])] w R:=rv Tryz.func44 h ⟨[(6,[(26,aN)]),(11,[(41,aN)]),(20,[(89,aN)]),(25,[(105,aN)])],[],[],[]⟩
theorem HU(h:new w (oC [vS a i j,vS b k l] 94) λa b=>cLs b (aM a) λc d e=>new b (oC [iI 0] 3) λb c=>st1 c (aM b) (iI (d:Int)) λc=>∃(d:lP [(22,yV)]),(cLi c (aM b) λe=>bQ (e<1) (d true c) (cLi c (aM b) λe=>bQ (256<e) (d true c) (cLs c (Addr.add (aM a) 1) λe f g=>cLi c (aM b) λa=>d ((f:Int) !=a) c)))/\∀(_:ν) c e,d c e->br c (R (vB false) e) (dW1 e λc d=>dLs d (aM a) λe f g=>idx e f 0 1 λe=>dLs d e λf g h=>dLs d (Addr.add (aM a) 1) λe f h=>idx e f 0 1 λe=>dLs d e λf h i=>∃(d:lP [(42,yV)]),bQ ((if(h:Int)<(g:Int) then(h:Int) else(g:Int))<1) (d true c) (d (decide (65<if(g:Int)<(h:Int) then(h:Int) else(g:Int))) c)/\∀(_:ν) c e,d c e->br c (R (vB false) e) (cLi e (aM b) λc=>τ [(44,aN)] λd f=>d 0 e/\∀(_:ν) e i,d e i->bQ (e<c) (∃(c:lP [(64,yV)]),(cLs i (aM a) λb d f=>idx b d e 1 λb=>cLs i b λd f j=>br ((f:Int) !=(g:Int)) (c true i) (cLs i (Addr.add (aM a) 1) λb d f=>idx b d e 1 λa=>cLs i a λb d e=>c ((d:Int) !=(h:Int)) i))/\∀(_:ν) g h,c g h->br g (R (vB false) h) (cLs h (aM a) λc g j=>idx c g e 1 λc=>cLs h c λg j k=>rEb 203 [vS g j k,vF1 204 [vP (some (aM b))]] h λh g=>br h (R (vB false) g) (cLs g (Addr.add (aM a) 1) λc h j=>idx c h e 1 λa=>cLs g a λc h j=>rEb 126 [vS c h j,vF1 206 [vP (some (aM b))]] g λc b=>br c (R (vB false) b) (aA (e+1)/\nA d f (e+1) b e i)))) (R (vB true) i)))):ρ 107 [(.agg #[vS a i j,vS b k l])] w R:=rv Tryz.func107 h ⟨[(8,[(44,aN)])],[(3,[(22,yV)]),(6,[(42,yV)]),(11,[(64,yV)])],[],[]⟩
theorem nj{d:FuncId}{e:List Value}(h:new w (Obj.map (Array.mk []) 0) λb c=>τ [(19,aN)] λf g=>f 0 c/\∀(_:ν) c h,f c h->bQ (c<(i:Int)) (idx a i c 2 λa=>∃i j,rA h a 2 [iI i,iI j]/\new h (oC [iI 0,iI 0] 170) λa k=>bA k (aM a) [iI i,iI j] λi=>∃j k,rA i (aM a) 2 [iI j,iI k]/\pj (Fn d) (rE d (vG [iI j,iI k]::e) i λa d=>∃e i,a=vU [iI e,vB i]/\br i (aY Tryz.prog (Instr.lookup 276 (Value.map (some b)) (iI e) false) d λa d=>∃i,a=iI i/\aA (i+1)/\aY Tryz.prog (Instr.mapUpdate 276 (Value.map (some b)) (iI e) (iI (i+1))) d λ(_:Unit)(a:aiA)=>aA (c+1)/\nA f g (c+1) a c h) (aA (c+1)/\nA f g (c+1) d c h))) (aY Tryz.prog (Instr.range 276 (Value.map (some b))) h λa c=>∃d,a=vP d/\τ [(8,aN)] λa e=>a A c/\∀(_:ν) c f,a c f->aY Tryz.prog (Instr.next (vP d) false 0) f λg h=>g=vU [vB false]/\R (iI c) h\/∃i j,g=vU [vB true,iI i,j]/\aY Tryz.prog (Instr.entry (vP d)) h λd g=>∃h i,d=vU [iI h,iI i]/\aY Tryz.prog (Instr.lookup 276 (Value.map (some b)) (iI c) false) g λd g=>∃j,d=iI j/\bQ (j<i) (nA a e h g c f) (aY Tryz.prog (Instr.lookup 276 (Value.map (some b)) (iI c) false) g λb d=>∃g,b=iI g/\br (i==g) (bQ (h<c) (nA a e h d c f) (nA a e c d c f)) (nA a e c d c f)))):ρ 108 [vS a i j,(.func (.func d) #[] ⟨e⟩),iI A] w R:=rv Tryz.func108 h ⟨[(4,[(19,aN)]),(11,[(8,aN)])],[],[],[]⟩
abbrev xM:FuncId:=109
theorem Ec(h:new w (oC [iI A,iI B] 170) λa b=>dW1 b λc b=>dLi b (Addr.add (aM a) 1) λd=>dLi b (aM a) λe=>R (vU [iI d,vB (e==2)]) c):ρ 109 [(.agg #[iI A,iI B])] w R:=rv Tryz.func109 h
abbrev Fg:FuncId:=110
theorem J1(h:new w (oC [iI A,iI B] 170) λa b=>cLi b (aM a) λc=>br (c==1) (cLi b (Addr.add (aM a) 1) λc=>aA (1+c)/\R (iI (1+c)) b) (br (c==2) (cLi b (Addr.add (aM a) 1) λc=>aA (-1-c)/\R (iI (-1-c)) b) (br (c==3) (R (iI (-1)) b) (R (iI 0) b)))):ρ 110 [(.agg #[iI A,iI B])] w R:=rv Tryz.func110 h
theorem Mv(h:new w (oC [vS a i j] 221) λa b=>new b (oC [zS,zS,zS] 104) λb c=>∃(d:lP [(15,yV)]),(cLs c (aM a) λb e f=>bQ (256<(e:Int)) (d true c) (cLs c (aM a) λb e f=>rEb 207 [vS b e f,vF1 208 []] c λc b=>d c b))/\∀(_:ν) c e,d c e->br c (bA e (aM b) [zS,zS,zS] λa=>∃c d e f g h i j k,rA a (aM b) 3 [vS c d e,vS f g h,vS i j k]/\R (vU [vG [vS c d e,vS f g h,vS i j k],iI 1]) a) (cLs e (aM a) λc d f=>od (d:Int) (d:Int) 8/\new e (Obj.cells (Array.mk (gD (Int.toNat (d:Int)) [iI 0])) 3) λc e=>τ [(22,aN)] λf g=>f 0 e/\∀(_:ν) e h,f e h->bQ (e<(↑(Int.toNat (d:Int)):Int)) (idx (some (aM c)) (Int.toNat (d:Int)) e 1 λa=>st1 h a (iI e) λa=>aA (e+1)/\nA f g (e+1) a e h) (rE 210 [vS (some (aM c)) (Int.toNat (d:Int)) (Int.toNat (d:Int)),vF1 211 [vP (some (aM a))]] h λe f=>e=vU []/\cLs f (aM a) λe g h=>od (g:Int) (g:Int) 8/\new f (Obj.cells (Array.mk (gD (Int.toNat (g:Int)) [iI 0])) 3) λe f=>new f (oC [vS (some (aM e)) (Int.toNat (g:Int)) (Int.toNat (g:Int)),zS,zS] 366) λe f=>τ [(41,aN)] λg h=>g 0 f/\∀(_:ν) f i,g f i->bQ (f<(↑(Int.toNat (d:Int)):Int)) (idx (some (aM c)) (Int.toNat (d:Int)) f 1 λb=>cLi i b λc=>cLs i (aM a) λb d j=>idx b d c 1 λb=>cLs i b λd j k=>bQ (0<(j:Int)) (cLs i (aM a) λb d j=>idx b d c 1 λa=>cLs i a λb d j=>rE 212 [vP (some (aM e)),iI c,vS b d j] i λa b=>a=vU []/\aA (f+1)/\nA g h (f+1) b f i) (aA (f+1)/\nA g h (f+1) i f i)) (∃a c d f g h j k l,rA i (aM e) 3 [vS a c d,vS f g h,vS j k l]/\bA i (aM b) [vS a c d,vS f g h,vS j k l] λa=>∃c d e f g h i j k,rA a (aM b) 3 [vS c d e,vS f g h,vS i j k]/\R (vU [vG [vS c d e,vS f g h,vS i j k],iI 0]) a)))):ρ 111 [vS a i j] w R:=rv Tryz.func111 h ⟨[(5,[(22,aN)]),(12,[(41,aN)])],[(2,[(15,yV)])],[],[]⟩
theorem uO{d:FuncId}{e:List Value}(h:new w (Obj.map (Array.mk []) 0) λb c=>τ [(19,aN)] λf g=>f 0 c/\∀(_:ν) c h,f c h->bQ (c<(i:Int)) (idx a i c 1 λa=>cLs h a λi j k=>pj (Fn d) (rE d (vS i j k::e) h λa d=>∃e i,a=vU [iI e,vB i]/\br i (aY Tryz.prog (Instr.lookup 276 (Value.map (some b)) (iI e) false) d λa d=>∃i,a=iI i/\aA (i+1)/\aY Tryz.prog (Instr.mapUpdate 276 (Value.map (some b)) (iI e) (iI (i+1))) d λ(_:Unit)(a:aiA)=>aA (c+1)/\nA f g (c+1) a c h) (aA (c+1)/\nA f g (c+1) d c h))) (aY Tryz.prog (Instr.range 276 (Value.map (some b))) h λa c=>∃d,a=vP d/\τ [(8,aN)] λa e=>a A c/\∀(_:ν) c f,a c f->aY Tryz.prog (Instr.next (vP d) false 0) f λg h=>g=vU [vB false]/\R (iI c) h\/∃i j,g=vU [vB true,iI i,j]/\aY Tryz.prog (Instr.entry (vP d)) h λd g=>∃h i,d=vU [iI h,iI i]/\aY Tryz.prog (Instr.lookup 276 (Value.map (some b)) (iI c) false) g λd g=>∃j,d=iI j/\bQ (j<i) (nA a e h g c f) (aY Tryz.prog (Instr.lookup 276 (Value.map (some b)) (iI c) false) g λb d=>∃g,b=iI g/\br (i==g) (bQ (h<c) (nA a e h d c f) (nA a e c d c f)) (nA a e c d c f)))):ρ 112 [vS a i j,(.func (.func d) #[] ⟨e⟩),iI A] w R:=rv Tryz.func112 h ⟨[(4,[(19,aN)]),(11,[(8,aN)])],[],[],[]⟩
abbrev xO:FuncId:=113
theorem Ee{d:Addr}(h:dW1 w λb c=>dLi c d λe=>idx a i e 1 λe=>dLi c e λf=>dLi c d λe=>idx a i e 1 λa=>dLi c a λd=>R (vU [iI f,vB (decide (0<=d))]) b):ρ 113 [vS a i j,(.pointer (some d))] w R:=rv Tryz.func113 h
theorem Cr{c:Addr}(h:new w (oC [iI A,iI B] 170) λa b=>∃d e,rA b (aM a) 2 [iI d,iI e]/\cLi b c λa=>rEb 205 [vG [iI d,iI e],iI a] b λc b=>R (vB !c) b):ρ 204 [(.agg #[iI A,iI B]),(.pointer (some c))] w R:=rv Tryz.func204 h
theorem Mx(h:new w (oC [iI A,iI B] 170) λa b=>cLi b (aM a) λc=>br (c==1) (cLi b (Addr.add (aM a) 1) λc=>bQ (0<=c) (cLi b (Addr.add (aM a) 1) λc=>R (vB (decide (c<C))) b) (R (vB false) b)) (br (c==2) (cLi b (Addr.add (aM a) 1) λc=>bQ (1<=c) (cLi b (Addr.add (aM a) 1) λc=>R (vB (decide (c<=96))) b) (R (vB false) b)) (cLi b (aM a) λc=>bQ (0<=c) (cLi b (aM a) λc=>bQ (c<=4) (cLi b (Addr.add (aM a) 1) λc=>R (vB (c==0)) b) (R (vB false) b)) (R (vB false) b)))):ρ 205 [(.agg #[iI A,iI B]),iI C] w R:=rv Tryz.func205 h
theorem Cu{b:Addr}(h:bQ (A< -1) (R (vB true) w) (cLi w b λa=>R (vB (decide (a<=A))) w)):ρ 206 [iI A,(.pointer (some b))] w R:=rv Tryz.func206 h
theorem fA{d:FuncId}{e:List Value}(h:rEi 293 [vS a i j,vF1 d e] w λc b=>R (vB (decide (0<=c))) b):ρ 207 [vS a i j,(.func (.func d) #[] ⟨e⟩)] w R:=rv Tryz.func207 h
theorem F1(h:rEb 209 [vS a i j] w λc b=>R (vB !c) b):ρ 208 [vS a i j] w R:=rv Tryz.func208 h
abbrev J3:FuncId:=211
theorem F3{c:Addr}(h:dW1 w λa b=>dLs b c λd e f=>idx d e B 1 λd=>dLs b d λe f g=>dLs b c λd e g=>idx d e A 1 λc=>dLs b c λd e g=>aA ((f:Int)-(e:Int))/\R (iI ((f:Int)-(e:Int))) a):ρ 211 [iI A,iI B,(.pointer (some c))] w R:=rv Tryz.func211 h
theorem Cw(h:τ [(6,aN)] λc d=>c 0 w/\∀(_:ν) e f,c e f->rEb 295 [vP a,iI e,vS b i j] f λj h=>br (!j) (aA (e+1)/\nA c d (e+1) h e f) (nn a λc=>cLs h c λd f g=>idx d f A 1 λc=>st1 h c (iI e) λc=>τ [(26,aN)] λd f=>d 0 c/\∀(_:ν) c g,d c g->bQ (c<(i:Int)) (idx b i c 2 λb=>∃h i,rA g b 2 [iI h,iI i]/\new g (oC [iI 0,iI 0] 203) λb j=>bA j (aM b) [iI h,iI i] λh=>τ [] λi j=>i h/\∀(_:ν) h,i h->dW1 h λk l=>nn a λm=>dLs l (m.add 2) λn o p=>dLi l (aM b) λm=>aA (e+m)/\bQ ((o:Int)<=e+m) (nn a λb=>cLs k (b.add 2) λc d e=>new k (oC [iI (-1)] 3) λb f=>rS (fW1 24 [vS c d e,vS (some (aM b)) 1 1]) f λb c=>∃d e f,b=vS d e f/\nn a λb=>st1 c (b.add 2) (vS d e f) λb=>nn a λc=>cLs b (c.add 1) λd e f=>new b (oC [iI 0] 3) λb c=>rS (fW1 24 [vS d e f,vS (some (aM b)) 1 1]) c λb c=>∃d e f,b=vS d e f/\nn a λa=>st1 c (a.add 1) (vS d e f) λa=>i a/\j a<j h) (dW1 k λh i=>nn a λj=>dLs i (j.add 2) λk l m=>dLi i (aM b) λj=>aA (e+j)/\nn a λa=>dLs i (a.add 1) λm n o=>dLi i (aM b) λa=>aA (e+a)/\dLi i (Addr.add (aM b) 1) λo=>idx k l (e+j) 1 λb=>st1 h b (iI A) λb=>i b/\idx m n (e+a) 1 λa=>st1 b a (iI o) λa=>aA (c+1)/\nA d f (c+1) a c g)) (R (vU []) g))):ρ 212 [.pointer a,iI A,vS b i j] w R:=rv Tryz.func212 h ⟨[(1,[(6,aN)]),(5,[(26,aN)]),(7,[])],[],[],[]⟩
theorem gk{d:FuncId}{e:List Value}(h:τ [(8,aN)] λb c=>b 0 w/\∀(_:ν) f g,b f g->bQ (f<(i:Int)) (idx a i f 1 λa=>∃h i j,World.cell? g a=some (vS h i j)/\pj (Fn d) (rEb d (vS h i j::e) g λe d=>br e (R (iI f) d) (aA (f+1)/\nA b c (f+1) d f g))) (R (iI (-1)) g)):ρ 293 [vS a i j,(.func (.func d) #[] ⟨e⟩)] w R:=rv Tryz.func293 h ⟨[(2,[(8,aN)])],[],[],[]⟩
theorem A0(h:new w (oC [vP a] 364) λa c=>new c (oC [iI A] 3) λc d=>rEb 354 [vS b i j,vF1 355 [vP (some (aM c)),vP (some (aM a))]] d λc b=>R (vB !c) b):ρ 295 [.pointer a,iI A,vS b i j] w R:=rv Tryz.func295 h
theorem f_{d:FuncId}{e:List Value}(h:rEi 386 [vS a i j,vF1 d e] w λc b=>R (vB (decide (0<=c))) b):ρ 354 [vS a i j,(.func (.func d) #[] ⟨e⟩)] w R:=rv Tryz.func354 h
theorem v_{c:Addr}{d:Addr}(h:new w (oC [iI A,iI B] 203) λa b=>dW1 b λe b=>dLi b c λf=>dLi b (aM a) λg=>aA (f+g)/\dLp b d λh=>nn h λh=>dLs b (h.add 2) λi j k=>bQ (f+g<(j:Int)) (dLp b d λf=>nn f λd=>dLs b (d.add 2) λf g h=>dLi b c λd=>dLi b (aM a) λc=>aA (d+c)/\idx f g (d+c) 1 λa=>dLi b a λc=>R (vB (decide (0<=c))) e) (R (vB false) e)):ρ 355 [(.agg #[iI A,iI B]),(.pointer (some c)),(.pointer (some d))] w R:=rv Tryz.func355 h
theorem gU{d:FuncId}{e:List Value}(h:τ [(8,aN)] λb c=>b 0 w/\∀(_:ν) f g,b f g->bQ (f<(i:Int)) (idx a i f 2 λa=>∃h i,rowAt g a 0 2=some [iI h,iI i]/\pj (Fn d) (rEb d (vG [iI h,iI i]::e) g λe d=>br e (R (iI f) d) (aA (f+1)/\nA b c (f+1) d f g))) (R (iI (-1)) g)):ρ 386 [vS a i j,(.func (.func d) #[] ⟨e⟩)] w R:=rv Tryz.func386 h ⟨[(2,[(8,aN)])],[],[],[]⟩
theorem F6{a:aiz}{b c:Nat}{d:aiz}{e f:Nat}{g:aiz}{i j:Nat}{k:aiz}{l m:Nat}{n:aiz}{o p:Nat}{q:aiz}{s t:Nat}{u:aiz}{v x:Nat}{y:aiz}{z aa:Nat}{ab ac:Int}{w:aiA}{R:Value->WP}(h:new w (oC [vS a b c,vS d e f,vS g i j,vS k l m,vS n o p,vS q s t,vS u v x,vS y z aa] 106) λa b=>new b (oC [iI 0,iI 0] 170) λb c=>∃d e f g h i j k l,rA c (Addr.add (aM a) 1) 3 [vS d e f,vS g h i,vS j k l]/\rE 425 [vG [vS d e f,vS g h i,vS j k l],iI ab,iI ac] c λc d=>∃e f,c=vU [iI e,vB f]/\∃(c:lP []),(∃(g:lP [(17,yV)]),br f (g (decide (0<e)) d) (g false d)/\∀(_:ν) d h,g d h->br d (aA (e-1)/\bA h (aM b) [iI 1,iI (e-1)] λa=>∃c d,rA a (aM b) 2 [iI c,iI d]/\R (vG [iI c,iI d]) a) (∃(d:lP [(26,yV)]),br f (d (decide (e< -1)) h) (d false h)/\∀(_:ν) g h,d g h->br g (aA (-1-e)/\bA h (aM b) [iI 2,iI (-1-e)] λa=>∃c d,rA a (aM b) 2 [iI c,iI d]/\R (vG [iI c,iI d]) a) (∃(d:lP [(35,yV)]),br f (d (decide (e<0)) h) (d false h)/\∀(_:ν) e g,d e g->br e (bA g (aM b) [iI 3,iI 0] λa=>∃c d,rA a (aM b) 2 [iI c,iI d]/\R (vG [iI c,iI d]) a) (br f (bA g (aM b) [iI 4,iI 0] λa=>∃c d,rA a (aM b) 2 [iI c,iI d]/\R (vG [iI c,iI d]) a) (bQ (0<=ab) (cLs g (aM a) λd e f=>bQ (ab<(e:Int)) (cLs g (aM a) λd e f=>idx d e ab 1 λd=>cLi g d λe=>bQ (0<e) (cLs g (aM a) λc d e=>idx c d ab 1 λa=>cLi g a λc=>bA g (aM b) [iI 2,iI c] λa=>∃c d,rA a (aM b) 2 [iI c,iI d]/\R (vG [iI c,iI d]) a) (c g)) (c g)) (c g))))))/\∀(_:ν) a,c a->bA a (aM b) [iI 0,iI 0] λa=>∃c d,rA a (aM b) 2 [iI c,iI d]/\R (vG [iI c,iI d]) a):ρ 423 [(.agg #[vS a b c,vS d e f,vS g i j,vS k l m,vS n o p,vS q s t,vS u v x,vS y z aa]),iI ab,iI ac] w R:=rv Tryz.func423 h ⟨[],[(12,[]),(3,[(17,yV)]),(5,[(26,yV)]),(7,[(35,yV)])],[],[]⟩
theorem J6{a:aiz}{b c:Nat}{d:aiz}{e f:Nat}{g:aiz}{i j:Nat}{k:aiz}{l m:Nat}{n:aiz}{o p:Nat}{q:aiz}{s t:Nat}{u:aiz}{v x:Nat}{y:aiz}{z aa:Nat}{ab ac:Int}{w:aiA}{R:Value->WP}(h:new w (oC [vS a b c,vS d e f,vS g i j,vS k l m,vS n o p,vS q s t,vS u v x,vS y z aa] 106) λa b=>∃c d e f g h i j k,rA b (Addr.add (aM a) 5) 3 [vS c d e,vS f g h,vS i j k]/\rE 425 [vG [vS c d e,vS f g h,vS i j k],iI ac,iI ab] b λb c=>∃d e,b=vU [iI d,vB e]/\br e (R (iI d) c) (bQ (0<=ac) (cLs c (Addr.add (aM a) 4) λb d e=>bQ (ac<(d:Int)) (cLs c (Addr.add (aM a) 4) λb d e=>idx b d ac 1 λa=>cLi c a λb=>R (iI b) c) (R (iI (-1)) c)) (R (iI (-1)) c))):ρ 424 [(.agg #[vS a b c,vS d e f,vS g i j,vS k l m,vS n o p,vS q s t,vS u v x,vS y z aa]),iI ab,iI ac] w R:=rv Tryz.func424 h
theorem OX(h:new w (oC [vS a i j,vS b k l,vS c m n] 104) λa b=>∃(c:lP [(22,yV)]),bQ (A<0) (c true b) (cLs b (aM a) λd e f=>bQ ((e:Int)<=A) (c true b) (c (decide (B<0)) b))/\∀(_:ν) b d,c b d->br b (R (vU [iI 0,vB false]) d) (dW1 d λb c=>dLs c (aM a) λd e f=>idx d e A 1 λd=>dLi c d λe=>dLs c (Addr.add (aM a) 1) λd f g=>dLs c (Addr.add (aM a) 2) λd g h=>∃(c:lP [(59,yV)]),bQ (e<0) (c true b) (bQ ((if(g:Int)<(f:Int) then(g:Int) else(f:Int))<e) (c true b) (aA ((if(g:Int)<(f:Int) then(g:Int) else(f:Int))-e)/\bQ ((if(g:Int)<(f:Int) then(g:Int) else(f:Int))-e<=B) (c true b) (cLs b (Addr.add (aM a) 2) λd f g=>aA (e+B)/\idx d f (e+B) 1 λa=>cLi b a λd=>c (d !=A) b)))/\∀(_:ν) b d,c b d->br b (R (vU [iI 0,vB false]) d) (cLs d (Addr.add (aM a) 1) λb c f=>aA (e+B)/\idx b c (e+B) 1 λa=>cLi d a λb=>R (vU [iI b,vB true]) d))):ρ 425 [(.agg #[vS a i j,vS b k l,vS c m n]),iI A,iI B] w R:=rv Tryz.func425 h ⟨[],[(2,[(22,yV)]),(5,[(59,yV)])],[],[]⟩
end
structure fT where
 bs:List Int
 vs:List Int
 os:List Int
def My(r:fT)(row place:Int):Bool:=decide (row<0)||(decide ((r.bs.length:Int)<=row)||decide (place<0))
def Mz(r:fT):Nat:=min r.vs.length r.os.length
def Eg(r:fT)(row:Int):Int:=r.bs.getD row.toNat 0
def J7(r:fT)(row place:Int):Bool:=decide (Eg r row<0)||(decide ((Mz r:Int)<Eg r row)||(decide ((Mz r:Int)-Eg r row<=place)||decide (r.os.getD (Eg r row+place).toNat 0≠row)))
def atR(r:fT)(row place:Int):Option Int:=if My r row place||J7 r row place then none else some (r.vs.getD (Eg r row+place).toNat 0)
def agw:Option Int->Value
 |some x=>.tuple #[.int .i64 x,.bool true]
 |none=>.tuple #[.int .i64 0,.bool false]
structure PkR(h:Hp)(r:fT)(a:aiz)(b:Nat)(d:aiz)(e:Nat)(g:aiz)(i:Nat):Prop where
 rb:aX h r.bs a b
 rv:aX h r.vs d e
 ro:aX h r.os g i
 lv:e<=1000000
 lo:i<=1000000
 bd:∀x∈r.vs,-1000000<=x/\x<=1000000
theorem PkR.mono{h h':Hp}{r:fT}{a:aiz}{b:Nat}{d:aiz}{e:Nat}{g:aiz}{i:Nat}(s:sub h h')(p:PkR h r a b d e g i):PkR h' r a b d e g i:=⟨p.rb.mono s,p.rv.mono s,p.ro.mono s,p.lv,p.lo,p.bd⟩
theorem pH{h:Hp}{xs:List Int}{a:aiz}{l:Nat}(r:aX h xs a l){i:Nat}(hi:i<l):∃ad,a=some ad/\∀w,sub h (hp w)->w.cell? (ad.add i)=some (iI (xs.getD i 0)):=by
 obtain⟨x,u⟩:∃x,xs[i]? =some x:=⟨_,agM (by rw[r.1];exact hi)⟩;obtain⟨ad,J,O⟩:=r.at u;refine⟨ad,J,λw s=>?_⟩;rw[O w s,agU,u];rfl
section
variable{w:aiA}{r:fT}{a d g:aiz}{b c e f i j:Nat}
theorem afD(p:PkR (hp w) r a b d e g i)(row place:Int):ρ 425 [.agg #[vS a b c,vS d e f,vS g i j],iI row,iI place] w λv w'=>v=agw (atR r row place)/\Gr w w':=by
 have eb:=p.rb.1;have ev:=p.rv.1;have eo:=p.ro.1;have Y:(if(i:Int)<(e:Int) then(i:Int) else(e:Int))=(Mz r:Int):=by unfold Mz;rw[ev,eo];split<;>omega
 have hl:Mz r<=e/\Mz r<=i:=by unfold Mz;rw[ev,eo];omega
 have lv:=p.lv;refine OX (ag (St.all w) λk1 w1 h1=>?_);have g1:Gr w w1:=h1.aP
 refine⟨λx u=>u=w1/\x=My r row place,?_,?_⟩
 ·refine ae (λO=>⟨rfl,by simp[My,agQ O]⟩) λO=>⟨_,_,_,h1.cell 0,ae (λU=>⟨rfl,?_⟩) λU=>⟨rfl,?_⟩⟩
  ·have:=agQ U;simp[My,eb,this]
  ·have O:=agO O;have U:=agO U;unfold My;rw[eb,ahf O,ahf U];rfl
 rintro _ _ w2⟨rfl,rfl⟩
 refine ae (λO=>?_) λO=>λZ hd=>?_
 ·refine⟨?_,g1⟩;unfold atR;rw[O];rfl
 have e3:=aQ hd;have U:=h1.eq e3;have g3:Gr w Z:=g1.trans (Gr.of_eq e3);have hA:=O;unfold My at O;simp only[Bool.or_eq_false_iff,aix] at O;obtain⟨q1,q2,q3⟩:=O;obtain⟨n,rfl⟩:∃n:Nat,row=n:=⟨row.toNat,ω⟩;obtain⟨m,rfl⟩:∃n:Nat,place=n:=⟨place.toNat,ω⟩;obtain⟨ab,rfl,cb⟩:=pH p.rb (i:=n) ω;have X:r.bs.getD n 0=Eg r (n:Int):=rfl;refine⟨λu=>hp u=hp Z,rfl,_,_,_,λu e=>(by rw[cG e];exact U.cell 0:World.cell? u _=_),ax rfl ω ⟨_,λu e=>cb u (by rw[e];exact g3),_,_,_,λu e=>(by rw[ak,cG e];exact U.cell 1:World.cell? u _=_),_,_,_,λu e=>(by rw[ak,cG e];exact U.cell 2:World.cell? u _=_),?_⟩⟩;try dsimp only;rw[Y,X]
 refine⟨λx u=>u=Z/\x=J7 r (n:Int) (m:Int),?_,?_⟩
 ·refine ae (λJ=>⟨rfl,by simp[J7,agQ J]⟩) λJ=>ae (λW=>⟨rfl,by simp[J7,agQ W]⟩) λW=>?_;have J:=agO J;have W:=agO W;refine⟨ξ,ae (λV=>⟨rfl,by simp[J7,agQ V]⟩) λV=>?_⟩;have V:=agO V;obtain⟨t,ht⟩:∃t:Nat,Eg r (n:Int)+(m:Int)=t:=⟨(Eg r (n:Int)+(m:Int)).toNat,ω⟩;obtain⟨ao,rfl,co⟩:=pH p.ro (i:=t) ω;refine⟨_,_,_,by rw[ak];exact U.cell 2,ξ,?_⟩;rw[ht];refine ax rfl ω ⟨_,co _ g3,rfl,?_⟩;unfold J7;rw[ht,ahf J,ahf W,ahf V];simp only[Bool.false_or,agZ];rw[ahN];simp
 rintro _ _ w4⟨rfl,rfl⟩
 refine ae (λJ=>?_) λJ=>?_
 ·refine⟨?_,g3⟩;unfold atR;rw[hA,J];rfl
 ·have hB:=J;unfold J7 at J;simp only[Bool.or_eq_false_iff,aix] at J;obtain⟨p1,p2,p3,p4⟩:=J;obtain⟨t,ht⟩:∃t:Nat,Eg r (n:Int)+(m:Int)=t:=⟨(Eg r (n:Int)+(m:Int)).toNat,ω⟩;obtain⟨av,rfl,cv⟩:=pH p.rv (i:=t) ω;refine⟨_,_,_,by rw[ak];exact U.cell 1,ξ,?_⟩;rw[ht];refine ax rfl ω ⟨_,cv _ g3,?_,g3⟩;unfold atR;rw[hA,hB,ht,agZ];rfl
end
section
open MapKept
section
variable{κ:Type}[DecidableEq κ][MVal κ]{P:Program}{Ty:TypeId->Option dD}{w:aiA}{L:List aE}{b r:Nat}{m:List (κ×Value)}{ks:List κ}
structure aaR(es:Array MapEntry)(seen:Array Nat)(m:List (κ×Value))(ks:List κ):Prop where
 perm:(ks.map MVal.val++(leftOf es seen).toList.map (·.key)).Perm (m.map λx=>MVal.val x.1)
def tI(b r:Nat)(m:List (κ×Value))(ks:List κ):aE:=ex λ(x:Array MapEntry×Nat×Array Nat)=>aV [pu (z_ x.1 x.2.1 m/\aaR x.1 x.2.2 m ks),blk b (.map x.1 x.2.1),blk r (.mapIter (some b) x.2.1 x.2.2 x.2.1)]
def MA(b r:Nat)(m:List (κ×Value))(ks:List κ)(k:κ)(u:Value):aE:=ex λ(x:Array MapEntry×Nat×Array Nat×MapEntry)=>
 aV [pu (z_ x.1 x.2.1 m/\aaR x.1 (x.2.2.1.push x.2.2.2.born) m ks/\x.2.2.2∈x.1.toList/\x.2.2.2.key=MVal.val k/\x.2.2.2.val=u),blk b (.map x.1 x.2.1),blk r (.mapIter (some b) x.2.1 (x.2.2.1.push x.2.2.2.born) x.2.1)]
theorem yF:St w (tI b r m ks::L)↔∃es cl seen,z_ es cl m/\aaR es seen m ks/\St w (blk b (.map es cl)::blk r (.mapIter (some b) cl seen cl)::L):=by
 constructor
 ·intro h;obtain⟨⟨es,cl,seen⟩,h⟩:=St.ex.1 h
  grind[St.pu,St.flat]
 ·rintro⟨es,cl,seen,J,O,u⟩;exact St.ex.2 ⟨⟨es,cl,seen⟩,St.flat.2 (St.pu.2 ⟨⟨J,O⟩,u⟩)⟩
theorem A5{k:κ}{u:Value}:St w (MA b r m ks k u::L)↔∃es cl,∃(seen:Array Nat)(e:MapEntry),z_ es cl m/\aaR es (seen.push e.born) m ks/\e∈es.toList/\e.key=MVal.val k/\e.val=u/\St w (blk b (.map es cl)::blk r (.mapIter (some b) cl (seen.push e.born) cl)::L):=by
 constructor
 ·intro h;obtain⟨⟨es,cl,seen,e⟩,h⟩:=St.ex.1 h
  grind[St.pu,St.flat]
 ·rintro⟨es,cl,seen,e,W,X,J,O,U,V⟩;exact St.ex.2 ⟨⟨es,cl,seen,e⟩,St.flat.2 (St.pu.2 ⟨⟨W,X,J,O,U⟩,V⟩)⟩
theorem KV{k:κ}{u:Value}(h:St w (MA b r m ks k u::L)):St w (tI b r m ks::L):=by grind[seen,A5,yF]
theorem KW(h:St w (tI b r m ks::L)):St w (mapA b m::L):=by
 obtain⟨es,cl,seen,J,O,u⟩:=yF.1 h;exact mL.2 ⟨es,cl,J,u.swap.tail⟩
theorem KX(hT:ec P Ty){t kt et:TypeId}(hk:ai Ty t=.map kt et)(h:St w (mapA b m::L)):
  aY P (Instr.range t (.map (some b))) w λv w'=>∃r,v=.pointer (some ⟨r,0,none⟩)/\St w' (tI b r m ([]:List κ)::L):=by
 obtain⟨d,O,u⟩:=dJ hT hk σ;rw[BX u] at O;obtain⟨es,cl,J,h⟩:=mL.1 h
 refine⟨_,_,run_range_map w t kt et b es cl O h.get,Ev.push w _,_,rfl,yF.2 ⟨es,cl,#[],J,⟨?_⟩,?_⟩⟩
 ·have U:leftOf es #[]=es:=by simp[leftOf]
  rw[U];have:=congrArg (List.map Prod.fst) J.eq;simp only[air] at this;have V:es.toList.map (·.key)=m.map λx=>MVal.val x.1:=this
  simp_all
 ·exact(h.push (.mapIter (some b) cl #[] cl)).swap
theorem OY(e:MapEntry):∀(l:List MapEntry),(l.map (·.born)).Nodup->e∈l->l.Perm (e::l.filter λx=>decide (x.born≠e.born))
 |x::l,hn,he=>by
  have hn':x.born∉l.map (·.born)/\(l.map (·.born)).Nodup:=ahE.1 hn
  rcases ag6.1 he with rfl|h
  ·have:l.filter (λx=>decide (x.born≠e.born))=l:=List.filter_eq_self.2 λx hx=>by simp_all
   rw[List.filter_cons,agW σ,this]
  ·have hx:x.born≠e.born:=λe'=>hn'.1 (by grind)
   rw[List.filter_cons,ag0 (by simp_all)]
   exact(List.Perm.cons x (OY e l hn'.2 h)).trans (.swap _ _ _)
theorem St.setIter{b':Option Nat}{s c:Nat}{seen:Array Nat}(h:St w (blk r (.mapIter b' s seen c)::L)){w1:aiA}(hw:w1=w\/w1=w.drew)(o:Obj)(ho:NG o=true:=by rfl):Ev w (ChangeMaps.setBlock w1 r o)/\St (ChangeMaps.setBlock w1 r o) (blk r o::L):=by
 have J:St w1 (blk r (.mapIter b' s seen c)::L):=by
  rcases hw with rfl|rfl
  ·omega
  ·exact h.same rfl
 have O:Ev w w1:=by
  rcases hw with rfl|rfl
  ·exact Ev.refl _
  ·exact Ev.drew _ _
 refine⟨O.trans ⟨rfl,rfl,rfl,by simp[ChangeMaps.setBlock],?_,?_⟩,J.setObj o ho⟩<;>
 ·intro x d u;unfold ChangeMaps.setBlock;rw[Array.getElem?_setIfInBounds_ne];exact u;intro e;subst e;rw[J.get] at u;grind
theorem adK{es:Array MapEntry}{cl:Nat}{e:MapEntry}(h:z_ es cl m)(he:e∈es.toList):∃k,(k,e.val)∈m/\e.key=MVal.val k:=by
 have:(e.key,e.val)∈es.toList.map λe=>(e.key,e.val):=agY.2 ⟨e,he,rfl⟩;rw[h.eq] at this
 grind
theorem val_inj{a c:κ}(h:MVal.val a=MVal.val c):a=c:=MVal.inj a c h
theorem OZ{α β:Type}{f:α->β}(hf:∀a c,f a=f c->a=c):∀{l l':List α},(l.map f).Perm (l'.map f)->l.Perm l'
 |[],[],_=>.refl _
 |[],_::_,h=>by simp_all
 |a::l,l',h=>by
  have hm:f a∈l'.map f:=h.subset σ
  obtain⟨x,hx,e⟩:=agY.1 hm
  have:=hf _ _ e
  subst this
  obtain⟨s,t,rfl⟩:=List.append_of_mem hx
  have h2:(f x::l.map f).Perm (f x::(s++t).map f):=h.trans σ
  exact(List.Perm.cons x (OZ hf ((List.perm_cons _).1 h2))).trans ahG.symm
theorem O0{ty:TypeId}(h:St w (tI b r m ks::L)):aY P (Instr.next (.pointer (some ⟨r,0,none⟩)) false ty) w λv w'=>
  (v=.tuple #[vB false]/\ks.Perm (m.map Prod.fst)/\St w' (mapA b m::L))\/
  ∃(k:κ)(u:Value),(k,u)∈m/\v=.tuple #[vB true,MVal.val k,u]/\ks.length<m.length/\St w' (MA b r m (ks++[k]) k u::L):=by
 have U:=KW h;obtain⟨es,cl,seen,V,h2,X⟩:=yF.1 h
 rcases run_next_at (P:=P) w ty r b cl cl seen es cl X.swap.get X.get V.lt (agT _) with⟨h4,Y⟩|⟨e,he,w1,hw,Y⟩
 ·refine⟨_,_,Y,Ev.refl _,.inl ⟨rfl,?_,U⟩⟩;have h6:=h2.perm;have e1:(leftOf es seen).toList=[]:=ag2 ω;rw[e1,List.map_nil,ahe] at h6;have e2:(m.map λx=>MVal.val (κ:=κ) x.1)=(m.map Prod.fst).map MVal.val:=σ
  grind[OZ,val_inj]
 ·have O:e∈es.toList:=by simp_all[leftOf]
  obtain⟨k,a0,hk⟩:=adK V O;obtain⟨Z,W⟩:=St.setIter (X.swap) hw (.mapIter (some b) cl (seen.push e.born) cl)
  have a4:((leftOf es seen).toList.map (·.born)).Nodup:=by
   refine V.nd.sublist ?_;simp[leftOf,List.Sublist.map,List.filter_sublist]
  have J:=OY e _ a4 he
  have e3:(leftOf es seen).toList.filter (λx=>decide (x.born≠e.born))=(leftOf es (seen.push e.born)).toList:=by
   unfold leftOf;rw[Array.toList_filter,Array.toList_filter,List.filter_filter]
   grind
  rw[e3] at J;have hp:=h2.perm
  have a5:(MVal.val k::(leftOf es (seen.push e.born)).toList.map (·.key)).Perm ((leftOf es seen).toList.map (·.key)):=by
   have:=(J.map (·.key)).symm
   simp_all
  refine⟨_,_,Y,Z,.inr ⟨k,e.val,a0,by grind,?_,A5.2 ⟨es,cl,seen,e,V,⟨?_⟩,O,hk,rfl,W.swap⟩⟩⟩
  ·have:=hp.length_eq
   grind
  ·refine List.Perm.trans ?_ hp
   simp_all[List.map_nil,List.Perm.append_left]
theorem KY{k:κ}{u:Value}(h:St w (MA b r m ks k u::L)):aY P (Instr.entry (.pointer (some ⟨r,0,none⟩))) w λv w'=>v=.tuple #[MVal.val k,u]/\w'=w:=by
 obtain⟨es,cl,seen,e,U,X,J,W,V,O⟩:=A5.1 h;have:=run_entry_at (P:=P) w r b cl seen es cl e O.swap.get O.get J U.nd;rw[W,V] at this;exact⟨_,_,this,Ev.refl _,rfl,rfl⟩
end
section
variable{κ α:Type}[DecidableEq κ]{w:aiA}{L:List aE}{b sz:Nat}{f:List α->List Value}{s t:κ}
abbrev Lq(α:Type):=(aiz×Nat)×List α
def bX(q:Lq α):Value:=vS q.1.1 q.2.length q.1.2
def bI(sz:Nat)(f:List α->List Value)(q:Lq α):aE:=own sz q.1.1 q.2.length q.1.2 (f q.2)
def mV(ps:List (κ×Lq α)):List (κ×Value):=ps.map λq=>(q.1,bX q.2)
def mO(sz:Nat)(f:List α->List Value)(ps:List (κ×Lq α)):List aE:=ps.map λq=>bI sz f q.2
def fN(s:κ):List (κ×Lq α)->Option (Lq α)
 |[]=>none
 |(a,q)::m=>if s=a then some q else fN s m
def j6(s:κ)(ps:List (κ×Lq α)):List α:=match fN s ps with|some q=>q.2|none=>[]
def pI(s:κ)(q:Lq α):List (κ×Lq α)->List (κ×Lq α)
 |[]=>[(s,q)]
 |(a,u)::m=>if s=a then(s,q)::m else(a,u)::pI s q m
theorem jD:∀ps:List (κ×Lq α),assoc s (mV ps)=(fN s ps).map bX
 |[]=>rfl
 |(a,q)::m=>by
  show(if s=a then some (bX q) else assoc s (mV m))=_
  unfold fN
  split
  ·rfl
  ·exact jD m
theorem XD(q:Lq α):∀ps:List (κ×Lq α),mV (pI s q ps)=cV s (bX q) (mV ps)
 |[]=>rfl
 |(a,u)::m=>by
  unfold pI
  show _=(if s=a then(s,bX q)::mV m else(a,bX u)::cV s (bX q) (mV m))
  split
  ·rfl
  ·rw[<-XD q m];rfl
theorem O1(q:Lq α):∀ps:List (κ×Lq α),fN t (pI s q ps)=if t=s then some q else fN t ps
 |[]=>by rfl
 |(a,u)::m=>by
  unfold pI
  by_cases h:s=a
  ·simp_all[fN]
  ·rw[agW h]
   unfold fN
   rw[O1 q m]
   grind
theorem nk(q:Lq α)(ps:List (κ×Lq α)):j6 t (pI s q ps)=if t=s then q.2 else j6 t ps:=by grind[j6,O1]
theorem Eh(q:Lq α):∀ps:List (κ×Lq α),(pI s q ps).map Prod.fst=if s∈ps.map Prod.fst then ps.map Prod.fst else ps.map Prod.fst++[s]
 |[]=>by rfl
 |(a,u)::m=>by
  unfold pI
  by_cases h:s=a
  ·simp_all
  ·rw[agW h,ahw,Eh q m]
   grind
theorem MB(q:Lq α){ps:List (κ×Lq α)}(h:(ps.map Prod.fst).Nodup):((pI s q ps).map Prod.fst).Nodup:=by grind[Eh,List.nodup_append]
theorem HV{q:Lq α}:∀{ps:List (κ×Lq α)},fN s ps=some q->(s,q)∈ps
 |[],h=>by cases h
 |(a,u)::m,h=>by
  unfold fN at h
  split at h
  ·simp_all
  ·exact ahQ _ (HV h)
theorem XE{ps:List (κ×Lq α)}:(fN s ps).isSome=true↔s∈ps.map Prod.fst:=by
 induction ps with
 |nil=>simp[fN]
 |cons x m ih=>
  obtain⟨a,u⟩:=x;unfold fN
  grind
theorem O2(sz:Nat)(f:List α->List Value)(s:κ):∀ps:List (κ×Lq α),
  (∃q M,fN s ps=some q/\(mO sz f ps).Perm (bI sz f q::M)/\∀q',(mO sz f (pI s q' ps)).Perm (bI sz f q'::M))\/(fN s ps=none/\∀q',(mO sz f (pI s q' ps)).Perm (bI sz f q'::mO sz f ps))
 |[]=>.inr ⟨rfl,λq'=>.refl _⟩
 |(a,u)::m=>by
  by_cases h:s=a
  ·refine .inl ⟨u,mO sz f m,by grind[fN],.refl _,λq'=>?_⟩
   simp only[pI,h,if_true];rfl
  ·rcases O2 sz f s m with⟨q,M,h1,h2,h3⟩|⟨h1,h2⟩
   ·refine .inl ⟨q,bI sz f u::M,by simp_all[fN],(List.Perm.cons _ h2).trans (.swap _ _ _),λq'=>?_⟩
    simp only[pI,h,if_false]
    exact(List.Perm.cons _ (h3 q')).trans (.swap _ _ _)
   ·refine .inr ⟨by simp_all[fN],λq'=>?_⟩
    simp only[pI,h,if_false]
    exact(List.Perm.cons _ (h2 q')).trans (.swap _ _ _)
theorem uP(hf:f []=[]){ps:List (κ×Lq α)}(h:St w (aV (mO sz f ps)::L))(s:κ):∃(q:Lq α)(M:List aE),(assoc s (mV ps)).getD (zS)=bX q/\q.2=j6 s ps/\St w (bI sz f q::aV M::L)/\
  ∀(w':aiA)(L':List aE)(q':Lq α),St w' (bI sz f q'::aV M::L')->St w' (aV (mO sz f (pI s q' ps))::L'):=by
 have back:∀(M:List aE)(q':Lq α),(mO sz f (pI s q' ps)).Perm (bI sz f q'::M)->∀(w':aiA)(L':List aE),St w' (bI sz f q'::aV M::L')->St w' (aV (mO sz f (pI s q' ps))::L'):=λM q' hp w' L' h=>by
  have J:=St.flat.1 h.swap;have u:St w' ((bI sz f q'::M)++L'):=J.perm ahG;exact St.flat.2 (u.perm (hp.symm.append_right _))
 rcases O2 sz f s ps with⟨q,M,J,u,O⟩|⟨J,u⟩
 ·refine⟨q,M,by simp_all[jD],by simp_all[j6],?_,λw' L' q'=>back M q' (O q') w' L'⟩;have U:=(St.flat.1 h).perm (u.append_right _);have V:St w (M++(bI sz f q::L)):=U.perm ahG.symm;exact(St.flat.2 V).swap
 ·refine⟨((none,0),[]),mO sz f ps,by rw[jD,J];rfl,by simp_all[j6],?_,λw' L' q'=>back _ q' (u q') w' L'⟩
  simp_all[bI,aI]
theorem HW:∀{L:List aE}{i:Nat}(h:i<L.length),vv L i=L[i]
 |[],i,h=>by grind
 |A::L,0,_=>rfl
 |A::L,i+1,h=>by
  show vv L i=_
  rw[HW (L:=L) (by simp_all)];rfl
theorem S_{ps:List (κ×Lq α)}{h:Hp}(hs:aF (aV (mO sz f ps)::L) h){q:Lq α}(hq:fN s ps=some q):∃h1,sub h1 h/\bI sz f q h1:=by
 have O:=pg.1 hs;have u:bI sz f q∈mO sz f ps:=agY.2 ⟨(s,q),HV hq,rfl⟩;obtain⟨i,hi⟩:=ahb u;have J:=(agN.1 hi).1;obtain⟨h1,s1,ha⟩:=eO i (by grind) O;have e:vv (mO sz f ps++L) i=bI sz f q:=by grind[HW,List.length_append,List.getElem_append_left,List.getElem?_eq_some_iff]
 rw[e] at ha
 grind
end
section
variable{κ:Type}[DecidableEq κ][MVal κ]{P:Program}{Ty:TypeId->Option dD}{w:aiA}{b:Nat}{m:List (κ×Value)}{h:Hp}
theorem A6{α:Type}{sz:Nat}{f:List α->List Value}{L:List aE}{s:κ}{ps:List (κ×Lq α)}{M:List aE}(back:∀(w':aiA)(L':List aE)(q':Lq α),St w' (bI sz f q'::aV M::L')->St w' (aV (mO sz f (pI s q' ps))::L'))
  {o:aiz} {n c:Nat} (us:List α) {vs:List Value} (hn:n=us.length) (hv:vs=f us) (h:St w (mapA b (cV s (vS o n c) (mV ps))::own sz o n c vs::aV M::L)):
  St w (mapA b (mV (pI s ((o,c),us) ps))::aV (mO sz f (pI s ((o,c),us) ps))::L):=by
 subst hn;subst hv;have e:mV (pI s ((o,c),us) ps)=cV s (vS o us.length c) (mV ps):=XD _ _;rw[e];exact(back w _ ((o,c),us) (h.pick 3 [1,2,0])).swap
theorem U1{A:aE}(hA:A h):aF [A] h:=⟨h,λ_=>none,λ_=>.inr rfl,sZZ,λ_ _ h=>(nomatch h),hA,trivial⟩
theorem fB{h':Hp}(s:sub h h')(hm:mapA b m h):mapA b m h':=by
 obtain⟨es,cl,u,J⟩:=hm;exact⟨es,cl,s _ _ u,J⟩
theorem eW(hm:mapA b m h)(s:sub h (hp w))(hT:ec P Ty){t kt et:TypeId}{i:dD}{z:Value}(hk:ai Ty t=.map kt et)(hkt:wU P kt κ)(hi:Ty et=some i)(hz:i.zero=some z)(k:κ):
  aY P (Instr.lookup t (.map (some b)) (MVal.val k) false) w λv w'=>v=(assoc k m).getD z/\w'=w:=
 qN (L:=[]) hT hk hkt hi hz (U1 (fB s hm)) k
end
section
variable{κ:Type}[DecidableEq κ][BW κ]{P:Program}{Ty:TypeId->Option dD}{w:aiA}{b:Nat}{m:List (κ×Value)}{h:Hp}
theorem O3(hm:mapA b m h)(s:sub h (hp w))(hT:ec P Ty){t kt et:TypeId}{i:dD}{z:Value}(hk:ai Ty t=.map kt et)(hkt:P.underlying kt=some (BW.kd κ))(hi:Ty et=some i)(hz:i.zero=some z)(k:κ):
  aY P (Instr.lookup t (.map (some b)) (MVal.val k) false) w λv w'=>v=(assoc k m).getD z/\w'=w:=eW hm s hT hk (wU.Hy hkt) hi hz k
end
def Z7(g:ah)(j:Nat)(s:Int):List Nat:=(List.range j).filter λi=>decide ((g.prods[i]?.map aJ.left)=some s)
abbrev Jp(g:ah)(s:Int):List Nat:=Z7 g g.prods.length s
theorem HX{g:ah}{j:Nat}{p:aJ}(h:g.prods[j]? =some p)(s:Int):Z7 g (j+1) s=Z7 g j s++if s=p.left then[j] else[]:=by
 unfold Z7;rw[ahA,aho]
 grind
theorem MC(g:ah)(j:Nat)(s:Int):(Z7 g j s).length<=j:=by
 have:=ahs (λi=>decide ((g.prods[i]?.map aJ.left)=some s)) (List.range j);rwa [ahL] at this
theorem yG{g:ah}{s:Int}{i:Nat}:i∈Jp g s↔∃p,g.prods[i]? =some p/\p.left=s:=by
 unfold Jp Z7
 grind
structure MkR(h:Hp)(g:ah)(k:Nat):Prop where
 ex:∃(x:GA)(kb:Nat)(m:List (Int×Value)),aq h (aM k) (x.cells++[.map (some kb)])/\gR h g x/\mapA kb m h/\
  ∀s:Int,∃(a:aiz)(c:Nat),(assoc s m).getD (zS)=.slice a (Jp g s).length c/\aX h ((Jp g s).map Int.ofNat) a (Jp g s).length
theorem MkR.mono{h h':Hp}{g:ah}{k:Nat}(s:sub h h')(r:MkR h g k):MkR h' g k:=by
 obtain⟨x,U,m,O,V,u,J⟩:=r.ex;exact⟨x,U,m,O.mono s,V.mono s,fB s u,λz=>by obtain⟨a,c,e,r⟩:=J z;exact⟨a,c,e,r.mono s⟩⟩
end
section
variable{w:aiA}{L:List aE}{a:aiz}{l c:Nat}{xs:List au}{g:ah}{x:GA}
theorem afE(hg:gR (hp w) g x)(hb:lq g):ρ 93 [.agg ⟨x.cells⟩] w λv w'=>∃(k kb:Nat)(ps:List (Int×Lq Int)),v=vP (some (aM k))/\(∀s,j6 s ps=(Jp g s).map Int.ofNat)/\St w' (az k (x.cells++[.map (some kb)])::mapA kb (mV ps)::aV (mO 1 iv ps)::all w):=by
 refine Rb ?_;refine gi hg λk1 Y gw hg B=>?_;have pl:=hg.p.1;obtain⟨_,_,_,b4,_,_,_⟩:=hb;refine⟨_,_,_,_,_,_,_,_,_,_,_,_,_,B.row sZZ,?_⟩;refine nS (St.all Y) λkb w2 h=>?_;have h:=dW (κ:=Int) h;refine ag (vs:=x.cells++[.map (some kb)]) h λkm w3 h=>?_
 refine⟨_,_,_,B.c4 (aC 2 h.l),λz w'=>∃(j:Nat)(ps:List (Int×Lq Int)),z=j/\j<=x.pl/\(∀s,j6 s ps=(Z7 g j s).map Int.ofNat)/\St w' (az km (x.cells++[.map (some kb)])::mapA kb (mV ps)::aV (mO 1 iv ps)::all Y),λz _=>x.pl-z.toNat,
  ⟨0,[],rfl,agP _,λs=>rfl,(show St w3 (az km (x.cells++[.map (some kb)])::mapA kb ([]:List (Int×Value))::aV []::all Y) from by
   have h:=h.pick 2 [1,0];exact((St.flat (M:=[])).2 h).pick 3 [2,1,0])⟩,?_⟩
 clear h;rintro _ _ w4⟨j,ps,rfl,hj,X,h⟩;have s4:sub (hp Y) (hp w4):=aC 3 h.l;refine ae (λJ=>?_) λJ=>?_
 rotate_left
 ·have J:j=x.pl:=by grind
  subst J;rw[<-pl] at X;exact⟨km,kb,ps,rfl,X,St.on (N:=[_,_,_]) h (bF gw)⟩
 have J:j<x.pl:=by simp_all
 obtain⟨p,ad,vs,a9,a6,a5,ra,rl,rc,rfl,av,am⟩:=hg.p.get J;refine aO a6 J ⟨_,_,_,_,_,a5.at s4 rfl,ag h λW w5 h=>aL h rfl (by simp[aK]) λw6 h=>?_⟩;intro w7 hd;have h:=h.eq (aQ hd);have cm:∀{u:aiA}{L':List aE},St u (az km (x.cells++[.map (some kb)])::L')->u.cell? ((aM km).add 5)=some (.map (some kb)):=λh=>(af 0 h.l).cell sZZ (j:=5) rfl;have V:∀{u:aiA}{L':List aE},St u (az W [iI p.left,vS ra rl rc,iI p.level]::L')->u.cell? (aM W)=some (iI p.left):=λh=>(af 0 h.l).cell0 sZZ
 refine⟨λu=>u.cell? ((aM km).add 5)=some (.map (some kb))/\u.cell? (aM W)=some (iI p.left),⟨cm (h.pick 2 [1]),V h⟩,_,λu U=>U.1,_,λu U=>U.2,_,λu U=>U.1,_,λu U=>U.2,?_,?_⟩
 ·refine(cr (κ:=Int) aT (rfl:ai Ty _=.map _ _) bL rfl rfl (h.pick 3 [2]) p.left).mono ?_;rintro _ _⟨rfl,rfl⟩;obtain⟨q,M,e1,e2,O,back⟩:=uP rfl (h.pick 4 [3,0,1,2]) p.left;have Z:q.2.length<=j:=by simp_all[MC]
  refine⟨_,_,_,e1,⟨cm (O.pick 4 [3]),V (O.pick 3 [2])⟩,ag O λal aa h=>⟨⟨cm (h.pick 5 [4]),V (h.pick 4 [3])⟩,?_⟩⟩;refine(aS (us:=iv q.2) aT (rfl:ai Ty _=.slice _) (rfl:ai Ty _=.slice _) rfl rfl rfl h rfl (by simp[aK]) (by grind) ω).mono ?_;rintro _ a4⟨o,c',rfl,h⟩;refine⟨_,_,_,rfl,⟨cm (h.pick 5 [4]),V (h.pick 4 [3])⟩,(dr (κ:=Int) aT (rfl:ai Ty _=.map _ _) bL (h.pick 7 [5,0,2,4,6]) p.left _).mono ?_⟩;rintro _ a0 h;have h:=A6 back (q.2++[(j:Int)]) σ (by simp[iv]) h;exact⟨ξ,⟨j+1,_,σ,J,λs=>by grind[nk,HX],h.pick 4 [2,0,1,3]⟩,bR J⟩
 ·refine ag h λa8 a7 h=>⟨⟨cm (h.pick 3 [2]),V (h.pick 2 [1])⟩,(cr (κ:=Int) aT (rfl:ai Ty _=.map _ _) bL rfl rfl (h.pick 4 [3]) p.left).mono ?_⟩;rintro _ _⟨rfl,rfl⟩;obtain⟨q,M,e1,e2,O,back⟩:=uP rfl (h.pick 5 [4,0,1,2,3]) p.left;have Z:q.2.length<=j:=by simp_all[MC]
  refine⟨_,_,_,e1,⟨cm (O.pick 5 [4]),V (O.pick 4 [3])⟩,?_⟩;refine(aS (us:=iv q.2) aT (rfl:ai Ty _=.slice _) (rfl:ai Ty _=.slice _) rfl rfl rfl (O.pick 3 [2,0,1]) rfl (by simp[aK]) (by grind) ω).mono ?_;rintro _ a4⟨o,c',rfl,h⟩;refine⟨_,_,_,rfl,⟨cm (h.pick 5 [4]),V (h.pick 4 [3])⟩,(dr (κ:=Int) aT (rfl:ai Ty _=.map _ _) bL (h.pick 7 [5,0,2,4,6]) p.left _).mono ?_⟩;rintro _ a0 h;have h:=A6 back (q.2++[(j:Int)]) σ (by simp[iv]) h;exact⟨ξ,⟨j+1,_,σ,J,λs=>by grind[nk,HX],h.pick 4 [2,0,1,3]⟩,bR J⟩
theorem afF{h:Hp}{k kb:Nat}{ps:List (Int×Lq Int)}(hg:gR h g x)(hps:∀s,j6 s ps=(Jp g s).map Int.ofNat)(hs:aF (az k (x.cells++[.map (some kb)])::mapA kb (mV ps)::aV (mO 1 iv ps)::L) h):MkR h g k:=by
 obtain⟨X,W,hA⟩:=Az 1 hs;refine⟨x,kb,mV ps,af 0 hs,hg,fB W hA,λs=>?_⟩;have e:=hps s;cases hq:fN s ps with
 |none=>
  have u:j6 s ps=[]:=by simp_all[j6]
  rw[u] at e;have U:Jp g s=[]:=List.map_eq_nil_iff.1 e.symm;rw[jD,hq,U];exact⟨none,0,rfl,aX.nil⟩
 |some q=>
  have u:j6 s ps=q.2:=by simp_all[j6]
  rw[u] at e;obtain⟨V,J,O⟩:=S_ (aj (aj hs)) hq;have hl:q.2.length=(Jp g s).length:=by simp_all
  refine⟨q.1.1,q.1.2,by simp_all[jD,bX],?_⟩;rw[<-e,<-hl];exact(bt rfl (bH O)).mono J
def acR(g:ah)(I:List au):Prop:=∀x∈I,vE g x
theorem O4{k:Nat}{y:au}(hm:MkR (hp w) g k)(hf:vE g y):
  ρ 184 [vP (some (aM k)),.agg (fh y).toArray] w λv w'=>v=iI (ng g y)/\Gr w w':=by
 obtain⟨x,kb,m,h1,hg,_,_⟩:=hm.ex;obtain⟨h2,h3,p,a5,h4⟩:=hf;refine xh (ag (St.all w) λk1 w1 h=>?_);intro X hd;have h:=h.eq (aQ hd);have g2:Gr w X:=h.aP;have Y:aq (hp X) (aM k1) [iI y.prod,iI y.dot]:=af 0 h.l;obtain⟨n,hn⟩:∃n:Nat,y.prod=n:=⟨y.prod.toNat,ω⟩;obtain⟨d,W⟩:∃d:Nat,y.dot=d:=⟨y.dot.toNat,ω⟩;have U:g.prods[n]? =some p:=by simp_all
 have J:n<x.pl:=by have:=(agN.1 U).1;have:=hg.p.1;omega
 obtain⟨p',a7,vs,O,a4,Z,ra,rl,rc,rfl,a8,V⟩:=hg.p.get J;rw[U] at O;cases O;have a6:=V.1;refine⟨λu=>Gr X u,Gr.refl _,x.pa,x.pl,x.pc,λu s=>h1.cell (sub.trans g2 s) (j:=4) rfl,_,λu s=>Y.cell0 s,?_⟩;rw[hn];refine aO a4 J ⟨_,_,_,λu s=>Z.cell (sub.trans g2 s) (j:=1) rfl,_,Y.cell sZZ (j:=1) rfl,?_⟩;rw[w_ a5,W,agZ]
 refine ae (λh5=>?_) λh5=>?_
 ·grind
 ·have h5:d≠rl:=λe=>by simp_all
  obtain⟨v,ad,hv,a0,cv⟩:=V.dQ (i:=d) ω;refine⟨_,(Y.cell sZZ (j:=1) rfl),?_⟩
  show idx ra rl y.dot 1 _
  rw[W];refine ax a0 ω ⟨v,cv _ g2,?_⟩
  simp_all
end
end Go.Proofs.YtaoaemnefghnbaaGreatDoor
