/- A part of the claim. -/
import Derived.Test.YtaoaemnefghnbaaGreatDoorG7
import Derived.Test.YtaoaemnefghnbaaGreatDoorG6
import Derived.Test.YtaoaemnefghnbaaGreatDoorG2
import Derived.Test.YtaoaemnefghnbaaGreatDoorG5
import Derived.Test.YtaoaemnefghnbaaGreatDoorG3
set_option linter.unusedVariables false
set_option linter.unusedSectionVars false
set_option maxRecDepth 100000
set_option maxHeartbeats 16000000
namespace Go.Proofs.YtaoaemnefghnbaaGreatDoor
open Tryz
abbrev zz3:Ay:=[D,D,D]
structure L5 where
 x:GA
 st:Ix
 ask:Int
 int:Int
 lk:Ix
 A:Ix
 G:Ix
 C:Ix
 p:PA
 clr:Bool
abbrev L5.X6(y:L5):Ay:=[gN y.A,gN y.G,gN y.C,gN y.p.d,gN y.p.a1,gN y.p.a2,gN y.p.a3,gN y.p.t,gN y.p.g1,gN y.p.g2,gN y.p.g3,J y.clr]
abbrev L5.cells(y:L5):Ay:=T y.x.ta y.x.tl y.x.tc::T y.x.na y.x.nl y.x.nc::T y.x.la y.x.ll y.x.lc::O y.x.s::T y.x.pa y.x.pl y.x.pc::gN y.st::O y.ask::O y.int::gN y.lk::y.X6
structure Bt(h:Hp)(k:Nat)(y:L5)(g:B)(As:List (List aF))(Gs:A7)(Cs:List cW)(p:dO):Prop where
 row:aj h (Z k) y.cells
 g:gR h g y.x
 A:bf h As y.A.1 y.A.2.1
 G:bf h Gs y.G.1 y.G.2.1
 C:bf h Cs y.C.1 y.C.2.1
 p:Xf h p y.p
 aB:y.A.2.1<=100000/\∀l∈As,l.length<=100000
 gB:y.G.2.1<=100000/\∀l∈Gs,l.length<=1000000
 cB:y.C.2.1<=100000/\∀x∈Cs,x.acts.length<=100000
 pB:y.p.d.2.1<=1000000/\y.p.a1.2.1<=1000000/\y.p.t.2.1<=1000000/\y.p.g1.2.1<=1000000
theorem Bt.mono{h h':Hp}{k:Nat}{y:L5}{g:B}{a:List (List aF)}{b:A7}{Cs:List cW}{p:dO}(s:sub h h')(r:Bt h k y g a b Cs p):Bt h' k y g a b Cs p:=⟨r.row.mono s,r.g.mono s,r.A.mono s,r.G.mono s,r.C.mono s,r.p.mono s,r.aB,r.gB,r.cB,r.pB⟩
theorem Bt.X6{h:Hp}{k:Nat}{y:L5}{g:B}{a:List (List aF)}{b:A7}{Cs:List cW}{p:dO}(r:Bt h k y g a b Cs p):aj h ((Z k).add 9) y.X6:=aj.drop (us:=[T y.x.ta y.x.tl y.x.tc,T y.x.na y.x.nl y.x.nc,T y.x.la y.x.ll y.x.lc,O y.x.s,T y.x.pa y.x.pl y.x.pc,gN y.st,O y.ask,O y.int,gN y.lk]) r.row
theorem Bt.aii{h:Hp}{k:Nat}{y:L5}{g:B}{a:List (List aF)}{b:A7}{Cs:List cW}{p:dO}(r:Bt h k y g a b Cs p):aj h (Z k) y.x.cells:=aj.take (vs:=gN y.st::O y.ask::O y.int::gN y.lk::y.X6) r.row
section
variable{w:ga}{k:Nat}{y:L5}{g:B}{i:List (List aF)}{r:A7}{Cs:List cW}{p:dO}
theorem Pe:ρ 46 [u (some (Z k))] w λa b=>a=u (some (Z k))/\b=w:=xQ (bm rfl ⟨rfl,rfl⟩)
theorem Ua{t:vP}{x:GA}(e:aj (hp w) t x.cells)(f:gR (hp w) g x)(h:jq g)(i:g.terms.length*24<=140737488355328)(j:g.b9.length*16<=140737488355328):ρ 47 [.pointer (some t)] w λk l=>∃(x':GA)(os:List (E×Nat)),k=.agg ⟨x'.cells⟩/\Fq g x'/\os.length=g.prods.length/\W l (AF g x' os++all w):=by
 refine rU<|ag (W.all w) λb s a=>bm rfl ?_;refine⟨_,_,_,_,_,_,_,_,_,_,_,_,_,e.at a.aS rfl,(AO (f.mono a.aS) h i j).mono ?_⟩;rintro _ c⟨x',os,rfl,m,n,o⟩;have p:W c (AF g x' os++(ax b z5::all w)):=W.on o a.l;refine⟨_,_,_,_,_,_,_,_,_,_,_,_,_,rfl,aQ (W.pick (show W c [_,_,_,_,_,_,_] from p) 6 [5,0,1,2,3,4]) rfl (by simp[aO]) λq d=>?_⟩;have r:aj (hp q) (Z b) [T x'.ta x'.tl x'.tc,T x'.na x'.nl x'.nc,T x'.la x'.ll x'.lc,O x'.s,T x'.pa x'.pl x'.pc]:=af 0 d.l;exact⟨_,_,_,_,_,_,_,_,_,_,_,_,_,r.at sZ rfl,x',os,rfl,m,n,d.tail⟩
theorem Ng(b:Bt (hp w) k y g i r Cs p)(f:jq g)(h:g.terms.length*24<=140737488355328)(j:g.b9.length*16<=140737488355328):ρ 9 [u (some (Z k))] w λl m=>∃(x':GA)(os:List (E×Nat)),l=.agg ⟨x'.cells⟩/\Fq g x'/\os.length=g.prods.length/\W m (AF g x' os++all w):=by
 refine tI<|ag (W.all w) λc x a=>Pe.mono ?_;rintro _ z⟨rfl,rfl⟩;refine⟨_,rfl,(Ua ((b.mono a.aS).aii) (b.mono a.aS).g f h j).mono ?_⟩;rintro _ d⟨x',os,rfl,n,o,q⟩;have s:W d (AF g x' os++(ax c z5::all w)):=W.on q a.l;refine⟨_,_,_,_,_,_,_,_,_,_,_,_,_,rfl,aQ (W.pick (show W d [_,_,_,_,_,_,_] from s) 6 [5,0,1,2,3,4]) rfl (by simp[aO]) λt e=>?_⟩;have v:aj (hp t) (Z c) [T x'.ta x'.tl x'.tc,T x'.na x'.nl x'.nc,T x'.la x'.ll x'.lc,O x'.s,T x'.pa x'.pl x'.pc]:=af 0 e.l;exact⟨_,_,_,_,_,_,_,_,_,_,_,_,_,v.at sZ rfl,x',os,rfl,n,o,e.tail⟩
theorem adO(b:Bt (hp w) k y g i r Cs p):ρ 11 [u (some (Z k))] w λc d=>c=J y.clr/\d=w:=by
 refine wH<|Pe.mono ?_;rintro _ a⟨rfl,rfl⟩;refine⟨_,rfl,(@wK (some<|(Z k).add 9) a (λe f=>e=J y.clr/\f=a)<|gd rfl ⟨_,b.X6.cell sZ (j:=11) rfl,rfl,rfl⟩).mono ?_⟩;rintro _ e⟨rfl,rfl⟩;exact⟨_,rfl,rfl,rfl⟩
theorem Ub{t:vP}(g:aj (hp w) t y.X6)(av:bf (hp w) i y.A.1 y.A.2.1)(az:bf (hp w) r y.G.1 y.G.2.1)(aB:bf (hp w) Cs y.C.1 y.C.2.1)(v:y.A.2.1<=100000/\∀l∈i,l.length<=100000)(z:y.G.2.1<=100000/\∀l∈r,l.length<=1000000)(A:y.C.2.1<=100000/\∀x∈Cs,x.acts.length<=100000):
  ρ 80 [.pointer (some t)] w λaK aR=>∃d e f c2 h k,∃(a:List (Lq aF))(b:List (Lq Int))(c:List Hc),aK=.agg ⟨[T d y.A.2.1 e,T f y.G.2.1 c2,T h y.C.2.1 k]⟩/\a.map (·.2)=i/\b.map (·.2)=r/\c.map pO=Cs/\
   W aR (own 1 d y.A.2.1 e (a.map cf)::aT (a.map (bU 2 dE))::own 1 f y.G.2.1 c2 (b.map cf)::aT (b.map (bU 1 iv))::own 3 h y.C.2.1 k (Hd c)::aT (ER c)::all w):=by
 refine tM<|ag (W.all w) λc b3 aS=>bm rfl λb4 aV=>?_;have a:=aS.drawn aV
 have C:∀{b:ga}{d:List aG}{f:ga->Prop}{h:E->Nat->Nat->ga->Prop},Gr w b->W b d->(∀e,aL d (hp e)->f e)->(∀k m n,∀e:List (Lq aF),e.map (·.2)=i->W n (own 1 k y.A.2.1 m (e.map cf)::aT (e.map<|bU 2 dE)::d)->h k y.A.2.1 m n)->ρ 158 [T y.A.1 y.A.2.1 y.A.2.2,.func (.func fu) #[] #[]] b λo e=>∃k m n,o=T k m n/\f e/\h k m n e:=λm n p q=>by
  refine(Xt (av.mono m) v.1 v.2).mono ?_;rintro _ L⟨N,P,s,rfl,F,I⟩;have k:=W.Qf I n.l;exact⟨_,_,_,rfl,p _ k.tail.tail.l,q _ _ _ s F k⟩
 have h:∀{b:ga}{d:List aG}{f:ga->Prop}{k:E->Nat->Nat->ga->Prop},Gr w b->W b d->(∀e,aL d (hp e)->f e)->(∀m n o,∀e:List (Lq Int),e.map (·.2)=r->W o (own 1 m y.G.2.1 n (e.map cf)::aT (e.map<|bU 1 iv)::d)->k m y.G.2.1 n o)->ρ 160 [T y.G.1 y.G.2.1 y.G.2.2,.func (.func mq) #[] #[]] b λp e=>∃m n o,p=T m n o/\f e/\k m n o e:=λn o q s=>by
  refine(Xu (az.mono n) z.1 z.2).mono ?_;rintro _ N⟨P,Q,F,rfl,I,L⟩;have m:=W.Qf L o.l;exact⟨_,_,_,rfl,q _ m.tail.tail.l,s _ _ _ F I m⟩
 have k:∀{F:ga}{m:Nat}{I L:E}{N c2:Nat}{n:List (Lq aF)}{o:List (Lq Int)},n.map (·.2)=i->o.map (·.2)=r->W F (ax m [D,D]::own 1 I y.A.2.1 N (n.map cf)::aT (n.map<|bU 2 dE)::own 1 L y.G.2.1 c2 (o.map cf)::aT (o.map<|bU 1 iv)::ax c zz3::all w)->
   bC F (Z m) [T I y.A.2.1 N,T L y.G.2.1 c2] λd=>∃P Q R,d.cell? (t.add 2)=some (T P Q R)/\ρ 162 [T P Q R,.func (.func fj) #[] #[]] d λb0 S=>∃X Y a0,b0=T X Y a0/\∃a1 a2 a3 a4 a5 a6,iA S (Z m) 0 2=some [T a1 a2 a3,T a4 a5 a6]/\bC S (Z c) [T a1 a2 a3,T a4 a5 a6,T X Y a0] λe=>∃q s a7 a8 a9 aa ab ac ad,iA e (Z c) 0 3=some [T q s a7,T a8 a9 aa,T ab ac ad]/\
    ∃al am an c2 ao ap,∃(b:List (Lq aF))(f:List (Lq Int))(p:List Hc),vG [T q s a7,T a8 a9 aa,T ab ac ad]=.agg ⟨[T al y.A.2.1 am,T an y.G.2.1 c2,T ao y.C.2.1 ap]⟩/\b.map (·.2)=i/\f.map (·.2)=r/\p.map pO=Cs/\
     W e (own 1 al y.A.2.1 am (b.map cf)::aT (b.map<|bU 2 dE)::own 1 an y.G.2.1 c2 (f.map cf)::aT (f.map<|bU 1 iv)::own 3 ao y.C.2.1 ap (Hd p)::aT (ER p)::all w):=λ{b5 aa p q s c2 ab ac} ad al f=>by
  refine aQ f rfl (by simp[aO]) λd f=>?_;have a7:Gr w d:=aE 6 f.l;refine⟨_,_,_,g.cell a7 (j:=2) rfl,(Xv (aB.mono a7) A.1 A.2).mono ?_⟩;rintro _ am⟨a8,a9,an,rfl,ao,ap⟩;have b:=W.Qf ap f.l;have b1:aj (hp am) (Z aa) [T p y.A.2.1 s,T q y.G.2.1 c2]:=af 2 b.l;refine⟨_,_,_,rfl,_,_,_,_,_,_,b1.at sZ rfl,aQ (b.pick 8 [7,3,4,5,6,0,1]) rfl (by simp[aO]) λe b=>?_⟩;have b2:aj (hp e) (Z c) [T p y.A.2.1 s,T q y.G.2.1 c2,T a8 y.C.2.1 a9]:=af 0 b.l;exact⟨_,_,_,_,_,_,_,_,_,b2.at sZ rfl,p,s,q,c2,a8,a9,ab,ac,an,rfl,ad,al,ao,b.tail⟩
 refine⟨λb=>Gr w b,a.aS,_,_,_,λd b=>g.cell0 b,_,_,_,λd b=>g.cell b (j:=1) rfl,?_,?_⟩
 ·refine C a.aS a (λd b=>aE 1 b) λm n o p d a=>⟨?_,?_⟩
  ·refine h (aE 3 a.l) a (λe b=>aE 3 b) λq c2 s F e f=>ag f λI L b=>⟨aE 6 b.l,k d e<|b.pick 6 [0,3,4,1,2,5]⟩
  ·exact ag a λq s b=>⟨aE 4 b.l,h (aE 4 b.l) b (λf e=>aE 4 e) λF c2 I L e f=>k d e<|f.pick 6 [2,3,4,0,1,5]⟩
 ·exact ag a λn o b=>⟨aE 2 b.l,C (aE 2 b.l) b (λe d=>aE 2 d) λp q s F e d=>h (aE 4 d.l) d (λm f=>aE 4 f) λI c2 L N f m=>k e f<|m.pick 6 [4,2,3,0,1,5]⟩
theorem Xw(hs:Bt (hp w) k y g i r Cs p):ρ 37 [u (some (Z k))] w λv w'=>∃o1 c1 o2 c2 o3 c3,∃(AL:List (Lq aF))(GL:List (Lq Int))(CL:List Hc),v=.agg ⟨[T o1 y.A.2.1 c1,T o2 y.G.2.1 c2,T o3 y.C.2.1 c3]⟩/\AL.map (·.2)=i/\GL.map (·.2)=r/\CL.map pO=Cs/\
      W w' (own 1 o1 y.A.2.1 c1 (AL.map cf)::aT (AL.map (bU 2 dE))::own 1 o2 y.G.2.1 c2 (GL.map cf)::aT (GL.map (bU 1 iv))::own 3 o3 y.C.2.1 c3 (Hd CL)::aT (ER CL)::all w):=by
  refine tK (ag (W.all w) λk1 w1 h=>Pe.mono ?_)
  rintro _ w2⟨rfl,rfl⟩
  have hs1:=hs.mono h.aS
  refine⟨_,rfl,(Ub hs1.X6 hs1.A hs1.G hs1.C hs1.aB hs1.gB hs1.cB).mono ?_⟩
  rintro _ w3⟨o1,c1,o2,c2,o3,c3,AL,GL,CL,rfl,hAL,hGL,hCL,h3⟩
  have h:=W.on (N:=[_,_,_,_,_,_]) h3 h.l
  refine⟨_,_,_,_,_,_,_,_,_,rfl,aQ (W.pick h 8 [6,0,1,2,3,4,5,7]) rfl (by simp[aO]) λw4 h=>?_⟩
  have r4:aj (hp w4) (Z k1) [T o1 y.A.2.1 c1,T o2 y.G.2.1 c2,T o3 y.C.2.1 c3]:=af 0 h.l
  exact⟨_,_,_,_,_,_,_,_,_,r4.at sZ rfl,o1,c1,o2,c2,o3,c3,AL,GL,CL,rfl,hAL,hGL,hCL,h.tail⟩
theorem Xx{t:vP}(e:aj (hp w) t y.X6)(a:Xf (hp w) p y.p)(f:y.p.d.2.1<=1000000/\y.p.a1.2.1<=1000000/\y.p.t.2.1<=1000000/\y.p.g1.2.1<=1000000):
  ρ 302 [.pointer (some t)] w λP Q=>∃x:PA,P=.agg ⟨x.cells⟩/\W Q (vi p x (all w)):=by
 refine vj<|ag (W.all w) λR a7 S=>bm rfl λa8 X=>?_;have g:=S.drawn X;have Y:aj (hp w) (t.add 4) [gN y.p.a1,gN y.p.a2,gN y.p.a3]:=(aj.drop (us:=[gN y.A,gN y.G,gN y.C,gN y.p.d]) e).take (vs:=[gN y.p.t,gN y.p.g1,gN y.p.g2,gN y.p.g3,J y.clr]);have a0:aj (hp w) (t.add 8) [gN y.p.g1,gN y.p.g2,gN y.p.g3]:=(aj.drop (us:=[gN y.A,gN y.G,gN y.C,gN y.p.d,gN y.p.a1,gN y.p.a2,gN y.p.a3,gN y.p.t]) e).take (vs:=[J y.clr]);refine⟨λb=>Gr w b,g.aS,_,_,_,λc b=>e.cell b (j:=3) rfl,_,_,_,_,_,_,_,_,_,λc b=>by rw[ke];exact Y.at b rfl,_,_,_,λc b=>by rw[ke];exact e.cell b (j:=7) rfl,_,_,_,_,_,_,_,_,_,λc b=>by rw[ke];exact a0.at b rfl,(Aw (a.d.mono g.aS) f.1).mono ?_⟩;rintro _ a9⟨i,k,rfl,a1⟩;have b:=W.fy a1 g.l;refine⟨_,_,_,rfl,aE 2 b.l,(A4 (a.a.rb.mono<|aE 2 b.l) (a.a.rv.mono<|aE 2 b.l) (a.a.ro.mono<|aE 2 b.l) f.2.1 a.a.lv a.a.lo).mono ?_⟩;rintro _ aa⟨l,m,n,o,q,r,rfl,a2⟩;have h:=W.on (N:=[_,_,_]) a2 b.l;refine⟨_,_,_,_,_,_,_,_,_,rfl,aE 5 h.l,(Aw (a.t.mono<|aE 5 h.l) f.2.2.1).mono ?_⟩;rintro _ ab⟨s,v,rfl,a3⟩;have c:=W.fy a3 h.l;refine⟨_,_,_,rfl,aE 6 c.l,(A4 (a.g.rb.mono<|aE 6 c.l) (a.g.rv.mono<|aE 6 c.l) (a.g.ro.mono<|aE 6 c.l) f.2.2.2 a.g.lv a.g.lo).mono ?_⟩;rintro _ ac⟨z,A,C,F,I,L,rfl,a4⟩;have d:=W.on (N:=[_,_,_]) a4 c.l;refine⟨_,_,_,_,_,_,_,_,_,rfl,aE 9 d.l,aQ (W.pick d 9 [8,0,1,2,3,4,5,6,7]) rfl (by simp[aO]) λa5 d=>?_⟩;have a6:aj (hp a5) (Z R) [T i y.p.d.2.1 k,T l y.p.a1.2.1 o,T m y.p.a2.2.1 q,T n y.p.a3.2.1 r,T s y.p.t.2.1 v,T z y.p.g1.2.1 F,T A y.p.g2.2.1 I,T C y.p.g3.2.1 L]:=af 0 d.l;refine⟨_,_,_,_,_,_,_,_,_,_,_,_,_,_,_,_,_,_,_,_,_,_,_,_,a6.at sZ rfl,⟨(i,y.p.d.2.1,k),(l,y.p.a1.2.1,o),(m,y.p.a2.2.1,q),(n,y.p.a3.2.1,r),(s,y.p.t.2.1,v),(z,y.p.g1.2.1,F),(A,y.p.g2.2.1,I),(C,y.p.g3.2.1,L)⟩,rfl,d.tail.pick 9 [7,4,5,6,3,0,1,2,8]⟩
theorem abb(d:Bt (hp w) k y g i r Cs p):ρ 218 [u (some (Z k))] w λe f=>∃x:PA,e=.agg ⟨x.cells⟩/\W f (vi p x (all w)):=by
 refine vh<|ag (W.all w) λh n c=>Pe.mono ?_;rintro _ o⟨rfl,rfl⟩;have b:=d.mono c.aS;refine⟨_,rfl,(Xx b.X6 b.p b.pB).mono ?_⟩;rintro _ q⟨x,rfl,j⟩;have a:=W.on (N:=[_,_,_,_,_,_,_,_]) j c.l;refine⟨_,_,_,_,_,_,_,_,_,_,_,_,_,_,_,_,_,_,_,_,_,_,_,_,rfl,aQ (vs:=x.cells) (W.pick a 9 [8,0,1,2,3,4,5,6,7]) rfl (by simp[aO,PA.cells]) λl a=>?_⟩;have m:aj (hp l) (Z h) x.cells:=af 0 a.l;exact⟨_,_,_,_,_,_,_,_,_,_,_,_,_,_,_,_,_,_,_,_,_,_,_,_,m.at sZ rfl,x,rfl,a.tail⟩
end
structure r7 where
 s:E
 cs:Nat
 n:E
 cn:Nat
abbrev VV(k:Nat)(st ids:Az)(x:r7)(L:List aG):List aG:=ax k [O 0,T x.s st.length x.cs,T x.n ids.length x.cn]::own 1 x.s st.length x.cs (iv st)::own 1 x.n ids.length x.cn (iv ids)::L
abbrev Xy:=(Int×Int×Int)×Lq Int
def Sr(b:Xy):Ay:=[O b.1.1,O b.1.2.1,O b.1.2.2,cf b.2]
def EA(bs:List Xy):Ay:=bs.flatMap Sr
def oQ(bs:List Xy):List aG:=bs.map λb=>bU 1 iv b.2
def zP(b:Xy):RE:=⟨b.1.1,b.1.2.1,b.1.2.2,b.2.2⟩
theorem EB(xs:List Xy):(EA xs).length=xs.length*4:=qu (f:=Sr) (n:=4) (λ_=>rfl) xs
structure tq where
 n:E
 cn:Nat
 t:E
 ct:Nat
abbrev Ss(k:Nat)(nd:List Xy)(tk:At)(x:tq)(L:List aG):List aG:=ax k [T x.n nd.length x.cn,T x.t tk.length x.ct]::own 4 x.n nd.length x.cn (EA nd)::aT (oQ nd)::own 1 x.t tk.length x.ct (bv tk)::L
section
variable{w:ga}{L:List aG}{k:Nat}{st ids:Az}{x:r7}{q i:Int}
theorem ahH(h:W w L):ρ 124 [O 0] w λa c=>∃b,a=u (some (Z b))/\W c (VV b [] [] ⟨none,0,none,0⟩ L):=
 LB (ag h λb d h=>⟨b,rfl,(aH 1<|aH 1 h).pick 3 [2,0,1]⟩)
theorem Bd(h:W w (VV k st ids x L))(l:st.length<64)(hi:ids.length<=1000):ρ 223 [u (some (Z k)),O q,O i] w λa b=>a=O 0/\∃x',W b (VV k (st++[q]) (ids++[i]) x' L):=by
 refine zc<|bm rfl ⟨_,_,_,by rw[ak];exact h.cell 1,bm (jM U) ⟨_,_,_,by rw[ak];exact h.cell 1,ag h λm n h=>?_⟩⟩;refine(aU (us:=iv st) (vs:=[O q]) aY (rfl:ai Ty _=.slice _) (rfl:ai Ty _=.slice _) rfl rfl rfl (h.pick 4 [0,2,1,3]) rfl (by simp[aO]) G U).mono ?_;rintro _ o⟨c,d,rfl,h⟩;refine⟨_,_,_,rfl,?_⟩
 show gh _ ((Z k).add 1) _ _
 rw[ak];refine aX (h.pick 4 [2,0,3]) V λp h=>⟨_,_,_,by rw[ak];exact h.cell 2,ag h λr s h=>?_⟩;refine(aU (us:=iv ids) (vs:=[O i]) aY (rfl:ai Ty _=.slice _) (rfl:ai Ty _=.slice _) rfl rfl rfl (h.pick 4 [0,3,1,2]) rfl (by simp[aO]) G U).mono ?_;rintro _ t⟨e,f,rfl,h⟩;refine⟨_,_,_,rfl,?_⟩
 show gh _ ((Z k).add 2) _ _
 rw[ak];refine aX (h.pick 4 [2,3,0]) V λv h=>⟨rfl,⟨c,d,e,f⟩,?_⟩;have g:iv (st++[q])=iv st++[O q]:=by simp[iv]
 have j:iv (ids++[i])=iv ids++[O i]:=by simp[iv]
 unfold VV;rw[g,j,jw,jw];exact h
theorem ahI{n:Nat}(h:W w (VV k st ids x L))(y:st.length<=64)(hi:ids.length=st.length)(z:n<=st.length):ρ 225 [u (some (Z k)),O (n:Int)] w λg i=>∃o c x',g=.tuple #[T o n c,O 0]/\W i (own 1 o n c (iv (ids.drop (st.length-n)))::VV k (st.take (st.length-n)) (ids.take (st.length-n)) x' L):=by
 refine AP ⟨λa b=>a=false/\b=w,bm rfl (bm (jM U) ⟨_,_,_,by rw[ak];exact h.cell 1,jM U,rfl⟩),?_⟩;rintro _ _ j⟨rfl,rfl⟩;obtain⟨a,l⟩:∃b,b=st.length-n:=⟨_,rfl⟩;have m:(st.length:Int)-n=(a:Int):=U
 have A:=bJ h.tail;have b:=bJ h.tail.tail;rw[<-l];refine bm rfl ⟨_,_,_,by rw[ak];exact h.cell 1,ξ,_,_,_,by rw[ak];exact h.cell 2,?_⟩;rw[m];refine dS U b ?_;have d:bf (hp j) (ids.drop a) (f_ x.n a x.cn 1) (ids.length-a):=(ic<|h.pick 3 [2]).drop U b;have p:ids.length-a=n:=U
 rw[p] at d ⊢;refine(dV d G G).mono ?_;rintro _ q⟨C,F,rfl,e⟩;rw[show(ids.drop a).length=n from η] at e ⊢;have h:=W.fy e h.l;refine⟨_,_,_,rfl,bw<|bZ (bJ h) ?_⟩;have h:=cK h;refine⟨_,_,_,rfl,_,_,_,by rw[ak];exact h.tail.cell 1,ij U ?_⟩
 show gh q ((Z k).add 1) _ _
 rw[ak];refine aX (h.pick 4 [1,0,2,3]) V λr h=>⟨_,_,_,by rw[ak];exact h.cell 2,ij U ?_⟩
 show gh r ((Z k).add 2) _ _
 rw[ak];refine aX h V λI h=>⟨_,_,⟨f_ x.s 0 x.cs 1,x.cs,f_ x.n 0 x.cn 1,x.cn⟩,rfl,?_⟩;have s:=po (k:=a) (h.pick 4 [2,0,1,3]) U;have f:=po (k:=a) (s.pick 4 [3,0,1,2]) U;rw[kA] at f;unfold VV;rw[k5,k5,show min a st.length=a by omega,show min a ids.length=a by omega];have t:iv (st.take a)=(iv st).take a:=by simp[iv,List.map_take]
 have v:iv (ids.take a)=(iv ids).take a:=by simp[iv,List.map_take]
 rw[t,v];exact f.pick 4 [3,2,1,0]
theorem ahJ(h:W w (VV k st ids x L))(o:st.length<=64):ρ 228 [u (some (Z k))] w λb c=>b=O (pJ st)/\hp c=hp w:=by
 refine AT (bm rfl ⟨_,_,_,by rw[ak];exact h.cell 1,ae (λd=>?_) λd=>?_⟩)
 ·have a:st=[]:=j2 η;subst a;exact⟨_,h.cell 0,rfl,rfl⟩
 ·have p:0<st.length:=G
  intro e a;have h:=h.drawn a;obtain⟨q,f,g⟩:=qq (ic<|h.pick 3 [1]) (i:=st.length-1) U;have l:(st.length:Int)-1=((st.length-1:Nat):Int):=U
  refine⟨λm=>Gr e m,Gr.refl _,_,_,_,λn m=>by rw[ak];exact(af 0 h.l).cell m (j:=1) rfl,_,_,_,λn m=>by rw[ak];exact(af 0 h.l).cell m (j:=1) rfl,ξ,?_⟩;rw[l];refine au f U ⟨_,λm n=>g m n,?_,aW a⟩
  grind[pJ,List.getLast_cons,List.getElem?_eq_getElem]
theorem RZ(h:W w (VV k st ids x L))(f:st.length<=64):ρ 61 [u (some (Z k))] w λa b=>∃o c,a=T o (1+st.length) c/\W b (own 1 o (1+st.length) c (iv (0::st))::VV k st ids x L):=by
 refine vI<|bm rfl λg d=>?_;have h:=h.drawn d;refine⟨λe=>aj (hp e) (Z k) [O 0,T x.s st.length x.cs,T x.n ids.length x.cn],af 0 h.l,_,λi e=>e.cell0 sZ,_,_,_,λi e=>by rw[ak];exact e.cell sZ (j:=1) rfl,ag h λi m h=>⟨af 1 h.l,?_⟩⟩;have e:=ic<|h.pick 4 [2];have h:=bq (sz:=1) (l:=1) (c:=1) (vs:=[O 0]) (cs:=[]) h rfl rfl (gP _);refine(YW aY (rfl:ai Ty _=.slice _) (rfl:ai Ty _=.slice _) rfl rfl rfl h rfl e (λ_=>rfl) G U).mono ?_;rintro _ n⟨p,q,rfl,h⟩;refine⟨_,_,_,rfl,af 1 h.l,bw<|bZ (bJ h) ⟨_,_,_,rfl,af 1 h.l,_,_,rfl,?_⟩⟩
 grind[iv,kC.val,kC.UP,cK]
theorem ahK(h:W w L):ρ 125 [] w λa c=>∃b,a=u (some (Z b))/\W c (Ss b [] [] ⟨none,0,none,0⟩ L):=
 Oc (ag h λb d h=>⟨b,rfl,(aH 4<|(W.flat (M:=[])).2 (aH 1 h)).pick 4 [3,0,1,2]⟩)
variable{nd:List Xy}{tk:At}{z:tq}
theorem Bf{b:Xy}(h:W w (bU 1 iv b.2::Ss k nd tk z L))(q:nd.length<=1000000)(r:tk.length=nd.length):ρ 311 [u (some (Z k)),.agg ⟨Sr b⟩] w λd e=>d=.tuple #[O (nd.length:Int),O 0]/\∃a,W e (Ss k (nd++[b]) (tk++[false]) a L):=by
 refine Cw<|ag h λa s h f g=>?_;have h:=h.drawn g;have h:W f (ax a (Sr b)::ax k [T z.n nd.length z.cn,T z.t tk.length z.ct]::own 4 z.n nd.length z.cn (EA nd)::aT (oQ nd)::own 1 z.t tk.length z.ct (bv tk)::bU 1 iv b.2::L):=h.pick 6 [0,2,3,4,5,1];refine⟨λc=>aj (hp c) (Z a) (Sr b)/\aj (hp c) (Z k) [T z.n nd.length z.cn,T z.t tk.length z.ct],⟨af 0 h.l,af 1 h.l⟩,_,_,_,λj c=>c.2.cell0 sZ,_,_,_,_,_,_,λj c=>c.1.at sZ rfl,ag h λt v h=>⟨⟨af 1 h.l,af 2 h.l⟩,?_⟩⟩;refine(aU (us:=EA nd) (vs:=Sr b) aY (rfl:ai Ty _=.slice _) (rfl:ai Ty _=.slice _) rfl rfl rfl (h.pick 7 [0,3,1,2,4,5,6]) rfl (by simp[aO,Sr,cf]) G U).mono ?_;rintro _ x⟨c,j,rfl,h⟩;refine⟨_,_,_,rfl,⟨af 2 h.l,af 3 h.l⟩,aX (i:=0) (h.pick 7 [3,0,4,5,6]) V λy h=>⟨_,_,_,by rw[ak];exact h.cell 1,ag h λA C h=>?_⟩⟩;refine(aU (us:=bv tk) (vs:=[J false]) aY (rfl:ai Ty _=.slice _) (rfl:ai Ty _=.slice _) rfl rfl rfl (h.pick 6 [0,4,1,2,3,5]) rfl (by simp[aO]) G U).mono ?_;rintro _ F⟨l,m,rfl,h⟩;refine⟨_,_,_,rfl,?_⟩
 show gh _ ((Z k).add 1) _ _
 rw[ak]
 refine aX (i:=1) (h.pick 6 [2,0,3,4,5]) V λI h=>⟨_,_,_,h.cell 0,ξ,?_,⟨c,j,l,m⟩,?_⟩
 ·simp
 ·have n:EA (nd++[b])=EA nd++Sr b:=by simp[EA]
  have o:bv (tk++[false])=bv tk++[J false]:=by simp[bv]
  have p:oQ (nd++[b])=oQ nd++[bU 1 iv b.2]:=by simp[oQ]
  unfold Ss;rw[n,o,p,jw,jw];have h:W _ (bU 1 iv b.2::aT (oQ nd)::_):=h.pick 5 [4,3,0,1,2];exact(W.snoc h).pick 4 [1,3,0,2]
theorem agm{s t:Nat}(h:W w (Ss k nd tk z L))(a:nd.length<=1000000)(c:tk.length=nd.length):ρ 222 [u (some (Z k)),O (s:Int),O (t:Int)] w λd e=>d=.tuple #[O (nd.length:Int),O 0]/\∃f,W e (Ss k (nd++[(((s:Int),(-1:Int),(t:Int)),((none,0),[]))]) (tk++[false]) f L):=by
 refine AN (bm rfl (bm (jM U)<|bm (jM U)<|(Bf (b:=(((s:Int),(-1:Int),(t:Int)),((none,0),[]))) (aH 1 h) a c).mono ?_))
 simp_all
theorem adP{i:Int}{p:vP}{m:Nat}(a:w.cell? p=some (u (some (Z k))))(b:aj (hp w) (Z k) [T z.n nd.length z.cn,T z.t tk.length z.ct])(d:bf (hp w) tk z.t tk.length)(hi:i=m)(l:m<nd.length)(c:tk[m]? =some false):ρ 360 [O i,.pointer (some p)] w λe f=>e=J false/\Gr w f:=by
 subst hi;obtain⟨n,g,h⟩:=d.at c;exact vX (bm (jM U) ⟨_,a,_,_,_,b.cell0 sZ,bm (jM U) ⟨_,a,_,_,_,b.cell sZ (j:=1) rfl,au g (gJ.1 c).1 ⟨_,h w sZ,rfl,Gr.refl w⟩⟩⟩)
theorem adQ{i:Nat}{b:Bool}(h:tk[i]? =some b):(bv tk)[i]? =some (J b):=by simp_all[bv]
theorem agn{ks:A0}{o:E}{n c:Nat}(h:W w (own 1 o n c (iv (ks.map λ(j:Nat)=>(j:Int)))::Ss k nd tk z L))(I:nd.length<=1000000)(N:tk.length=nd.length)(f:∀j∈ks,j<nd.length/\tk[j]? =some false)(P:ks.Nodup)(Q:ks.length<=1000):
  ρ 312 [u (some (Z k)),T o n c] w λm q=>m=J true/\W q (own 1 o n c (iv (ks.map λ(j:Nat)=>(j:Int)))::Ss k nd (zI tk ks) z L):=by
 have R:ks.length=n:=by have:=sD h;simp_all
 refine AX<|ag h λg r h=>?_;have h:W r (ax g [u (some<|Z k)]::own 1 o n c (iv<|ks.map λ(j:Nat)=>(j:Int))::ax k [T z.n nd.length z.cn,T z.t tk.length z.ct]::own 4 z.n nd.length z.cn (EA nd)::aT (oQ nd)::own 1 z.t tk.length z.ct (bv tk)::L):=h
 refine(T6 (p:=λ_=>false) (ic h.tail) rfl (λS s X d=>?_) U).mono ?_
 ·obtain⟨j,a,rfl⟩:=iz.1 s;obtain⟨b,e⟩:=f j a;exact adP (k:=k) (nd:=nd) (tk:=tk) (z:=z) ((af 0 h.l).cell0 d) ((af 2 h.l).mono d) ((UU<|h.pick 6 [5]).mono d) rfl b e
 rintro _ Y⟨rfl,t⟩;have h:=h.gr t;refine⟨_,rfl,bm V ⟨λa b=>∃j:Nat,a=j/\j<=n/\W b (ax g [u (some<|Z k)]::own 1 o n c (iv<|ks.map λ(j:Nat)=>(j:Int))::Ss k nd (zI tk<|ks.take j) z L),λa _=>n-a.toNat,⟨0,rfl,gu _,h⟩,?_⟩⟩;clear h;rintro _ _ a0⟨j,rfl,a1,h⟩
 refine ae (λv=>?_) λv=>?_
 ·have e:j<n:=η
  obtain⟨a,x⟩:∃b,ks[j]? =some b:=⟨_,gn U⟩;have y:=gg x;obtain⟨a2,a3⟩:=f a y;have a4:(ks.map λ(j:Nat)=>(j:Int))[j]? =some (a:Int):=η
  have A:(zI tk<|ks.take j)[a]? =some false:=by grind[VI,List.getElem?_of_mem,List.getElem?_inj,List.getElem?_eq_some_iff]
  have i:a<(zI tk<|ks.take j).length:=G
  obtain⟨a5,l⟩:=fk h.tail (by grind[dq,List.length_map]);obtain⟨a6,b⟩:=fk (h.pick 6 [5,0,1,2,3,4]) (by grind[m_]);refine au l e ⟨_,r_ h.tail l (by simp_all[iv]),_,h.cell 0,_,_,_,by rw[ak];exact h.tail.tail.cell 1,au b i ⟨false,r_ (h.pick 6 [5,0,1,2,3,4]) b<|adQ A,bm rfl ⟨_,h.cell 0,_,_,_,by rw[ak];exact h.tail.tail.cell 1,au b i<|ib (h.pick 6 [5,0,1,2,3,4]) b (by simp_all[m_]) λa7 h=>⟨ξ,⟨j+1,V,e,?_⟩,bS e⟩⟩⟩⟩;have C:(bv<|zI tk<|ks.take j).set a (J true)=bv (zI tk<|ks.take<|j+1):=by simp_all[iw,zI,bv]
  rw[C] at h;have F:(zI tk<|ks.take j).length=(zI tk<|ks.take<|j+1).length:=by simp[Ep]
  unfold Ss;rw[<-F];exact h.pick 6 [1,2,3,4,5,0]
 ·have a:n=j:=G
  subst a;rw[jy U] at h;exact⟨rfl,h.tail⟩
theorem ago{s p:Nat}{ks:A0}{o:E}{n c:Nat}(h:W w (own 1 o n c (iv (ks.map λ(j:Nat)=>(j:Int)))::Ss k nd tk z L))(a:nd.length<=1000000)(d:tk.length=nd.length)(e:∀j∈ks,j<nd.length/\tk[j]? =some false)(f:ks.Nodup)(g:ks.length<=1000):
  ρ 226 [u (some (Z k)),O (s:Int),O (p:Int),T o n c] w λi l=>i=.tuple #[O (nd.length:Int),O 0]/\∃m,∃q:E×Nat,W l (Ss k (nd++[(((s:Int),(p:Int),(0:Int)),(q,ks.map λ(j:Nat)=>(j:Int)))]) (zI tk ks++[false]) m L):=by
 have v:ks.length=n:=by have:=sD h;simp_all
 refine AR ⟨λb m=>b=false/\W m (own 1 o n c (iv<|ks.map λ(j:Nat)=>(j:Int))::Ss k nd (zI tk ks) z L),bm rfl (bm (jM U)<|bm (jM U)<|(agn h a d e f g).mono ?_),?_⟩
 ·simp
 rintro _ _ x⟨rfl,h⟩;refine bm rfl ((dV (ic h) G G).mono ?_);rintro _ y⟨m,r,rfl,t⟩;have h:=W.fy t h.l;refine⟨_,_,_,rfl,(Bf (b:=(((s:Int),(p:Int),(0:Int)),((m,r),ks.map λ(j:Nat)=>(j:Int)))) (h.pick 2 [0]) a (by simp_all[Ep])).mono ?_⟩
 grind
end
section
variable{w:ga}{L:List aG}
theorem agp{n:Nat}(h:W w L)(g:n<=1000000):ρ 359 [D,O (n:Int)] w λb d=>∃o c,b=T o 0 c/\W d (own 1 o 0 c []::L):=by
 refine tA<|bm V ⟨_,_,Pa aY (rfl:ai Ty _=.slice _) _ _ _ _,Ev.refl w,_,rfl,ξ,ξ,ae (λe=>?_) λa=>⟨_,_,rfl,aH 1 h⟩⟩;have f:0<n:=by have:=gZ e;omega
 refine⟨_,_,Pa aY (rfl:ai Ty _=.slice _) _ _ _ _,Ev.refl w,_,rfl,ij (gP 0) ?_⟩;rw[show(n:Int)-(((0:Nat):Int)-((0:Nat):Int))=(n:Int) by omega,show f_ none 0 0 1=none from rfl];refine(Nd (i:=_) aY (rfl:ai Ty _=.slice _) (rfl:ai Ty _=.int _) rfl rfl rfl (by decide) h f U (by show n*8<=_;omega) U).mono ?_;rintro _ j⟨o,l,m,rfl,p,a⟩;have q:=bJ a;have:=po (k:=0) a<|gu _;exact⟨_,_,_,rfl,ij (hi:=0) (gu _) ⟨_,_,rfl,by simpa using this⟩⟩
theorem Nh{xss:A7}{j:Nat}{xs:Az}(h:xss[j]? =some xs):(xss.take (j+1)).flatten=(xss.take j).flatten++xs:=by
 rw[iw,h];simp
theorem IE{xss:A7}(j:Nat):(xss.take j).flatten.length<=xss.flatten.length:=by
 have:=congrArg List.flatten<|l9 j xss;rw[List.flatten_append] at this;have:=congrArg List.length this;rw[jw] at this;omega
theorem abd{xss:A7}{a:E}{b c:Nat}(h:bf (hp w) xss a b)(N:b<=1000)(p:xss.flatten.length<=1000000):ρ 309 [T a b c] w λq r=>∃o c',q=T o xss.flatten.length c'/\W r (own 1 o xss.flatten.length c' (iv xss.flatten)::all w):=by
 have P:=h.1;refine qp ⟨λe f g=>∃d:Nat,f=d/\d<=b/\e=((xss.take d).flatten.length:Int)/\g=w,λ_ d _=>b-d.toNat,⟨0,rfl,gu _,V,rfl⟩,?_⟩;rintro _ _ _ l⟨d,rfl,Q,rfl,rfl⟩;have R:=IE (xss:=xss) d
 refine ae (λi=>?_) λi=>?_
 ·have e:d<b:=by have:=gZ i;omega
  obtain⟨x,y,z,f,g,j,k,m,n,rfl,_,s⟩:=h.get e;have t:=Nh f;have v:=congrArg List.length t;rw[jw,s.1] at v;have A:=IE (xss:=xss)<|d+1;refine aI g e ⟨k,m,n,j.cell0 sZ,ξ,bm (by simp;omega) ⟨ξ,⟨d+1,V,e,U,rfl⟩,?_⟩⟩
  show b-((d:Int)+1).toNat<b-(d:Int).toNat
  omega
 ·have s:d=b:=by have:=hY i;omega
  subst s;have f:(xss.take d).flatten=xss.flatten:=by rw[jy U]
  rw[f];refine(agp (W.all l) p).mono ?_;rintro _ S⟨o,X,rfl,t⟩;refine⟨_,_,_,rfl,λo g c j k=>∃e:Nat,j=e/\e<=d/\g=(xss.take e).flatten.length/\W k (own 1 o g c (iv (xss.take e).flatten)::all l),λ_ _ _ e _=>d-e.toNat,⟨0,rfl,gu _,V,by simpa[iv] using t⟩,?_⟩;rintro _ o Y v _ a0⟨e,rfl,a1,rfl,g⟩;have a2:=IE (xss:=xss) e
  refine ae (λj=>?_) λj=>?_
  ·have k:e<d:=by have:=gZ j;omega
   obtain⟨a3,a4,a5,x,y,z,A,C,F,rfl,_,m⟩:=(h.mono g.aS).get k;have n:=Nh x;have I:=congrArg List.length n;rw[jw,m.1] at I;have a6:=IE (xss:=xss)<|e+1;refine aI y k ⟨A,C,F,z.cell0 sZ,(YW aY (rfl:ai Ty _=.slice _) (rfl:ai Ty _=.slice _) rfl rfl rfl g rfl m (λ_=>rfl) (by show(_+_)*8<=_;omega) U).mono ?_⟩;rintro _ a7⟨a8,c',rfl,L⟩
   refine⟨_,_,_,rfl,ξ,⟨e+1,V,k,U,?_⟩,?_⟩
   ·rw[n];simpa[iv,kC.UP] using L
   ·show d-((e:Int)+1).toNat<d-(e:Int).toNat
    omega
  ·have k:e=d:=by have:=hY j;omega
   subst k;rw[f] at g;exact⟨o,v,by rw[f],by rw[f] at*;exact g⟩
end
abbrev tbC(x:GA)(A G:Ix)(xp:PA):Ay:=[T x.ta x.tl x.tc,T x.na x.nl x.nc,T x.la x.ll x.lc,O x.s,T x.pa x.pl x.pc,.iface yz (.agg ⟨[gN A,gN G]⟩),.iface gG (.agg ⟨xp.cells⟩)]
structure CX(h:Hp)(b:Nat)(x:GA)(A G:Ix)(xp:PA)(g:B)(As:List (List aF))(Gs:A7)(p:dO):Prop where
 row:aj h (Z b) (tbC x A G xp)
 g:gR h g x
 A:bf h As A.1 A.2.1
 G:bf h Gs G.1 G.2.1
 p:Xf h p xp
theorem CX.mono{h h':Hp}{b:Nat}{x:GA}{A a:Ix}{c:PA}{g:B}{d:List (List aF)}{e:A7}{p:dO}(s:sub h h')(r:CX h b x A a c g d e p):CX h' b x A a c g d e p:=⟨r.row.mono s,r.g.mono s,r.A.mono s,r.G.mono s,r.p.mono s⟩
section
variable{w:ga}{k:Nat}{y:L5}{g:B}{r:List (List aF)}{F:A7}{Cs:List cW}{p:dO}
theorem Xz(h:Bt (hp w) k y g r F Cs p)(S:jq g)(X:g.terms.length*24<=140737488355328)(Y:g.b9.length*16<=140737488355328)(aS:g.prods.length≠0):ρ 123 [u (some (Z k))] w λa0 a1=>∃(b:Nat)(x:GA)(A a:Ix)(c:PA)(H:Hp),a0=u (some (Z b))/\CX H b x A a c g r F p/\W a1 (has H::all w):=by
 refine Oa<|(Ng h S X Y).mono ?_;rintro _ a2⟨a,aV,rfl,j,a3,a4⟩;have f:W a2 (_::_::_::_::_::all w):=a4;refine⟨_,_,_,_,_,_,_,_,_,_,_,_,_,rfl,ag f λa5 b0 f=>aQ f rfl (by simp[aO]) λb1 f=>⟨_,_,_,f.cell 4,bm (by have:=j.p;simp_all) λl a6=>?_⟩⟩;have i:=f.drawn a6;have m:Gr w l:=aE 6 i.l;have a7:=af 0 i.l;refine⟨λc=>aj (hp c) (Z a5) [T a.ta a.tl a.tc,T a.na a.nl a.nc,T a.la a.ll a.lc,O a.s,T a.pa a.pl a.pc],a7,_,_,_,_,_,_,_,_,_,_,_,_,_,λd c=>c.at sZ rfl,(Xw<|h.mono m).mono ?_⟩;rintro _ a8⟨n,o,q,s,b2,b3,t,v,b4,rfl,a9,aa,b5,z⟩;have ab:Gr l a8:=aE 6 z.l;have C:=W.on (N:=[_,_,_,_,_,_]) z i.l;refine⟨_,_,_,_,_,_,_,_,_,rfl,af 6 C.l,(abb<|h.mono<|m.trans ab).mono ?_⟩;rintro _ b6⟨ac,rfl,ad⟩;have d:=W.on (N:=[_,_,_,_,_,_,_,_]) ad C.l;refine⟨_,_,_,_,_,_,_,_,_,_,_,_,_,_,_,_,_,_,_,_,_,_,_,_,rfl,af 14 d.l,ag d λal b7 d=>?_⟩;have I:=sD<|W.pick d 22 [3];have P:=sD<|W.pick d 22 [4];have Q:=sD<|W.pick d 22 [7];have R:=sD<|W.pick d 22 [8];have am:=sD<|W.pick d 22 [2];have an:=sD<|W.pick d 22 [1];have ao:=sD<|W.pick d 22 [5];have ap:=sD<|W.pick d 22 [6];obtain⟨H,c,av⟩:=W.mn [has (hp w)] (W.pick d 22 [21,0,1,2,3,4,5,6,7,8,9,10,11,12,13,14,15,16,17,18,19,20])
 refine⟨af 15 d.l,al,a,(n,y.A.2.1,o),(q,y.G.2.1,s),ac,H,rfl,⟨af 0 c,?_,?_,?_,?_⟩,av.swap⟩
 ·exact NY (L:=[]) j a3 (ay<|ay<|ay<|ay<|ay<|ay<|ay<|ay<|ay<|ay<|ay<|ay<|ay<|ay<|ay<|ay c)
 ·obtain⟨b9,e,az⟩:=B7 (A:=own 1 n y.A.2.1 o<|t.map cf) 9 c;obtain⟨ba,aB,aK⟩:=B7 (A:=aT<|t.map<|bU 2 dE) 10 c;rw[<-a9];exact Ez (λaR=>Er rfl aR) e az aB aK
 ·obtain⟨b9,e,az⟩:=B7 (A:=own 1 q y.G.2.1 s<|v.map cf) 11 c;obtain⟨ba,aB,aK⟩:=B7 (A:=aT<|v.map<|bU 1 iv) 12 c;rw[<-aa];exact Ez (λaR=>bA rfl aR) e az aB aK
 ·have e:=h.p;exact⟨bA an<|dT 1 c,⟨bA am<|dT 2 c,bA I<|dT 3 c,bA P<|dT 4 c,by rw[<-I,e.a.rv.1];exact e.a.lv,by rw[<-P,e.a.ro.1];exact e.a.lo,e.a.bd⟩,bA ao<|dT 5 c,⟨bA ap<|dT 6 c,bA Q<|dT 7 c,bA R<|dT 8 c,by rw[<-Q,e.g.rv.1];exact e.g.lv,by rw[<-R,e.g.ro.1];exact e.g.lo,e.g.bd⟩⟩
variable{L:List aG}{b:Nat}{x:GA}{A N:Ix}{R:PA}{H:Hp}{st i:Az}{m Q:Nat}
theorem VW(a:CX (hp w) b x A N R g r F p):ρ 128 [u (some (Z b))] w λc d=>c=O (g.T:Int)/\d=w:=by
 refine vM ⟨_,_,_,a.row.cell0 sZ,?_,rfl⟩;have:(g.T:Int)=(x.tl:Int):=by have:=a.g.t.1;show(g.terms.length:Int)=_;omega
 grind
theorem abe(a:CX (hp w) b x A N R g r F p){i:Nat}{q:aD}(l:g.prods[i]? =some q):ρ 224 [u (some (Z b)),O (i:Int)] w λm n=>m=.tuple #[O (q.right.length:Int),O q.left]/\hp n=hp w:=by
 refine uE λd o=>?_;obtain⟨y,z,e,f,C,s,I,rfl,_,t⟩:=a.g.p.2 i q l;have h:i<x.pl:=by rw[<-a.g.p.1];grind
 have v:=aW o;have c:∀{k:ga},hp k=hp d->sub (hp w) (hp k):=λk=>by simp_all[sub.refl]
 have L:(q.right.length:Int)=(s:Int):=by rw[t.1]
 exact⟨λk=>hp k=hp d,rfl,_,_,_,λP k=>a.row.cell (c k) (j:=4) rfl,aI e h ⟨_,_,_,λP k=>f.cell (c k) (j:=1) rfl,_,_,_,λP k=>a.row.cell (c k) (j:=4) rfl,aI e h ⟨_,λP k=>f.cell0<|c k,G,v⟩⟩⟩
theorem agq{l:Az}{q n:Nat}{z:Int}(p:N.2.1=N.2.1)(b:bf (hp w) F N.1 N.2.1)(d:F[q]? =some l)(e:l[n]? =some z):ρ nU [.agg ⟨[gN A,gN N]⟩,O (q:Int),O (n:Int)] w λf g=>f=O z/\Gr w g:=by
 refine vZ<|ag (W.all w) λr h a=>?_;obtain⟨s,t,i,j,v,x,y,rfl,_,c⟩:=(b.mono a.aS).2 q l d;have k:q<N.2.1:=by rw[<-b.1];grind
 obtain⟨C,m,o⟩:=c.at e;refine⟨_,_,_,a.cell 1,aI i k ⟨_,_,_,j.cell0 sZ,au m (by rw[<-c.1];grind) ⟨_,o h sZ,rfl,a.aS⟩⟩⟩
theorem abf(a:CX (hp w) b x A N R g r F p){l:Az}{q n:Nat}{z s:Int}(f:s=((g.T+n:Nat):Int))(v:n<=1000000)(y:g.T<=1000000)(h:F[q]? =some l)(i:l[n]? =some z):ρ 227 [u (some (Z b)),O (q:Int),O s] w λk m=>k=O z/\Gr w m:=by
 subst f;refine uG λd o=>?_;have c:Gr w d:=Gr.drawn o;have C:(x.tl:Int)=(g.T:Int):=by have:=a.g.t.1;show _=(g.terms.length:Int);omega
 refine⟨λe=>Gr d e,Gr.refl _,_,_,λe s=>a.row.cell (sub.trans c s) (j:=5) rfl,_,_,_,λe s=>a.row.cell0<|sub.trans c s,ξ,?_⟩;have t:((g.T+n:Nat):Int)-(x.tl:Int)=(n:Int):=U
 rw[t];refine⟨nU,[.agg ⟨[gN A,gN N]⟩,O (q:Int),O (n:Int)],by kernel_rfl,(agq rfl (a.G.mono c) h i).mono ?_⟩;rintro _ I⟨rfl,e⟩;exact⟨_,rfl,e,rfl,c.trans e⟩
theorem Uc(h:W w (LC m k Q i::L))(g:∀h,aL L h->FH h k st)(a1:Q<=st.length)(a2:i.length<=1000):ρ 221 [u (some (Z m))] w λI N=>∃o n c,I=T o n c/\n<=c/\W N (LC m k Q i::L):=by
 have p:=h;obtain⟨o,c,h⟩:=ny.1 h;refine tt<|(Ag<|h.cell 0).mono ?_;rintro _ _⟨rfl,rfl⟩;refine⟨_,rfl,bm rfl λa q=>?_⟩;have h:=h.drawn q;have d:=p.drawn q;clear p;obtain⟨e,a3,b,a4,r,s,a5⟩:=g _ h.tail.tail.l;have a6:=s.1;have t:min Q st.length=Q:=U
 have P:=bJ h.tail
 --what is put together
 have R:∀{f:ga}{l v:Nat},Gr a f->aj (hp f) (Z l) [O 0]->aj (hp f) (Z v) [T (some<|Z l) 1 1,T (f_ e 0 b 1) Q b,T o i.length c]->bf (hp f) [[0],st.take Q,i] (some<|Z v) 3:=λ{f x a0} v y l=>by
  have z:bf (hp f) ([0]:Az) (some<|Z x) 1:=bA rfl (.inr ⟨_,rfl,y⟩);have A:bf (hp f) (st.take Q) (f_ e 0 b 1) Q:=by rw[ZJ];exact(s.mono v).take U
  have C:bf (hp f) i o i.length:=(ic h.tail).mono v;refine⟨rfl,λF a7 V=>?_⟩
  match F,V with
  |0,V=>cases V;exact⟨_,_,rfl,λj S Y=>by rw[ke];exact l (0+j) S G,_,_,_,rfl,gP _,z⟩
  |1,V=>cases V;exact⟨_,_,rfl,λj S Y=>by rw[ke];exact l (1+j) S (by cases j with|zero=>exact Y|succ j=>grind),_,_,_,rfl,U,A⟩
  |2,V=>cases V;exact⟨_,_,rfl,λj S Y=>by rw[ke];exact l (2+j) S G,_,_,_,rfl,P,C⟩
 have v:∀{l:ga}{X:List aG}{x y:Nat},W l (X++(ax x [O 0]::ax y [T (some<|Z x) 1 1,T (f_ e 0 b 1) Q b,T o i.length c]::[has (hp a)]))->ρ 309 [T (some<|Z y) 3 3] l λS Y=>∃o n f,S=T o n f/\n<=f/\Gr a Y:=λ{z X A a0} h=>by
  have f:W z (ax A [O 0]::ax a0 [T (some<|Z A) 1 1,T (f_ e 0 b 1) Q b,T o i.length c]::[has (hp a)]):=by
   induction X with
   |nil=>grind
   |cons F X C=>exact C h.tail
  have C:Gr a z:=aE 2 f.l;refine(abd (R C (af 0 f.l)<|af 1 f.l) U G).mono ?_;rintro _ a7⟨a8,a9,rfl,F⟩;exact⟨_,_,_,rfl,bJ F,C.trans F.aS⟩
 have f:aj (hp a) (Z m) [u (some<|Z k),O (Q:Int),T o i.length c]:=af 0 h.l
 refine⟨λl=>Gr a l,Gr.refl _,some<|Z k,λx l=>f.cell0 l,_,λx l=>r.cell0 l,some<|Z k,λx l=>f.cell0 l,_,_,_,λx l=>r.cell l (j:=1) rfl,_,_,_,λx l=>f.cell l (j:=2) rfl,?_,?_⟩
 ·refine ag (W.all a) λF S l=>⟨l.aS,(Io (d.gr l.aS) g).mono ?_⟩;rintro _ Y⟨rfl,A⟩;have x:=l.eq A;rw[t];refine⟨_,rfl,x.aS,ij U<|ag x λa0 a7 y=>⟨y.tail.aS,(v (X:=[])<|y.pick 2 [1,0]).mono ?_⟩⟩;rintro _ a8⟨a9,aa,ab,rfl,C,z⟩;exact⟨_,_,_,rfl,z,_,_,_,rfl,C,d.gr z⟩
 ·refine(Io d g).mono ?_;rintro _ F⟨rfl,l⟩;have A:=(W.all a).eq l;rw[t];refine⟨_,rfl,Gr.of_eq l,ij U<|ag A λS Y x=>⟨x.aS,ag x λa0 a7 y=>⟨y.tail.aS,(v (X:=[])<|y.pick 2 [1,0]).mono ?_⟩⟩⟩;rintro _ a8⟨a9,aa,ab,rfl,C,z⟩;exact⟨_,_,_,rfl,z,_,_,_,rfl,C,d.gr z⟩
def aij(L:List aG)(r0:rN)(v:ah)(w':ga):Prop:=
 (r0=none/\v=.tuple #[.agg #[J false,D,D],O 15]/\W w' L)\/
 ∃(f:Bool)(ms:List aF)(l:Az)(o o2:E)(c n c2:Nat),r0=some (f,ms,l)/\v=.tuple #[.agg #[J f,T o ms.length c,T o2 n c2],O 0]/\ms.length<=1025/\W w' (own 2 o ms.length c (dE ms)::L)
theorem xi{t:Int}{Q:Az->Prop}(d:CX H b x A N R g r F p)(v:jq g)(y:uP g (bB p) (cD p) t Q)(z:Q st)(a6:st.length<=64)(c:∀h,aL L h->FH h k st/\sub H h)(h:W w L):
  ρ 129 [u (some (Z b)),J true,u (some (Z k)),O t] w (aij L (X2 g (bB p) (cD p) t 1024 st [])):=by
 obtain⟨C,I⟩:∃a,a=X2 g (bB p) (cD p) t 1024 st []:=⟨_,rfl⟩;rw[<-I];refine y7<|ag h λl a7 h a8 m=>?_;have h:=h.drawn m
 have e:∀{a:ga}{X:List aG},W a (X++L)->sub H (hp a):=λ{n X} a=>by
  induction X with
  |nil=>exact(c _ a.l).2
  |cons A X f=>exact f a.tail
 have P:aj H (Z b) x.cells:=aj.take (vs:=[.iface yz (.agg ⟨[gN A,gN N]⟩),.iface gG<|.agg ⟨R.cells⟩]) d.row;refine⟨λa=>sub H<|hp a,e (X:=[_]) h,_,_,_,_,_,_,_,_,_,_,_,_,_,λf a=>P.at a rfl,_,_,λf a=>d.row.cell a (j:=5) rfl,(Ho h λh a=>(c _<|ay a).1).mono ?_⟩;rintro _ a9⟨f,rfl,h⟩
 refine⟨_,rfl,e (X:=[_,_]) h,ag h λn aa h=>⟨e (X:=[_,_,_]) h,λa=>W a<|ax n (Sp f x gG (.agg ⟨R.cells⟩) none 0 0)::LC f k st.length []::ax l [J false,D,D]::L,gd rfl ⟨_,_,d.row.cell (e (X:=[_,_,_]) h) (j:=6) rfl,?_⟩,?_⟩⟩
 ·rw[ak];exact aX (i:=6) h V λa h=>h
 clear h;intro _ S h
 have Y:s9 g (bB p) (cD p) t Q f k n x gG (.agg ⟨R.cells⟩) st C (ax l [J false,D,D]::L) ⟨st.length,[],[],none,0⟩ S:=by
  refine⟨gP _,U,V,?_,?_,(aH 2 h).pick 4 [2,1,0,3]⟩
  ·dsimp only;rw[jl,jK];exact z
  simp_all
 refine(TA (P9 d.p) y v (λh a=>⟨(c _<|ay a).1,(c _<|ay a).2,d.g.mono (c _<|ay a).2⟩) Y).mono ?_
 rintro _ ab (⟨o,rfl,h⟩|⟨a,s,o,rfl,a0,ac,a1,_,h⟩)
 ·refine⟨_,_,rfl,gd rfl (aQ h rfl (by simp[aO]) λq h=>⟨_,_,_,_,_,_,_,(af 0 h.l).at sZ rfl,.inl ⟨o,rfl,h.tail⟩⟩)⟩
 ·refine⟨_,_,rfl,bm rfl λad m=>?_⟩;have h:=h.drawn m;refine⟨λq=>aj (hp q) (Z n)<|Sp f x gG (.agg ⟨R.cells⟩) a.o a.ms.length a.c,af 1 h.l,_,_,_,λa2 q=>q.cell sZ (j:=7) rfl,_,λa2 q=>q.cell0 sZ,?_⟩;refine cE<|bZ (bJ h.tail.tail) ⟨_,_,_,rfl,af 1 h.l,?_⟩;refine(Uc h (λh q=>(c _<|ay<|ay<|ay q).1) a0 U).mono ?_;rintro _ al⟨a2,q,am,rfl,a3,h⟩;refine⟨_,_,_,rfl,af 1 h.l,bw<|bZ a3 ⟨_,_,_,rfl,af 1 h.l,?_⟩⟩;refine aQ (h.pick 4 [3,2]) rfl (by simp[aO]) λa4 h=>?_;have a5:aj (hp a4) (Z l) [J s,T (f_ a.o 0 a.ms.length 2) a.ms.length a.ms.length,T (f_ a2 0 q 1) q q]:=af 0 h.l;exact⟨_,_,_,_,_,_,_,a5.at sZ rfl,.inr ⟨s,a.ms,_,_,_,_,_,_,o,rfl,a1,cK h.tail⟩⟩
theorem adR{Q:Az->Prop}(i:CX H b x A N R g r F p)(m:jq g)(q:∀t:Nat,t<g.T->uP g (bB p) (cD p) t Q)(s:Q st)(v:st.length<=64)(I:g.T<=1000)(j:∀h,aL L h->FH h k st/\sub H h)(h:W w L):
  ρ 116 [u (some (Z b)),J true,u (some (Z k))] w λy z=>(∃(o:E)(n c:Nat)(e:Int),y=.tuple #[T o n c,O e]/\(e=0\/e=15))/\W z L:=by
 refine vK<|(VW<|i.mono (j _ h.l).2).mono ?_;rintro _ P⟨rfl,rfl⟩;refine⟨_,rfl,λo n c d f=>∃(a:Nat)(l:Az),d=a/\a<=g.T/\n<=a/\W f (own 1 o n c (iv l)::L),λ_ _ _ a _=>g.T-a.toNat,⟨0,[],rfl,gu _,gP _,aH 1 h⟩,?_⟩;clear h;rintro _ o n c _ S⟨a,f,rfl,X,Y,h⟩
 refine ae (λl=>?_) λl=>?_
 ·have d:a<g.T:=by have:=gZ l;omega
  refine(xi i m (q a d) s v (λh C=>j _<|ay C) h).mono ?_
  rintro _ C (⟨_,rfl,h⟩|⟨a0,a1,a2,a3,a4,a5,a6,a7,_,rfl,_,h⟩)
  ·refine⟨_,_,_,_,_,_,_,_,rfl,ag h λa8 a9 h=>aQ h rfl (by simp[aO]) λaa h=>gd rfl ⟨⟨none,0,0,15,rfl,.inr rfl⟩,h.tail.tail⟩⟩
  ·refine⟨_,_,_,_,_,_,_,_,rfl,ag h.tail λa8 a9 h=>aQ h rfl (by simp[aO]) λaa h=>bm rfl ⟨_,h.cell 0,ae (λab=>?_) λac=>⟨ξ,⟨a+1,f,V,d,U,h.tail⟩,bS d⟩⟩⟩;refine ag h.tail λac ad h=>?_;refine(aU (us:=iv f) (vs:=[O (a:Int)]) aY (rfl:ai Ty _=.slice _) (rfl:ai Ty _=.slice _) rfl rfl rfl h rfl (by simp[aO]) (by show(n+1)*8<=_;omega) U).mono ?_;rintro _ al⟨am,an,rfl,h⟩;have e:iv f++[O (a:Int)]=iv (f++[(a:Int)]):=by simp[iv]
   rw[e] at h;exact⟨_,_,_,rfl,ξ,⟨a+1,_,V,d,U,h.pick 2 [0]⟩,bS d⟩
 ·exact bw (bZ (bJ h) ⟨_,_,_,rfl,⟨_,_,_,0,rfl,.inl rfl⟩,h.tail⟩)
end
def vr(m:aF×Nat):Ay:=[O m.1.kind,O m.1.to,O (m.2:Int)]
def r8(l:List (aF×Nat)):Ay:=l.flatMap vr
abbrev X7(l:A0):Az:=l.map λ(j:Nat)=>(j:Int)
abbrev VX(s a b:Nat)(y:cY)(mo:E)(mc:Nat):Ay:=[u (some (Z s)),u (some (Z a)),u (some (Z b)),J true,T mo y.mv.length mc,O (y.du:Int),J y.ov]
def oV(r s a b:Nat)(y:cY)(L:List aG)(u:ga):Prop:=∃(nq:List Xy)(x:r7)(z:tq)(mo:E)(mc:Nat),nq.map zP=y.nd/\
 W u (ax r (VX s a b y mo mc)::own 3 mo y.mv.length mc (r8 y.mv)::VV s (zG y.es) (X7 y.ids.reverse) x (Ss a nq y.tk z L))
def Bg(g:B)(ss:List SQ)(Gs:A7):Prop:=∀(q n:Nat)(j:Int),n<g.N->dt ss q ((g.T+n:Nat):Int)=some j->∃l,Gs[q]? =some l/\l[n]? =some j
section
variable{w:ga}{L:List aG}{r s a b:Nat}{y:cY}{g:B}{ss:List SQ}{i:Nat->Int->Nat}{H:Hp}{x:GA}{k F:Ix}{N:PA}{Q:List (List aF)}{R:A7}{p:dO}
theorem Ud{c:aF}{K:ga->Nat->Prop}(a6:y.mv.length<=1000000)(h:oV r s a b y L w)
  (N:∀(d:ga)(e:Nat)(f:List Xy)(x:r7)(z:tq)(g:E)(k:Nat),f.map zP=y.nd->W d (ax e (bR c)::ax r (VX s a b { y with mv:=y.mv++[(c,y.du)] } g k)::own 3 g (y.mv++[(c,y.du)]).length k (r8 (y.mv++[(c,y.du)]))::VV s (zG y.es) (X7 y.ids.reverse) x (Ss a f y.tk z L))->K d e):
  new w (oC (bR c) td) λe l=>∀f,drawn l f->∃d:ga->Prop,d f/\nn (some (Z r)) λP=>∃m n o,(∀g,d g->World.cell? g (Addr.add P 4)=some (T m n o))/\∃n1 p,(∀g,d g->iA g (Z e) 0 2=some [O n1,O p])/\nn (some (Z r)) λQ=>∃q,(∀g,d g->World.cell? g (Addr.add Q 5)=some (O q))/\new f (oC [O n1,O p,O q] Qm) λt g=>d g/\bg prog (ft Ln (Array.mk [T m n o,T (some (Z t)) 1 1])) g λR v=>∃A C F,R=T A C F/\d v/\nn (some (Z r)) λS=>gh v (Addr.add S 4) (T A C F) λk=>K k e:=by
 obtain⟨X,Y,z,a0,a1,a2,h⟩:=h;refine ag h λe l h f a3=>?_;have h:=h.drawn a3;refine⟨λI=>aj (hp I) (Z r) (VX s a b y a0 a1)/\aj (hp I) (Z e) (bR c),⟨af 1 h.l,af 0 h.l⟩,_,_,_,λa4 I=>I.1.cell sZ (j:=4) rfl,_,_,λa4 I=>I.2.at sZ rfl,_,λa4 I=>I.1.cell sZ (j:=5) rfl,ag h λt g h=>⟨⟨af 2 h.l,af 1 h.l⟩,?_⟩⟩;refine(aU (us:=r8 y.mv) (vs:=vr (c,y.du)) aY (rfl:ai Ty _=.slice _) (rfl:ai Ty _=.slice _) rfl rfl rfl (h.pick 4 [0,3,1,2]) rfl (by simp[aO,vr]) G U).mono ?_;rintro _ a7⟨I,a4,rfl,h⟩;refine⟨_,_,_,rfl,⟨af 3 h.l,af 2 h.l⟩,?_⟩
 show gh _ ((Z r).add 4) _ _
 rw[ak];refine aX (i:=4) (h.pick 4 [3,0,2]) V λk h=>N k e X Y z I a4 a2 ?_;have a5:r8 (y.mv++[(c,y.du)])=r8 y.mv++vr (c,y.du):=by simp[r8]
 unfold VX;rw[a5,jw];exact h.pick 3 [2,0,1]
theorem agr{t q:Nat}(e:np g ss y)(F:y.es.length<64)(n:y.mv.length<=1000000)(h:oV r s a b y L w):ρ fP [u (some (Z r)),.agg ⟨bR ⟨1,q⟩⟩,O (t:Int)] w λo p=>o=.tuple #[]/\oV r s a b (CU t q y) L p:=by
 refine kP<|Ud n h (c:=⟨1,q⟩) λI l d N P f i v h=>⟨_,h.cell 0,gd rfl λQ k=>?_⟩;have h:=h.drawn k;have x:d.length=y.nd.length:=G
 have R:=e.nl;refine⟨λm=>aj (hp m) (Z r) (VX s a b { y with mv:=y.mv++[(⟨1,q⟩,y.du)] } f i)/\aj (hp m) (Z l) (bR ⟨1,q⟩),⟨af 1 h.l,af 0 h.l⟩,_,λz m=>m.1.cell sZ (j:=1) rfl,_,λz m=>m.1.cell sZ (j:=5) rfl,?_⟩;refine(agm (s:=t) (t:=y.du) (h.pick 10 [6,7,8,9,0,1,2,3,4,5]) U (by rw[e.tl,x])).mono ?_;rintro _ S⟨rfl,z,h⟩;refine⟨_,_,rfl,⟨af 5 h.l,af 4 h.l⟩,λX k=>?_⟩;have h:=h.drawn k;refine⟨λm=>aj (hp m) (Z r) (VX s a b { y with mv:=y.mv++[(⟨1,q⟩,y.du)] } f i)/\aj (hp m) (Z l) (bR ⟨1,q⟩),⟨af 5 h.l,af 4 h.l⟩,_,λA m=>m.1.cell0 sZ,_,λA m=>m.2.cell sZ (j:=1) rfl,?_⟩;have Y:=e.il;refine(Bd (h.pick 10 [7,8,9,0,1,2,3,4,5,6]) (by simp_all[gC]) G).mono ?_;rintro _ a0⟨rfl,m,h⟩
 refine⟨_,rfl,rfl,d++[(((t:Int),(-1:Int),(y.du:Int)),((none,0),[]))],m,z,f,i,?_,?_⟩
 ·show(d++_).map zP=y.nd++[⟨t,-1,y.du,[]⟩]
  rw[jI,v];rfl
 ·have A:zG (((t:Int),q,Tr.lf t y.du)::y.es)=zG y.es++[(q:Int)]:=zH _ _;have C:X7 (y.nd.length::y.ids).reverse=X7 y.ids.reverse++[(d.length:Int)]:=η
  unfold CU;dsimp only;rw[A,C];exact h.pick 10 [8,9,0,1,2,3,4,5,6]
theorem ags{t:Int}{m:Nat}{q:aD}(z:CX H b x k F N g Q R p)(a4:∀h,aL L h->sub H h)(a5:Bg g ss R)(e:np g ss y)(a6:g.prods[m]? =some q)(b2:q.right.length<=y.es.length)(b3:(y.es.drop q.right.length).length<64)(b4:(g.T:Int)<=q.left)(b5:q.left<((g.T+g.N:Nat):Int))(b6:g.T<=1000/\g.N<=1000)
  (A:dt ss (bV (y.es.drop q.right.length)) q.left=some (i (bV (y.es.drop q.right.length)) q.left:Int)) (a7:y.mv.length<=1000000) (h:oV r s a b y L w):ρ fP [u (some (Z r)),.agg ⟨bR ⟨2,(m:Int)⟩⟩,O t] w λa8 a9=>a8=.tuple #[]/\oV r s a b (Eo i m q y) L a9:=by
 refine kP<|Ud a7 h (c:=⟨2,(m:Int)⟩) λb7 C l b9 ba I P aa h=>⟨_,h.cell 0,bm rfl (gd rfl λbb f=>?_)⟩;have h:=h.drawn f;have ab:l.length=y.nd.length:=G
 have bc:=e.nl;have S:=e.il;have bd:=e.hl;obtain⟨n,o⟩:∃n,n=q.right.length:=⟨_,rfl⟩;obtain⟨d,Y⟩:∃v,v=VX s a b { y with mv:=y.mv++[(⟨2,(m:Int)⟩,y.du)] } I P:=⟨_,rfl⟩;have ac:d[0]? =some (u<|some<|Z s):=η
 have ad:d[1]? =some (u<|some<|Z a):=η
 have a0:d[2]? =some (u<|some<|Z b):=η
 rw[<-Y] at h;have v:∀{a1:ga},aj (hp a1) (Z r) d->a1.cell? (Z r)=some (u<|some<|Z s):=λa1=>by have:=a1.cell sZ ac;rwa [show(Z r).add 0=Z r from rfl] at this
 have a1:∀{a2:ga}{X:List aG},W a2 (X++L)->sub H (hp a2):=λ{al X} a2=>by
  induction X with
  |nil=>exact a4 _ a2.l
  |cons am X a3=>exact a3 a2.tail
 refine⟨λa2=>aj (hp a2) (Z r) d/\aj (hp a2) (Z C) (bR ⟨2,(m:Int)⟩),⟨af 1 h.l,af 0 h.l⟩,_,λa3 a2=>a2.1.cell sZ a0,_,λa3 a2=>a2.2.cell sZ (j:=1) rfl,?_⟩;refine(abe (z.mono<|a1 (X:=[_,_,_,_,_,_,_,_,_,_]) h) a6).mono ?_;rintro _ be⟨rfl,al⟩;have h:=h.eq al;rw[<-o];refine⟨_,_,rfl,⟨af 1 h.l,af 0 h.l⟩,_,v<|af 1 h.l,?_⟩;refine(ahI (n:=n) (h.pick 10 [3,4,5,0,1,2,6,7,8,9]) (by simp_all[gC]) (by simp_all[gC]) (by grind[gC])).mono ?_;rintro _ bi⟨bl,bo,bs,rfl,h⟩;have am:(zG y.es).take ((zG y.es).length-n)=zG (y.es.drop n):=KB _ _ U
 have an:(X7 y.ids.reverse).drop ((zG y.es).length-n)=X7 (y.ids.take n).reverse:=by
  rw[gC,<-List.map_drop,List.drop_reverse,S]
  grind
 have ao:(X7 y.ids.reverse).take ((zG y.es).length-n)=X7 (y.ids.drop n).reverse:=by
  rw[gC,<-List.map_take,List.take_reverse,S]
  grind
 rw[am,an,ao] at h;obtain⟨left,a2⟩:∃left:Nat,q.left=left:=⟨q.left.toNat,U⟩;refine⟨_,_,_,_,rfl,λbu f=>?_⟩;have h:=h.drawn f;refine⟨λa3=>aj (hp a3) (Z r) d/\aj (hp a3) (Z C) (bR ⟨2,(m:Int)⟩),⟨af 5 h.l,af 4 h.l⟩,_,λap a3=>a3.1.cell sZ ad,_,λap a3=>a3.2.cell sZ (j:=1) rfl,?_⟩;have bz:=e.nd;rw[a2]
 refine(ago (s:=left) (p:=m) (h.pick 11 [0,7,8,9,10,1,2,3,4,5,6]) U (by rw[e.tl,ab]) (λj ap=>?_) ?_ G).mono ?_
 ·have a3:=List.mem_of_mem_take<|List.mem_reverse.1 ap;exact⟨η,e.tk j a3⟩
 ·grind[List.reverse_perm,List.take_sublist]
 rintro _ bE⟨rfl,av,az,h⟩;refine⟨_,_,rfl,⟨af 8 h.l,af 7 h.l⟩,λbN f=>?_⟩;have h:=h.drawn f;refine⟨λa3=>aj (hp a3) (Z r) d,af 8 h.l,_,λaB a3=>v a3,_,λaB a3=>a3.cell sZ a0,_,λaB a3=>v a3,?_⟩;have bO:(zG<|y.es.drop n).length=(y.es.drop n).length:=gC _;refine(ahJ (h.pick 10 [4,5,6,7,8,9,0,1,2,3]) G).mono ?_;rintro _ bP⟨rfl,aB⟩;have h:=h.eq aB;obtain⟨j,a3⟩:∃j:Nat,q.left=((g.T+j:Nat):Int):=⟨(q.left-g.T).toNat,U⟩;have aK:j<g.N:=U
 rw[a3] at A;obtain⟨bT,c0,aR⟩:=a5 _ j _ aK A;rw[Aq];refine⟨_,rfl,af 8 h.l,(abf (z.mono<|a1 (X:=[_,_,_,_,_,_,_,_,_,_]) h) (n:=j) (s:=left) U U U η aR).mono ?_⟩;rintro _ c1⟨rfl,aS⟩;have h:=h.gr aS;refine⟨_,rfl,af 8 h.l,?_⟩;refine(Bd (h.pick 10 [4,5,6,7,8,9,0,1,2,3]) η G).mono ?_;rintro _ c2⟨rfl,aV,h⟩
 refine⟨_,rfl,rfl,l++[(((left:Int),(m:Int),(0:Int)),(az,X7 (y.ids.take n).reverse))],aV,av,I,P,?_,?_⟩
 ·show(l++_).map zP=y.nd++[⟨q.left,m,0,X7 (y.ids.take q.right.length).reverse⟩]
  rw[jI,aa,a2,<-o];rfl
 ·have b0:zG (H8 i m q y.es)=zG (y.es.drop n)++[(i (bV<|y.es.drop q.right.length) ((g.T+j:Nat):Int):Int)]:=by
   rw[<-a3,o];exact zH (q.left,i (bV<|y.es.drop q.right.length) q.left,Tr.nd m ((y.es.take q.right.length).map (·.2.2)).reverse) (y.es.drop q.right.length)
  have b1:X7 (y.nd.length::y.ids.drop q.right.length).reverse=X7 (y.ids.drop n).reverse++[(l.length:Int)]:=η
  unfold Eo;dsimp only;rw[b0,b1];rw[Y] at h;subst o;exact h.pick 10 [4,5,0,1,2,6,7,8,9]
theorem agt{t:Int}{c:aF}(o:c.kind=3)(d:y.mv.length<=1000000)(h:oV r s a b y L w):ρ fP [u (some (Z r)),.agg ⟨bR c⟩,O t] w λe f=>e=.tuple #[]/\oV r s a b (RF c y) L f:=by
 refine kP (Ud d h (c:=c) λp q g j k l m n h=>⟨_,h.cell 0,bm η<|bm η<|gd η ?_⟩)
 show gh _ ((Z r).add 6) _ _
 rw[ak];refine aX (i:=6) h.tail V λv h=>⟨rfl,g,j,k,l,m,n,h⟩
end
def j4(g:B)(A':Int->Int->aF)(G':Int->Int->Int)(G:Nat->Int->Nat)(t:Nat)(y:cY):Option (Bool×cY):=match X2 g A' G' t 1024 (zG y.es) [] with
 |none=>none
 |some (false,_,_)=>some (false,y)
 |some (true,ms,_)=>some (true,Gp t (ms.foldl (Bm g G t) y))
structure KP(g:B)(ss:List SQ)(A:Nat->Int->aF)(G:Nat->Int->Nat)(Gs:A7)(p:dO):Prop where
 hc:aw g
 hA:bG g ss
 hb:jq g
 hS:Sd g ss A G
 hN:xe g ss A G (bB p) (cD p)
 hG:Bg g ss Gs
section
variable{g:B}{ss:List SQ}{A:Nat->Int->aF}{i:Nat->Int->Nat}{j:A7}{p:dO}{y:cY}
theorem agu(a:aw g)(b:bG g ss){q:Nat}{s j:Int}(h:dt ss q s=some j):s<((g.T+g.N:Nat):Int):=by
 obtain⟨e,f,i,c,d,k,l⟩:=j8 h;have:=(dj a b c d).2.1;omega
theorem Pf(h:aw g):∀q∈g.prods,q.left<((g.T+g.N:Nat):Int):=λq a=>by
 have f:=h.cR
 obtain⟨_,j,b,k,l,m,_⟩:=h
 obtain⟨c,n⟩:=jR a
 cases c with
 |zero=>grind
 |succ d=>
  have e:q∈g.prods.drop 1:=by
   refine gg (i:=d) ?_
   simp_all
  have:=((b.2.2.1 q e).1).2.1
  omega
theorem agv(t:Nat)(a:aF):(Bm g i t y a).mv.length<=y.mv.length+1:=by grind[Bm,CU,Eo,RF]
theorem VY(t:Nat):∀(ms:List aF)(y:cY),(ms.foldl (Bm g i t) y).mv.length<=y.mv.length+ms.length
 |[],y=>gP _
 |a::ms,y=>by
  have h1:=VY t ms (Bm g i t y a)
  grind[agv,List.length_cons]
theorem EC(t:Nat):∀(ms:List aF)(y:cY),(ms.foldl (Bm g i t) y).du=y.du
 |[],y=>rfl
 |a::ms,y=>by
  rw[List.foldl_cons,EC t ms]
  unfold Bm
  split
  ·rfl
  ·split
   ·split<;>rfl
   rfl
inductive KQ (g:B) (A:Nat->Int->aF) (i:Nat->Int->Nat) (t:Nat):List xO->List aF->Prop
 |sh (l:List xO):(A (bV l) t).kind=1->l.length<64->KQ g A i t l [A (bV l) t]
 |ac (l:List xO):(A (bV l) t).kind=3->KQ g A i t l [A (bV l) t]
 |rd (l:List xO) (m:Nat) (q:aD) (ms:List aF):A (bV l) t=⟨2,(m:Int)⟩->g.prods[m]? =some q->q.right.length<=l.length->(l.drop q.right.length).length<64->KQ g A i t (H8 i m q l) ms->KQ g A i t l (⟨2,(m:Int)⟩::ms)
theorem VZ{t:Nat}{l a:List xO}{rs ms:List aF}{b:Int}(c:(t:Int)=b)(h:RD g A i b l rs a)(d:KQ g A i t a ms):KQ g A i t l (rs++ms):=by
 induction h with
 |nil=>grind
 |cons l e f p q j k m n _ o=>
  subst c;exact .rd l e f _ j k m n (o d)
theorem abh(h:KP g ss A i j p){t n:Nat}(d:t<g.T){l:List xO}{ms:List aF}{st:Az}(e:lK ss l)(f:X2 g (bB p) (cD p) t n (zG l) []=some (true,ms,st)):KQ g A i t l ms:=by
 obtain⟨o,b,c,q,r,k⟩:=TY h.hc h.hA h.hS h.hN d n e f
 rcases k with⟨_,a,m,rfl⟩|⟨_,a,rfl⟩|⟨s,_⟩
 ·exact VZ rfl c (.sh b a m)
 ·exact VZ rfl c (.ac b a)
 simp_all
end
section
variable{w:ga}{L:List aG}{r s a b:Nat}{y:cY}{g:B}{ss:List SQ}{A:Nat->Int->aF}{k:Nat->Int->Nat}{H:Hp}{x:GA}{F N:Ix}{Q:PA}{R:List (List aF)}{X:A7}{p:dO}{t:Nat}
theorem Ue{A B:aG}{st ids:Az}{x:r7}{h:Hp}(a:aL (A::B::VV s st ids x L) h)(c:st.length<=64):FH h s st:=by
 obtain⟨e,d,b⟩:=B7 (A:=own 1 x.s st.length x.cs<|iv st) 3 a;exact⟨x.s,st.length,x.cs,_,af 2 a,(bA rfl (bD b)).mono d,c,uz b⟩
theorem agw(d:KP g ss A k X p)(C:CX H b x F N Q g R X p)(I:∀h,aL L h->sub H h)(m:t<g.T)(e:np g ss y){c:aF}{ms:List aF}(n:KQ g A k t y.es (c::ms))(i:y.mv.length<=1000000)(h:oV r s a b y L w):
  ρ fP [u (some (Z r)),.agg ⟨bR c⟩,O (t:Int)] w λP S=>P=.tuple #[]/\np g ss (Bm g k t y c)/\(ms=[]\/KQ g A k t (Bm g k t y c).es ms)/\oV r s a b (Bm g k t y c) L S:=by
 have a7:=d.hc.cR;generalize j:c::ms=a8 at n;cases n with
 |sh _ v l=>
  cases j;have f:=d.hS.sh _ t (by obtain⟨r,o⟩:=Gn d.hA d.hc e.RB;grind) m v;have a0:=(eZ d.hc d.hA f).1;obtain⟨o,z⟩:∃q:Nat,(A (bV y.es) t).to=q:=⟨(A (bV y.es) t).to.toNat,U⟩;have q:A (bV y.es) t=⟨1,(o:Int)⟩:=by cases Y:A (bV y.es) t;simp_all
  rw[z] at f;have Y:Bm g k t y (A (bV y.es) t)=CU t o y:=by rw[q];rfl
  rw[Y,q];refine(agr e l i h).mono ?_;rintro _ a1⟨rfl,h⟩;exact⟨rfl,e.sh f l,.inl rfl,h⟩
 |ac _ f=>
  cases j;have l:Bm g k t y (A (bV y.es) t)=RF (A (bV y.es) t) y:=by simp_all[Bm]
  rw[l];refine(agt f i h).mono ?_;rintro _ o⟨rfl,h⟩;exact⟨rfl,e.ac _,.inl rfl,h⟩
 |rd _ l o a9 Y f q v a0=>
  cases j;obtain⟨a1,aa,a2,z,ab,a3,a4,a5⟩:=d.hS.RB d.hc d.hA e.RB m G;rw[Y] at a2;have:l=a1:=G
  subst this;rw[f] at z;cases z;have a6:Bm g k t y ⟨2,(l:Int)⟩=Eo k l o y:=by unfold Bm;simp_all
  rw[a6];refine(ags C I d.hG e f q v a4 (Pf d.hc o<|gg f) ξ a5 i h).mono ?_;rintro _ ad⟨rfl,h⟩;exact⟨rfl,e.rd f q a3 v,.inr a0,h⟩
abbrev V2(g:B)(ss:List SQ)(r s a b:Nat)(y:cY)(F:Option (Bool×cY))(L:List aG)(v:ah)(w':ga):Prop:=
 (F=none/\v=.tuple #[J false,O 15]/\oV r s a b y L w')\/∃f y',F=some (f,y')/\v=.tuple #[J f,O 0]/\np g ss y'/\y'.mv.length<=y.mv.length+1025/\oV r s a b y' L w'
theorem V3(I:KP g ss A k X p)(a1:CX H b x F N Q g R X p)(a2:∀h,aL L h->sub H h)(P:t<g.T)(w:np g ss y)(az:y.mv.length<=900000)(aB:y.du<=1000000){f:Bool}{ms:List aF}{st:Az}(a3:X2 g (bB p) (cD p) t 1024 (zG y.es) []=some (f,ms,st))(aK:ms.length<=1025){l:Nat}{d m:E}{e c c2:Nat}{n:ga}
  (h:oV r s a b y (ax l [J f,T d ms.length e,T m c c2]::own 2 d ms.length e (dE ms)::L) n):
  ∃(o:lP [(33,mR)]),br ((0:Int) !=0) (o true n) (∃q,World.cell? n (Z l)=some (J q)/\o (!q) n)/\∀(a7:ν) b4 w8,o b4 w8->br b4 (V2 g ss r s a b y (j4 g (bB p) (cD p) k t y) L (vT (Array.mk [J false,O 0])) w8) (∃o5 k6 q,World.cell? w8 (Addr.add (Z l) 1)=some (T o5 k6 q)/\τ [(38,aP)] λx2 x3=>x2 0 w8/\∀(v:ν) c w9,x2 c w9->br (decide (c<(↑k6:Int))) (M o5 k6 c 2 λa4=>∃q v,iA w9 a4 0 2=some [O q,O v]/\new w9 (oC [O 0,O 0] td) λz a5=>bC a5 (Z z) [O q,O v] λC=>∃S Y,iA C (Z z) 0 2=some [O S,O Y]/\jm prog Ev fP [u (some (Z r)),vA (Array.mk [O S,O Y]),O (t:Int)] C λa6 a0=>a6=vT (Array.mk [])/\K (c+1)/\x2 (c+1) a0/\x3 (c+1) a0<x3 c w9) (br (decide (0<(t:Int))) (nn (some (Z r)) λv=>∃q,World.cell? w9 (Addr.add v 5)=some (O q)/\K (q+1)/\nn (some (Z r)) λz=>gh w9 (Addr.add z 5) (O (q+1)) λC=>V2 g ss r s a b y (j4 g (bB p) (cD p) k t y) L (vT (Array.mk [J true,O 0])) C) (V2 g ss r s a b y (j4 g (bB p) (cD p) k t y) L (vT (Array.mk [J true,O 0])) w9))):=by
 have aR:j4 g (bB p) (cD p) k t y=if f then some (true,Gp t<|ms.foldl (Bm g k t) y) else some (false,y):=by grind[j4]
 have S:∀{o:cY}{q:ga},oV r s a b o (ax l [J f,T d ms.length e,T m c c2]::own 2 d ms.length e (dE ms)::L) q->oV r s a b o L q:=λh=>by
  obtain⟨o,q,v,z,C,Y,h⟩:=h;exact⟨o,q,v,z,C,Y,h.pick 11 [0,1,2,3,4,5,6,7,8]⟩
 have z:∀{q:cY}{o:ga},oV r s a b q (ax l [J f,T d ms.length e,T m c c2]::own 2 d ms.length e (dE ms)::L) o->aj (hp o) (Z l) [J f,T d ms.length e,T m c c2]/\bf (hp o) ms d ms.length:=λh=>by
  obtain⟨o,q,v,C,Y,a0,h⟩:=h;exact⟨af 9 h.l,Er rfl (dT 10 h.l)⟩
 refine⟨λo q=>o= !f/\q=n,bm rfl ⟨_,(z h).1.cell0 sZ,rfl,rfl⟩,?_⟩;rintro _ _ w8⟨rfl,rfl⟩;cases f with
 |false=>exact gd rfl (.inr ⟨false,y,η,rfl,w,U,S h⟩)
 |true=>
 have Y:=abh I P w.RB a3;refine bm rfl ⟨_,_,_,(z h).1.cell sZ (j:=1) rfl,λq v=>∃(j:Nat)(o:cY),q=j/\j<=ms.length/\o=(ms.take j).foldl (Bm g k t) y/\np g ss o/\(ms.drop j=[]\/KQ g A k t o.es (ms.drop j))/\oV r s a b o (ax l [J true,T d ms.length e,T m c c2]::own 2 d ms.length e (dE ms)::L) v,λo _=>ms.length-o.toNat,⟨0,y,rfl,gu _,rfl,w,.inr Y,h⟩,?_⟩;clear h Y;rintro _ _ w9⟨j,o,rfl,aS,a0,C,aV,h⟩;have b0:o.mv.length<=y.mv.length+j:=by grind[VY,List.length_take]
 refine ae (λa4=>?_) λa4=>?_
 ·have q:j<ms.length:=η
  obtain⟨v,b1,a5,b2,a6,a7,a8⟩:=(z h).2.get q;have a9:a5=bR v:=a8;subst a9;have b3:ms.drop j=v::ms.drop (j+1):=by grind[List.drop_eq_getElem_cons,List.getElem?_eq_getElem]
  have aa:KQ g A k t o.es (v::ms.drop (j+1)):=η
  have ab:(ms.take<|j+1).foldl (Bm g k t) y=Bm g k t o v:=G
  refine aI a6 q ⟨_,_,a7.at sZ rfl,?_⟩;obtain⟨ac,ad,al,am,an,ao,h⟩:=h;refine ag h λb5 b6 h=>aQ h rfl (by simp[aO]) λb7 h=>⟨_,_,(af 0 h.l).at sZ rfl,?_⟩;refine(agw I a1 (L:=ax l [J true,T d ms.length e,T m c c2]::own 2 d ms.length e (dE ms)::L) (λh ap=>a2 _<|ay<|ay ap) P C aa U ⟨ac,ad,al,am,an,ao,h.tail⟩).mono ?_;rintro _ b9⟨rfl,ap,av,h⟩;exact⟨rfl,ξ,⟨j+1,_,V,q,ab.symm,ap,av,h⟩,bS q⟩
 ·have ac:ms.length=j:=G
  rw[jy U] at a0;have q:j4 g (bB p) (cD p) k t y=some (true,Gp t o):=η
  have h:=S h;have ad:o.du=y.du:=by simp_all[EC]
  refine ae (λv=>?_) λv=>?_
  ·have a5:0<t:=η
   obtain⟨a6,a7,a8,a9,aa,ab,h⟩:=h;refine⟨_,by rw[ak];exact h.cell 5,ξ,?_⟩
   show gh _ ((Z r).add 5) _ _
   rw[ak]
   refine aX (i:=5) h V λal h=>.inr ⟨true,_,q,rfl,C.fin t,?_,?_⟩
   ·unfold Gp;grind
   ·unfold Gp;rw[gD a5];exact⟨a6,a7,a8,a9,aa,ab,h⟩
  ·have a5:¬0<t:=η
   refine .inr ⟨true,_,q,rfl,C.fin t,?_,?_⟩
   ·unfold Gp;grind
   simp_all[Gp]
theorem agx(c:KP g ss A k X p)(l:CX H b x F N Q g R X p)(v:∀h,aL L h->sub H h)(z:t<g.T)(m:np g ss y)(C:y.mv.length<=900000)(I:y.du<=1000000)(h:oV r s a b y L w):
  ρ 58 [u (some (Z r)),O (t:Int)] w (V2 g ss r s a b y (j4 g (bB p) (cD p) k t y) L):=by
 refine Cm λa6 a1=>?_;obtain⟨d,n,e,f,i,o,h⟩:=h;have h:=h.drawn a1;have P:=AI c.hc c.hA c.hb c.hS c.hN z λq S=>by have:=Pf c.hc q S;have:=c.hc.cR;omega
 have S:∀{A q:aG}{Y a0:Az}{x:r7}{h:Hp},aL (A::q::VV s Y a0 x (Ss a d y.tk e L)) h->sub H h:=λq=>v _<|ay<|ay<|ay<|ay<|ay<|ay<|ay<|ay<|ay q;have q:(zG y.es).length<=64:=by rw[gC];exact m.hl
 have Y:∃a0,lK ss a0/\zG y.es=zG a0:=⟨y.es,m.RB,rfl⟩
 refine⟨λa0=>aj (hp a0) (Z r)<|VX s a b y f i,af 0 h.l,_,λa2 a0=>a0.cell sZ (j:=2) rfl,_,λa2 a0=>a0.cell sZ (j:=3) rfl,_,λa2 a0=>a0.cell0 sZ,?_,?_⟩
 ·refine(xi l c.hb P Y q (λh a0=>⟨Ue a0 q,S a0⟩) h).mono ?_
  rintro _ a7 (⟨a8,rfl,h⟩|⟨a9,aa,ab,ac,ad,al,am,an,a0,rfl,a2,h⟩)
  ·refine⟨_,_,_,_,_,_,_,_,rfl,af 0 h.l,ag h λao ap h=>⟨af 1 h.l,aQ h rfl (by simp[aO]) λa3 h=>⟨af 1 h.l,λa4 a5=>a4=true/\a5=a3,gd rfl ⟨rfl,rfl⟩,?_⟩⟩⟩;rintro _ _ _⟨rfl,rfl⟩;exact gd rfl (.inl ⟨by simp_all[j4],rfl,d,n,e,f,i,o,h.tail⟩)
  ·refine⟨_,_,_,_,_,_,_,_,rfl,af 1 h.l,ag h λa3 a4 h=>⟨af 2 h.l,aQ h rfl (by simp[aO]) λa5 h=>⟨af 2 h.l,?_⟩⟩⟩;exact V3 c l v z m C I a0 a2 ⟨d,n,e,f,i,o,h.pick 11 [2,3,4,5,6,7,8,9,10,0,1]⟩
 ·refine ag h λa7 a8 h=>⟨af 1 h.l,(xi l c.hb P Y q (λh a0=>⟨Ue (ay a0) q,S<|ay a0⟩) h).mono ?_⟩
  rintro _ a9 (⟨aa,rfl,h⟩|⟨ab,ac,ad,al,am,an,ao,ap,a0,rfl,a2,h⟩)
  ·refine⟨_,_,_,_,_,_,_,_,rfl,af 1 h.l,aQ h rfl (by simp[aO]) λa3 h=>⟨af 1 h.l,λa4 a5=>a4=true/\a5=a3,gd rfl ⟨rfl,rfl⟩,?_⟩⟩;rintro _ _ _⟨rfl,rfl⟩;exact gd rfl (.inl ⟨by simp_all[j4],rfl,d,n,e,f,i,o,h.tail⟩)
  ·refine⟨_,_,_,_,_,_,_,_,rfl,af 2 h.l,aQ h.swap rfl (by simp[aO]) λa3 h=>⟨af 2 h.l,?_⟩⟩;exact V3 c l v z m C I a0 a2 ⟨d,n,e,f,i,o,h.pick 11 [2,3,4,5,6,7,8,9,10,0,1]⟩
end
section
variable{a b c d:E}{i j k l m n o p:Nat}{A:Int}{w:ga}{R:ah->WP}
theorem KS(h:new w (ψ a i j b k l c m n A d o p) λa b=>χ b (Z a) λa=>qf 86 [a] b λc d b=>br (d !=0) (R (vU [D,O d]) b) (gF 87 [u c] b λd e f b=>br ((e:Int)==0) (R (vU [D,O 0]) b) (M d e 0 1 λa=>gX b a λf=>gF 88 [u c,O f] b λf g h b=>H b [D] 24 λa b=>gh b (Z a) (T f g h) λb=>M d e 0 1 λf=>gX b f λg=>H b [O g] 3 λb f=>gj f λg f=>gz f (Z a) λh i j=>M d e 0 1 λd=>gy f d λe=>M h i e 1 λd=>gy f d λe=>K (e-1)/\H g [O 0] 3 λd g=>f g/\gh g (Z d) (O (e-1)) λe=>τ [(8,jG),(9,S1.one Cs.ptr)] λf g=>f (some (Z b)) 1 1 (some (Z d)) e/\∀(_:ν) b d e h i,f b d e h i->nn h λj=>gX i j λk=>bQ (0<k) (gj i λj k=>nn c λc=>gz k c λl m n=>K ((d:Int)-1)/\M b d ((d:Int)-1) 1 λc=>gy k c λn=>M l m n 1 λc=>jc k c λl=>gF 89 [u l] j λl m n j=>k j/\iC 90 [T l m n,vF 91 [u (some (Z a)),u h]] j λj c=>M l m j 1 λa=>gX c a λj=>H c [O j] 3 λa c=>iT 24 b d e a c λj k l c=>nn h λa=>gX c a λm=>H c [O 0] 3 λa c=>gh c (Z a) (O m) λc=>gX c (Z a) λm=>K (m-1)/\gh c (Z a) (O (m-1)) λc=>nD f g j k l (some (Z a)) c b d e h i) (gF 92 [u c,T b d e] i λc d e b=>R (vU [T c d e,O 0]) b)))):ρ 40 [φ a i j b k l c m n A d o p] w R:=rv func40 h ⟨[(10,[(8,jG),(9,(.one .ptr))])],[],[],[]⟩
theorem KU(h:new w (ψ a i j b k l c m n A d o p) λa b=>χ b (Z a) λc=>iu 81 [c] b λd c=>br (!d) (R (vU [u none,O 1]) c) (χ c (Z a) λb=>kX 179 [b] c λd e f g c=>H c [D] 47 λb c=>gh c (Z b) (T d e f) λc=>br (g !=0) (R (vU [u none,O g]) c) (gp c (Z a) λd e f=>H c [D,O (e:Int)] 181 λc d=>H d [u none] 174 λd e=>gh e (Z d) (u (some (Z c))) λc=>hU c a 1 λe f g=>gT 0 c λe g c h=>bQ (c<(f:Int)) (gj h λb f=>jc f (Z d) λi=>jc f (Z d) λj=>nn j λd=>gz f d λj k l=>jo f a 1 λd m n=>kV 102 [O (m:Int),D] b λd b=>f b/\H b [u d] 178 λa b=>f b/\iT 179 j k l a b λd j k b=>f b/\nn i λa=>gh b a (T d j k) λa=>gx e g c a h) (hU h a 4 λc e f=>gT 0 h λa f g h=>bQ (g<(e:Int)) (M c e g 3 λc=>∃e i j k l,rA h c 3 [O e,T i j k,O l]/\H h [O 0,D,O 0] 134 λc m=>bC m (Z c) [O e,T i j k,O l] λe=>hU e c 1 λi j k=>τ [(10,aP),(61,aP)] λk l=>k 0 0 e/\∀(_:ν) e m n,k e m n->bQ (m<(j:Int)) (M i j m 1 λa=>gX n a λc=>iu 180 [O c,u (some (Z d)),u (some (Z b))] n λc b=>br c (K (e+1)/\K (m+1)/\nB k l (e+1) (m+1) b e m n) (K (m+1)/\nB k l e (m+1) b e m n)) (hU n c 1 λi j k=>gT 0 n λk l m n=>bQ (m<(j:Int)) (M i j m 1 λa=>gX n a λf=>∃(a:lP [(96,mR)]),(jQ n (Z d) λc=>nn c λc=>gX n (c.add 1) λg=>bQ (g<=f) (br (e==0) (a true n) (br (e==1) (iu 180 [O f,u (some (Z d)),u (some (Z b))] n λd c=>a d c) (a false n))) (a false n))/\∀(_:ν) b e,a b e->br b (gj e λa b=>jc b (Z d) λe=>nn e λe=>gz b e λg h i=>gy b (Z c) λe=>jc b (Z d) λc=>nn c λc=>gy b (c.add 1) λi=>K (e-i)/\M g h (e-i) 1 λc=>jc b c λe=>jc b (Z d) λc=>nn c λc=>gy b (c.add 1) λd=>K (f-d)/\H a [O (f-d)] 3 λa c=>b c/\iC 103 [u e,T (some (Z a)) 1 1] c λc b=>gx k l m b n) (gx k l m e n)) (gx a f g n h))) (jQ h (Z d) λa=>R (vU [u a,O 0]) h))))):ρ 86 [φ a i j b k l c m n A d o p] w R:=rv func86 h ⟨[(8,[(34,aP)]),(12,[(53,aP)]),(17,[(10,aP),(61,aP)]),(23,[(74,aP)])],[(26,[(96,mR)])],[],[]⟩
theorem GC(h:nn a λb=>gp w b λc d e=>τ [(3,jG),(10,aP)] λb c=>b none 0 0 0 w/\∀(_:ν) e f g h i,b e f g h i->bQ (h<(d:Int)) (gF 88 [u a,O h] i λj k l d=>M j k h 1 λa=>gX d a λj=>bQ (0<j) (H d [O h] 3 λa d=>iT 24 e f g a d λj k l d=>K (h+1)/\nD b c j k l (h+1) d e f g h i) (K (h+1)/\nD b c e f g (h+1) d e f g h i)) (R (T e f g) i)):ρ 87 [.pointer a] w R:=rv func87 h ⟨[(3,[(3,jG),(10,aP)])],[],[],[]⟩
theorem Bv(h:nn a λb=>gp w b λc d e=>qT (d:Int) (d:Int) 8/\new w (Obj.cells (Array.mk (ir (Int.toNat (d:Int)) [O 0])) 3) λb c=>H c [O A] 3 λc e=>τ [(6,jG),(7,aP)] λf g=>f (some (Z c)) 1 1 1 e/\∀(_:ν) c e h i j,f c e h i j->bQ (0<(e:Int)) (nn a λk=>gp j k λl m n=>τ [(8,jG),(30,aP)] λk l=>k none 0 0 0 j/\∀(_:ν) n o p q r,k n o p q r->bQ (q<(m:Int)) (τ [(8,jG),(35,aP)] λf g=>f n o p 0 r/\∀(_:ν) h j m s t,f h j m s t->bQ (s<(e:Int)) (M c e s 1 λc=>gX t c λe=>M (some (Z b)) (Int.toNat (d:Int)) q 1 λc=>gX t c λv=>br (v==0) (nn a λa=>gp t a λc x y=>M c x q 1 λa=>jQ t a λc=>iu 168 [u c,O e] t λe c=>br e (M (some (Z b)) (Int.toNat (d:Int)) q 1 λa=>gh c a (O i) λa=>H a [O q] 3 λa b=>iT 24 h j m a b λc d e b=>K (q+1)/\nD k l c d e (q+1) b n o p q r) (K (s+1)/\nD f g h j m (s+1) c h j m s t)) (K (s+1)/\nD f g h j m (s+1) t h j m s t)) (K (q+1)/\nD k l h j m (q+1) t n o p q r)) (K (i+1)/\nD f g n o p (i+1) r c e h i j)) (R (T (some (Z b)) (Int.toNat (d:Int)) (Int.toNat (d:Int))) j)):ρ 88 [.pointer a,O A] w R:=rv func88 h ⟨[(4,[(6,jG),(7,aP)]),(8,[(8,jG),(30,aP)]),(11,[(8,jG),(35,aP)])],[],[],[]⟩
abbrev H_:aM:=91
theorem EF{b:vP}{c:vP}(h:gj w λa d=>gz d b λe f g=>M e f A 1 λb=>gy d b λe=>gy d c λb=>R (J (e==b)) a):ρ 91 [O A,(.pointer (some b)),(.pointer (some c))] w R:=rv func91 h
theorem Bx(h:gT 0 w λc d e f=>bQ (e<(i:Int)) (gj f λg h=>M b i e 1 λj=>gy h j λk=>nn a λa=>gy h (a.add 1) λj=>K (k+j)/\M b i e 1 λa=>gh g a (O (k+j)) λa=>gx c d e a f) (R (T b i j) f)):ρ 92 [.pointer a,T b i j] w R:=rv func92 h ⟨[(2,[(8,aP)])],[],[],[]⟩
theorem EI{b:vP}{c:vP}(h:gj w λa d=>jc d b λe=>nn e λe=>gy d (e.add 1) λf=>bQ (A<f) (R (J true) a) (gz d c λe f g=>jc d b λc=>nn c λb=>gy d (b.add 1) λc=>K (A-c)/\M e f (A-c) 1 λb=>qd d b λc=>R (J !c) a)):ρ 180 [O A,(.pointer (some b)),(.pointer (some c))] w R:=rv func180 h
end
theorem bf.atv{α:Type}[kC α]{w:ga}{xs:List α}{a:E}{l i:Nat}{x:α}{b:vP}(r:bf (hp w) xs a l)(d:a=some b)(c:xs[i]? =some x):w.cell? (b.add i)=some (kC.val x):=by
 obtain⟨e,f,g⟩:=r.at c
 simp_all[sub.refl]
inductive tN (R:Nat->Nat->Prop) (to:Nat):Nat->Nat->Prop
 |one (i:Nat):R i to->tN R to 1 i
 |more (n i k:Nat):R i k->tN R to n k->tN R to (n+1) i
section
variable{R:Nat->Nat->Prop}{N to n i j:Nat}
theorem tN.pos(h:tN R to n i):1<=n:=by cases h<;>omega
theorem tN.trans{b m:Nat}(h:tN R b n i)(k:tN R to m b):tN R to (n+m) i:=by
 induction h with
 |one i h=>rw[Nat.add_comm];exact .more m i b h k
 |more n i a c e d=>rw[show n+1+m=(n+m)+1 from U];exact .more _ i a c d
structure xl(R:Nat->Nat->Prop)(N to:Nat)(far:A0):Prop where
 ln:far.length=N
 z:∀i,i<N->far.getD i 0=0->∀m,¬tN R to m i
 p:∀(i:Nat) d,far[i]? =some d->0<d->tN R to d i/\∀m,tN R to m i->d<=m
structure qw(R:Nat->Nat->Prop)(N to n:Nat)(cur far:A0):Prop where
 one:1<=n
 ln:far.length=N
 z:∀i,i<N->far.getD i 0=0->∀m,m<n->¬tN R to m i
 p:∀(i:Nat) d,far[i]? =some d->0<d->d<n/\tN R to d i/\∀m,tN R to m i->d<=m
 c:∀k,k∈cur↔(n=1/\k=to)\/(1<n/\k<N/\far.getD k 0=n-1)
theorem getD_some{far:A0}(h:i<far.length):far[i]? =some (far.getD i 0):=η
theorem abi:qw R N to 1 [to] (List.replicate N 0):=by
 refine⟨gP _,V,λa c _ d e b=>?_,λa f g h=>?_,λi=>?_⟩
 ·have:=b.pos;omega
 ·grind
 simp
theorem qw.next{p far cur' far':A0}(b:qw R N to n p far)(v:∀a k,R a k->k<N)(w:far'.length=N)(new:Nat->Prop)(i:∀j,j<N->(new j↔far.getD j 0=0/\∃k∈p,R j k))
  (q:∀j,j<N->new j->far'.getD j 0=n) (l:∀j,j<N->¬new j->far'.getD j 0=far.getD j 0) (x:∀k,k∈cur'↔k<N/\new k):qw R N to (n+1) cur' far':=by
 have P:=b.ln
 have y:∀j,j<N->new j->tN R to n j:=λj e f=>by
  obtain⟨_,k,g,c⟩:=(i j e).1 f
  rcases(b.c k).1 g with⟨rfl,rfl⟩|⟨m,o,h⟩
  ·exact .one _ c
  ·obtain⟨_,d,_⟩:=b.p k _ (getD_some U) U;rw[h] at d;have:=tN.more (n-1) j k c d
   grind
 refine⟨U,w,λc d g e Q m=>?_,λc r S z=>?_,λk=>?_⟩
 ·have s:¬new c:=λf=>by have:=q c d f;have:=b.one;omega
  rw[l c d s] at g
  by_cases A:e<n
  ·exact b.z c d g e A m
  ·have:e=n:=U
   subst this;refine s<|(i c d).2 ⟨g,?_⟩;cases m with
   |one _ f=>exact⟨to,(b.c to).2 (.inl ⟨rfl,rfl⟩),f⟩
   |more f _ k h o=>
    have t:=v _ _ h;refine⟨k,(b.c k).2 (.inr ⟨by have:=o.pos;omega,t,?_⟩),h⟩
    by_cases C:far.getD k 0=0
    ·exact absurd o (b.z k t C f U)
    ·obtain⟨X,F,I⟩:=b.p k _ (getD_some U) U;have Y:=I f o;have a0:¬far.getD k 0+1<f+1:=λL=>b.z c d g _ L<|.more _ c k h F;omega
 ·have f:c<N:=G
  have o:far'.getD c 0=r:=η
  by_cases h:new c
  ·rw[q c f h] at o;subst o;refine⟨U,y c f h,λe m=>?_⟩;have:=b.z c f ((i c f).1 h).1 e
   simp_all
  ·rw[l c f h] at o;have:=b.p c r η z
   grind
 ·rw[x]
  constructor
  ·rintro⟨f,h⟩;exact .inr ⟨by have:=b.one;omega,f,G⟩
  ·rintro(⟨f,_⟩|⟨_,h,f⟩)
   ·have:=b.one;omega
   ·refine⟨h,mw λo=>?_⟩;rw[l k h o] at f;have:=b.p k _ (getD_some U) U;omega
theorem qw.done{far:A0}(b:qw R N to n [] far)(f:∀a k,R a k->k<N):xl R N to far:=by
 have o:=b.ln;refine⟨b.ln,λp q r s t=>?_,λc d e g=>(b.p c d e g).2⟩
 have v:∀{d c},tN R to d c->c<N->far.getD c 0≠0:=by
  intro w x g
  induction g with
  |one c d=>
   intro e h
   by_cases i:n=1
   ·have:=(b.c to).2 (.inl ⟨i,rfl⟩);simp_all
   ·exact b.z c e h 1 (by have:=b.one;omega) (.one c d)
  |more y c k d z h=>
   intro i j;have e:=f _ _ d;have A:=h e;obtain⟨C,l,F⟩:=b.p k _ (getD_some U) U;have I:¬far.getD k 0+1<n:=λm=>b.z c i j _ m<|.more _ c k d l;have:=(b.c k).2 (.inr ⟨U,e,U⟩)
   simp_all
 grind
def X8(far:A0):Nat:=(far.filter (·==0)).length
theorem agz{far far':A0}(b:far'.length=far.length)(h:∀j,j<far.length->far'.getD j 0=0->far.getD j 0=0):X8 far'<=X8 far/\(∀j,j<far.length->far.getD j 0=0->far'.getD j 0≠0->X8 far'<X8 far):=by
 induction far generalizing far' with
 |nil=>simp_all
 |cons c far d=>cases far' with
  |nil=>simp_all
  |cons e far'=>
   obtain⟨f,g⟩:=d (by simpa using b) λj a i=>by
    have:=h (j+1) η η
    grind
   have i:e=0->c=0:=λa=>by
    have:=h 0 V η
    grind
   have k:∀(a:Nat) l,X8 (a::l)=(if a=0 then 1 else 0)+X8 l:=λa l=>by grind[X8,Nat.add_comm]
   grind
def tu(R:Nat->Nat->Prop)(i:Nat):Prop:=∃m,tN R i m i
structure Bi(R:Nat->Nat->Prop)(N:Nat)(l:A0):Prop where
 lt:∀x∈l,x<N
 nd:l.Nodup
 st:∀(i:Nat) a b,l[i]? =some a->l[(i+1)%l.length]? =some b->R a b
 on:∀x∈l,tu R x
end
def Hh(T:Nat)(nn:At)(s:Int):Bool:=decide (s<(T:Int))|| !bt nn (s.toNat-T)
def wY(T:Nat)(nn:At)(row:Az):Nat:=(row.filter (Hh T nn)).length
def R3(g:B)(nn:At)(p:aD)(b:Nat):Prop:=wY g.T nn p.right=0\/(wY g.T nn p.right=1/\Hh g.T nn ((g.T+b:Nat):Int)=true)
def R4(g:B)(nn:At)(p:aD)(i a b:Nat):Prop:=p.left=((g.T+a:Nat):Int)/\((g.T+b:Nat):Int)∈p.right.take i/\R3 g nn p b
def EJ(g:B)(nn:At)(p:aD)(a b:Nat):Prop:=p.left=((g.T+a:Nat):Int)/\((g.T+b:Nat):Int)∈p.right/\R3 g nn p b
def px(g:B)(a b:Nat):Prop:=∃nn,tC g nn/\∃p∈g.prods,EJ g nn p a b
theorem adS{g:B}{nn:At}(h:tC g nn){a b:Nat}:px g a b↔∃p∈g.prods,EJ g nn p a b:=
 ⟨λ⟨d,c,hp⟩=>(c.inj h)▸hp,λhp=>⟨nn,h,hp⟩⟩
structure V4(N:Nat)(vs:A5)(Q:Nat->Nat->Prop):Prop where
 ln:vs.length=N
 le:∀v∈vs,v.length=N
 st:∀(a:Nat) v,vs[a]? =some v->∀b,bt v b=true↔Q a b
theorem V4.congr{N:Nat}{vs:A5}{Q c:Nat->Nat->Prop}(h:V4 N vs Q)(d:∀a b,a<N->(Q a b↔c a b)):V4 N vs c:=
 ⟨h.ln,h.le,λa e f b=>(h.st a e f b).trans (d a b (by rw[<-h.ln];grind))⟩
theorem ahM{v:At}{a b:Nat}(h:a<v.length):bt (dw v [(a:Int)]) b=true↔bt v b=true\/b=a:=by
 rw[fl];unfold gE
 grind
theorem V4.add{N:Nat}{vs:A5}{Q:Nat->Nat->Prop}(h:V4 N vs Q){a b:Nat}{v:At}(hv:vs[a]? =some v)(hb:b<N):V4 N (vs.set a (dw v [(b:Int)])) λx y=>Q x y\/(x=a/\y=b):=by
 have J:=h.le v (gg hv)
 refine⟨by rw[ky];exact h.ln,λu hu=>?_,λx u hu y=>?_⟩
 ·rcases List.mem_or_eq_of_mem_set hu with hu|rfl
  ·exact h.le u hu
  simp_all[bF]
 ·rw[q8] at hu
  split at hu
  ·rename_i e;subst e;rw[gD (gJ.1 hv).1] at hu;cases hu;rw[ahM U,h.st _ v hv];simp
  ·rename_i e;rw[h.st x u hu]
   grind
theorem KW(a:Nat)(nn:At)(row:Az)(s:Int):wY a nn (row++[s])=wY a nn row+(if Hh a nn s then 1 else 0):=by grind[wY,List.length_append,Hh]
theorem R5(a:Nat)(nn:At)(row:Az):wY a nn row<=row.length:=mr _ _
theorem adT{N:Nat}(h:N<=65):(Aa (N:Int) []).length=N/\∀k,bt (Aa (N:Int) []) k=false:=by
 have e:Mv (N:Int)=N:=by
  unfold Mv;omega
 refine⟨by rw[NL,e],λk=>?_⟩;simp[Aa,fl,gE,j7]
section
variable{w:ga}{L:List aG}{g:B}{x:GA}
theorem adU{a d b e n c l:Nat}{nn:At}{o f:E}{c2:Nat}{s:Int}(F:aj (hp w) ⟨e,0,none⟩ [.pointer (some ⟨b,0,none⟩)])(I:aj (hp w) ⟨b,0,none⟩ [T f l c2,O (a:Int)])(L:aj (hp w) ⟨d,0,none⟩ [T o n c])(g:bf (hp w) nn o n)(N:0<=s/\s<(a:Int)+n)(P:a<=65)(Q:n<=65):
  ρ 180 [O s,.pointer (some ⟨e,0,none⟩),.pointer (some ⟨d,0,none⟩)] w λq r=>q=J (Hh a nn s)/\hp r=hp w:=by
 refine EI λR t=>?_;have h:=fM t;have S:=g.1;have k:∀m,hp m=hp w->aj (hp m) ⟨e,0,none⟩ [.pointer (some ⟨b,0,none⟩)]:=λm p=>η
 have m:∀p,hp p=hp w->aj (hp p) ⟨b,0,none⟩ [T f l c2,O (a:Int)]:=λp v=>η
 have v:∀p,hp p=hp w->aj (hp p) ⟨d,0,none⟩ [T o n c]:=λp x=>η
 refine⟨λp=>hp p=hp w,h,some ⟨b,0,none⟩,λp x=>(k p x).cell0 sZ,(a:Int),λp x=>(m p x).cell sZ (j:=1) rfl,ae (λp=>?_) λp=>?_⟩
 ·simp_all[gZ,Hh]
 have X:¬s<(a:Int):=hY p;have x:s-(a:Int)=((s.toNat-a:Nat):Int):=U
 obtain⟨Y,a0,a1,y,z⟩:=g.dy (i:=s.toNat-a) U;refine⟨_,_,_,λA C=>(v A C).cell0 sZ,some ⟨b,0,none⟩,λA C=>(k A C).cell0 sZ,(a:Int),λA C=>(m A C).cell sZ (j:=1) rfl,ξ,?_⟩;rw[x];refine au y U ⟨_,λA C=>z A<|Gr.of_eq C,?_,h⟩
 grind[Hh,Ab,kC.val]
theorem agA(v:gR (hp w) g x)(a3:jq g)(bN:ec (hp w)):ρ 86 [.agg ⟨x.cells⟩] w λa4 ap=>
  (¬aw g/\a4=.tuple #[u none,O 1]/\Gr w ap)\/
  (aw g/\∃(b:Nat)(o:E)(c:Nat)(ps:A0)(vs:A5),a4=.tuple #[.pointer (some ⟨b,0,none⟩),O 0]/\V4 g.N vs (px g)/\ps.length=g.N/\
   W ap (ax b [T o g.N c,O (g.T:Int)]::own 1 o g.N c (pv (ps.map bk))::aT (dg ps vs)::all w)):=by
 refine KU ?_;refine dZ v λbO av bP v y=>?_;have bT:g.T=x.tl:=v.t.1;have c0:g.N=x.nl:=v.n.1;have d1:=v.p.1;have a5:sub (hp w) (hp av):=bP;refine⟨_,_,_,_,_,_,_,_,_,_,_,_,_,y.row sZ,(uy (x:=x) v a3).mono ?_⟩;rintro _ d2⟨⟨d3,rfl,c1⟩,R⟩
 refine⟨_,rfl,ae (λc2=>?_) λc2=>?_⟩
 ·exact .inl ⟨λd=>η,rfl,sub.trans a5 R⟩
 have az:aw g:=c1.1 η;have c3:bL g:=.inr az;obtain⟨c4,c5,aB,d4,d5,d6⟩:=EP c3;refine⟨_,_,_,_,_,_,_,_,_,_,_,_,_,y.row R,(Re (x:=x) (v.mono R) a3<|dX.mono (sub.trans a5 R) bN).mono ?_⟩;rintro _ a6⟨aK,d7,aR,d8,rfl,c6,c7⟩
 rcases c7 with⟨a7,_⟩|⟨_,rfl,rfl,nn,aS,c8⟩
 ·simp_all
 refine⟨_,_,_,_,rfl,ag (W.all a6) λa8 d9 a9=>aX a9 V λz a9=>?_⟩;have aa:W z [ax a8 [T aK g.N aR],has<|hp a6]:=a9;have c9:aj (hp z) ⟨a8,0,none⟩ [T aK g.N aR]:=af 0 aa.l;have aV:sub (hp a6) (hp z):=aE 1 aa.l;have ca:=c8.mono aV;have C:sub (hp av) (hp z):=sub.trans R<|sub.trans c6 aV;have cb:sub (hp w) (hp z):=sub.trans a5 C;have cc:=v.mono C;have X:GB (hp z) bO x:=⟨λd=>y.c0<|sub.trans C d,λd=>y.c1<|sub.trans C d,λd=>y.c2<|sub.trans C d,λd=>y.c3<|sub.trans C d,λd=>y.c4<|sub.trans C d,λd=>y.row<|sub.trans C d⟩;clear aa;have t:=W.all z;unfold Proofs.YtaoaemnefghnbaaGreatDoor.all at t;generalize dc:hp z=h at*;have df:=aS.1;refine ae (λd=>G) λ_=>⟨_,_,_,X.c0<|aE 0 t.l,ag t λe dk t=>ag t λf dl t=>aX t V λab t=>?_⟩;have b0:W ab [ax f [.pointer (some ⟨e,0,none⟩)],ax e [D,O (x.tl:Int)],has h]:=t;rw[<-bT] at b0;have cd:=(aH 1 b0);have ac:W ab (aT (dg []<|List.replicate 0<|Aa (g.N:Int) [])::_):=W.flat.2 (show W ab ([]++_) from cd);refine⟨_,_,_,X.c1<|aE 4 ac.l,?_⟩;refine⟨λd k=>∃(j:Nat)(o:E)(c:Nat)(ps:A0),d=j/\j<=g.N/\ps.length=j/\W k [aT (dg ps<|List.replicate j<|Aa (g.N:Int) []),own 1 o j c<|pv<|ps.map bk,ax f [.pointer (some ⟨e,0,none⟩)],ax e [T o j c,O (g.T:Int)],has h],λd _=>g.N-d.toNat,⟨0,none,0,[],rfl,gu _,rfl,ac⟩,?_⟩;clear ac;rintro _ dn ds⟨j,o,c,ps,rfl,ce,b1,S⟩
 refine ae (λcg=>?_) λcg=>?_
 ·have r:j<g.N:=η
  intro Y s;have n:=S.drawn s;have p:∀{w:ga},aj (hp w) ⟨f,0,none⟩ [.pointer (some ⟨e,0,none⟩)]->aj (hp w) ⟨e,0,none⟩ [T o j c,O (g.T:Int)]->sub h (hp w)->aj (hp w) ⟨f,0,none⟩ [.pointer (some ⟨e,0,none⟩)]/\aj (hp w) ⟨e,0,none⟩ [T o j c,O (g.T:Int)]/\sub h (hp w):=λa b c=>⟨a,b,c⟩;refine⟨λw=>aj (hp w) ⟨f,0,none⟩ [.pointer (some ⟨e,0,none⟩)]/\aj (hp w) ⟨e,0,none⟩ [T o j c,O (g.T:Int)]/\sub h (hp w),p (af 2 n.l) (af 3 n.l)<|aE 4 n.l,some ⟨e,0,none⟩,λw d=>d.1.cell0 sZ,some ⟨e,0,none⟩,λw d=>d.1.cell0 sZ,_,_,_,λw d=>d.2.1.cell0 sZ,_,_,_,λw d=>X.c1 d.2.2,?_⟩;rw[<-c0];refine(WE (xs:=[]) (l:=0) (a:=none) (g.N:Int) bf.nil U).mono ?_;rintro _ a0⟨k,rfl,F⟩;have d:=F.fy n;refine⟨_,rfl,p (af 3 d.l) (af 4 d.l)<|aE 5 d.l,ag d λa1 a2 d=>⟨p (af 4 d.l) (af 5 d.l)<|aE 6 d.l,?_⟩⟩;refine(aU aY (rfl:ai Ty _=.slice _) (rfl:ai Ty _=.slice _) rfl rfl rfl (d.pick 7 [0,3,1,2,4,5,6]) rfl (by simp[aO]) G U).mono ?_;rintro _ ad⟨I,L,rfl,m⟩;refine⟨_,_,_,rfl,p (af 4 m.l) (af 5 m.l)<|aE 6 m.l,?_⟩;refine aX (m.pick 7 [5,0,2,3,4,6]) V λal m=>?_;have q:=W.snoc (A:=cZ (bk k)<|Aa (g.N:Int) []) (M:=dg ps<|List.replicate j<|Aa (g.N:Int) [])<|m.pick 6 [2,3,0,1,4,5];have P:dg ps (List.replicate j<|Aa (g.N:Int) [])++[cZ (bk k) (Aa (g.N:Int) [])]=dg (ps++[k]) (List.replicate (j+1)<|Aa (g.N:Int) []):=by simp_all[dg,pE,List.zipWith_append]
  have Q:pv (ps.map bk)++[Value.pointer (bk k)]=pv ((ps++[k]).map bk):=by simp[pv]
  rw[P] at q;refine⟨ξ,⟨j+1,I,L,ps++[k],V,U,η,?_⟩,bS r⟩;rw[<-Q];exact q.pick 5 [0,2,3,1,4]
 have Y:j=g.N:=G
 rw[Y] at S b1;clear ce Y
 have b2:V4 g.N (List.replicate g.N<|Aa (g.N:Int) []) λa b=>∃d∈g.prods.take 0,EJ g nn d a b:=by
  obtain⟨d,k⟩:=adT aB;refine⟨V,λm n=>η,λa a4 m b=>?_⟩
  grind
 refine⟨_,_,_,X.c4<|aE 4 S.l,?_⟩;refine⟨λd k=>∃(j:Nat)(vs:A5),d=j/\j<=g.prods.length/\V4 g.N vs (λa b=>∃m∈g.prods.take j,EJ g nn m a b)/\W k [aT (dg ps vs),own 1 o g.N c<|pv<|ps.map bk,ax f [.pointer (some ⟨e,0,none⟩)],ax e [T o g.N c,O (g.T:Int)],has h],λd _=>g.prods.length-d.toNat,⟨0,_,rfl,gu _,b2,S⟩,?_⟩;clear S b2;rintro _ dv dx⟨j,vs,rfl,dy,ad,F⟩;refine ae (λY=>?_) λY=>?_
 rotate_left
 ·have d:j=g.prods.length:=G
  subst d;rw[jl] at ad;refine⟨_,(af 2 F.l).cell0 sZ,.inr ⟨az,e,o,c,ps,vs,rfl,ad.congr λa b _=>(adS aS).symm,b1,?_⟩⟩;exact W.on (N:=[_,_,_]) (F.pick 5 [3,1,0,4]) (bM cb)
 have ch:j<g.prods.length:=η
 obtain⟨d,dA,dC,ci,ck,cl,n,I,p,rfl,dF,al⟩:=cc.p.get (i:=j) U;have b3:=gg ci;obtain⟨dG,b4⟩:=c4 d b3;have dW:=al.1;have e0:=a3.2.2.2.2.2.2 d b3;have e1:g.prods.take (j+1)=g.prods.take j++[d]:=by simp_all[iw]
 refine aI ck U ⟨_,_,_,_,_,cl.at (aE 4 F.l) rfl,ag F λq e2 F=>aQ F rfl (by simp[aO]) λcm F=>?_⟩;have am:W cm [ax q [O d.left,T n I p,O d.level],aT<|dg ps vs,own 1 o g.N c<|pv<|ps.map bk,ax f [.pointer (some ⟨e,0,none⟩)],ax e [T o g.N c,O (g.T:Int)],has h]:=F;refine⟨_,_,_,(af 0 am.l).cell sZ (j:=1) rfl,?_⟩
 have b5:∀{m:ga}{s:A5}{r:Int},r∈d.right->W m [ax q [O d.left,T n I p,O d.level],aT<|dg ps s,own 1 o g.N c<|pv<|ps.map bk,ax f [.pointer (some ⟨e,0,none⟩)],ax e [T o g.N c,O (g.T:Int)],has h]->ρ 180 [O r,.pointer<|some ⟨f,0,none⟩,.pointer<|some ⟨a8,0,none⟩] m λL P=>L=J (Hh g.T nn r)/\hp P=hp m:=λ{a1 a2 Q} a0 k=>
  adU (af 3 k.l) (af 4 k.l) (c9.mono<|aE 5 k.l) (ca.mono<|aE 5 k.l) (b4 Q a0) c5 aB
 refine⟨λk m r=>∃i:Nat,k=(wY g.T nn (d.right.take i):Int)/\m=i/\i<=I/\W r [ax q [O d.left,T n I p,O d.level],aT<|dg ps vs,own 1 o g.N c<|pv<|ps.map bk,ax f [.pointer (some ⟨e,0,none⟩)],ax e [T o g.N c,O (g.T:Int)],has h],λ_ k _=>I-k.toNat,⟨0,by rfl,rfl,gu _,am⟩,?_⟩;clear am;rintro _ e3 e4 e5⟨i,rfl,rfl,e6,P⟩
 refine ae (λcn=>?_) λcn=>?_
 ·have k:i<I:=η
  obtain⟨r,ao,s,L,Q⟩:=al.dy k;have a0:=gg s;have b6:d.right.take (i+1)=d.right.take i++[r]:=by simp_all[iw]
  have a1:=R5 g.T nn<|d.right.take i;rw[k5] at a1;refine au L k ⟨_,Q _<|aE 5 P.l,(b5 a0 P).mono ?_⟩;rintro _ b7⟨rfl,a2⟩;have m:=P.eq a2
  refine⟨_,rfl,ae (λan=>?_) λan=>?_⟩
  ·exact⟨ξ,ξ,⟨i+1,by simp_all[KW],V,U,m⟩,bS k⟩
  ·exact⟨ξ,⟨i+1,by simp_all[KW],V,U,m⟩,bS k⟩
 have co:i=I:=G
 subst co;rw[jy U];have e7:=R5 g.T nn d.right;refine⟨_,_,_,(af 0 P.l).cell sZ (j:=1) rfl,?_⟩;obtain⟨a,e8⟩:∃a:Nat,d.left=((g.T+a:Nat):Int):=⟨d.left.toNat-g.T,U⟩;have cp:a<g.N:=U
 obtain⟨a0,cq⟩:∃k,ps[a]? =some k:=⟨ps[a]'U,gn _⟩;have b6:V4 g.N vs (λa b=>(∃k∈g.prods.take j,EJ g nn k a b)\/R4 g nn d 0 a b):=ad.congr λa b _=>by simp[R4]
 refine⟨λm r=>∃(k:Nat)(vs:A5),m=k/\k<=i/\V4 g.N vs (λa b=>(∃s∈g.prods.take j,EJ g nn s a b)\/R4 g nn d k a b)/\W r [ax q [O d.left,T n i p,O d.level],aT<|dg ps vs,own 1 o g.N c<|pv<|ps.map bk,ax f [.pointer (some ⟨e,0,none⟩)],ax e [T o g.N c,O (g.T:Int)],has h],λk _=>i-k.toNat,⟨0,vs,rfl,gu _,b6,P⟩,?_⟩;clear P b6;rintro _ e9 ea⟨r,L,rfl,eb,a1,s⟩;refine ae (λcs=>?_) λcs=>?_
 rotate_left
 ·have k:r=i:=G
  subst k;refine⟨ξ,⟨j+1,L,V,U,a1.congr λa b _=>?_,s.pick 6 [1,2,3,4,5]⟩,bS ch⟩
  simp_all[R4,EJ,jy]
 have an:r<i:=η
 obtain⟨k,ed,ct,cu,cv⟩:=al.dy an;have b7:=gg ct;have ef:=b4 k b7;have b9:d.right.take (r+1)=d.right.take r++[k]:=by simp_all[iw]
 have ba:∀{Q:ga}{a2:A5},V4 g.N a2 (λa b=>(∃m∈g.prods.take j,EJ g nn m a b)\/R4 g nn d (r+1) a b)->W Q [ax q [O d.left,T n i p,O d.level],aT<|dg ps a2,own 1 o g.N c<|pv<|ps.map bk,ax f [.pointer (some ⟨e,0,none⟩)],ax e [T o g.N c,O (g.T:Int)],has h]->
   K ((r:Int)+1)/\(∃(m:Nat)(vs:A5),(r:Int)+1=m/\m<=i/\V4 g.N vs (λa b=>(∃ao∈g.prods.take j,EJ g nn ao a b)\/R4 g nn d m a b)/\W Q [ax q [O d.left,T n i p,O d.level],aT<|dg ps vs,own 1 o g.N c<|pv<|ps.map bk,ax f [.pointer (some ⟨e,0,none⟩)],ax e [T o g.N c,O (g.T:Int)],has h])/\i-((r:Int)+1).toNat<i-(r:Int).toNat:=
  λ{ao m} Q a2=>⟨ξ,⟨r+1,m,V,U,Q,a2⟩,bS an⟩
 refine au cu an ⟨_,cv _<|aE 5 s.l,?_⟩;obtain⟨bb,a2⟩:∃m:Prop,m=((g.T:Int)<=k/\R3 g nn d (k.toNat-g.T)):=⟨_,rfl⟩
 refine⟨λb m=>(b=true↔bb)/\W m [ax q [O d.left,T n i p,O d.level],aT<|dg ps L,own 1 o g.N c<|pv<|ps.map bk,ax f [.pointer (some ⟨e,0,none⟩)],ax e [T o g.N c,O (g.T:Int)],has h],?_,?_⟩
 ·refine⟨some ⟨e,0,none⟩,(af 3 s.l).cell0 sZ,(g.T:Int),(af 4 s.l).cell sZ (j:=1) rfl,ae (λa7=>?_) λa7=>⟨?_,s⟩⟩
  rotate_left
  ·grind
  have m:(g.T:Int)<=k:=gZ a7;have bl:((g.T+(k.toNat-g.T):Nat):Int)=k:=U
  refine ae (λQ=>⟨?_,s⟩) λQ=>ae (λao=>(b5 b7 s).mono ?_) λao=>⟨?_,s⟩
  ·have bc:wY g.T nn d.right=0:=G
   rw[a2];exact⟨λ_=>⟨m,.inl bc⟩,λ_=>rfl⟩
  ·rintro _ bd⟨rfl,bc⟩;have be:wY g.T nn d.right≠0:=λbi=>G
   have bi:wY g.T nn d.right=1:=G
   refine⟨_,rfl,?_,s.eq bc⟩
   grind[R3,absurd]
  ·have bc:wY g.T nn d.right≠0:=λbd=>G
   have bd:wY g.T nn d.right≠1:=λbe=>G
   rw[a2];exact⟨λbe=>G,λbe=>be.2.elim (λbi=>absurd bi bc) λbi=>absurd bi.1 bd⟩
 clear s;rintro _ eg ei⟨cx,bc⟩;refine ae (λbd=>?_) λbd=>?_
 rotate_left
 ·refine ba (a1.congr λao b _=>or_congr_right ?_) bc;unfold R4;rw[b9];refine and_congr_right λ_=>⟨λm=>⟨List.mem_append_left _ m.1,m.2⟩,λQ=>⟨?_,Q.2⟩⟩
  rcases iU.1 Q.1 with m|m
  ·omega
  ·rw[jA] at m;have:bb:=by rw[a2];exact⟨U,by rw[<-m];rw[show((g.T+b:Nat):Int).toNat-g.T=b from U];grind⟩
   simp_all
 have bQ:(g.T:Int)<=k/\R3 g nn d (k.toNat-g.T):=a2▸cx.1 bd;obtain⟨Q,cy⟩:∃m,m=k.toNat-g.T:=⟨_,rfl⟩;have cz:k=((g.T+Q:Nat):Int):=U
 have cA:Q<g.N:=U
 rw[<-cy] at bQ;intro ej cB;have m:=bc.drawn cB;have be:∀{w:ga},aj (hp w) ⟨q,0,none⟩ [O d.left,T n i p,O d.level]->aj (hp w) ⟨f,0,none⟩ [.pointer (some ⟨e,0,none⟩)]->aj (hp w) ⟨e,0,none⟩ [T o g.N c,O (g.T:Int)]->bf (hp w) (ps.map bk) o g.N->aj (hp w) ⟨q,0,none⟩ [O d.left,T n i p,O d.level]/\aj (hp w) ⟨f,0,none⟩ [.pointer (some ⟨e,0,none⟩)]/\aj (hp w) ⟨e,0,none⟩ [T o g.N c,O (g.T:Int)]/\bf (hp w) (ps.map bk) o g.N:=λa b c ao=>⟨a,b,c,ao⟩;have bi:(ps.map bk).length=g.N:=G
 have bl:(ps.map bk)[a]? =some (bk a0):=G
 have bo:=be (af 0 m.l) (af 3 m.l) (af 4 m.l)<|WG 2 m.l rfl rfl bi;obtain⟨ek,bs,_⟩:=bo.2.2.2.at bl;have cC:d.left-(g.T:Int)=(a:Int):=U
 have cF:k-(g.T:Int)=(Q:Int):=U
 obtain⟨ao,cI⟩:∃bu,L[a]? =some bu:=⟨L[a]'(by rw[a1.ln];omega),gn _⟩;refine⟨λw=>aj (hp w) ⟨q,0,none⟩ [O d.left,T n i p,O d.level]/\aj (hp w) ⟨f,0,none⟩ [.pointer (some ⟨e,0,none⟩)]/\aj (hp w) ⟨e,0,none⟩ [T o g.N c,O (g.T:Int)]/\bf (hp w) (ps.map bk) o g.N,bo,some ⟨e,0,none⟩,λw bu=>bu.2.1.cell0 sZ,_,_,_,λw bu=>bu.2.2.1.cell0 sZ,d.left,λw bu=>bu.1.cell0 sZ,some ⟨e,0,none⟩,λw bu=>bu.2.1.cell0 sZ,(g.T:Int),λw bu=>bu.2.2.1.cell sZ (j:=1) rfl,ξ,?_⟩;rw[cC];refine au bs cp ⟨bk a0,λw bu=>bu.2.2.2.atv bs bl,some ⟨e,0,none⟩,λw bu=>bu.2.1.cell0 sZ,(g.T:Int),λw bu=>bu.2.2.1.cell sZ (j:=1) rfl,ξ,?_⟩;rw[cF];have bu:(dg ps L)[a]? =some (cZ (bk a0) ao):=by unfold dg;grind
 refine ag m λel em m=>⟨be (af 1 m.l) (af 4 m.l) (af 5 m.l)<|WG 3 m.l rfl rfl bi,?_⟩;refine(BB (xs:=[(Q:Int)]) (l:=1) (W.out (m.pick 7 [2,0,1,3,4,5,6]) bu) (λbE bz=>bA rfl (.inr ⟨_,rfl,af 1 bz⟩)) U).mono ?_;rintro _ en⟨rfl,cR⟩;have bz:=W.back cR bu;have cT:(dg ps L).set a (cZ (bk a0)<|dw ao [(Q:Int)])=dg ps (L.set a<|dw ao [(Q:Int)]):=NQ (λbE d0=>cZ (bk bE) d0) cq;rw[cT] at bz;refine⟨_,rfl,ba ((a1.add cI cA).congr λeo b _=>?_)<|bz.pick 7 [2,0,3,4,5,6]⟩;rw[or_assoc];refine or_congr_right ?_;unfold R4;rw[b9]
 constructor
 ·rintro(bE|⟨rfl,rfl⟩)
  ·grind
  grind
 ·rintro⟨ep,d0,er⟩
  rcases iU.1 d0 with bE|bE
  ·grind
  ·rw[jA,cz] at bE;omega
end
structure XA(h:Hp)(b a N:Nat)(os:List (E))(vs:A5):Prop where
 row:∃o c,aj h ⟨b,0,none⟩ [T o N c,O (a:Int)]/\bf h os o N
 lv:vs.length=N
 set:∀(i:Nat) o v,os[i]? =some o->vs[i]? =some v->fm h o v
theorem XA.mono{h h':Hp}{b a N:Nat}{os:List (E)}{vs:A5}(s:sub h h')(r:XA h b a N os vs):XA h' b a N os vs:=by
 obtain⟨⟨c,d,e,f⟩,g,i⟩:=r;exact⟨⟨c,d,e.mono s,f.mono s⟩,g,λj k l m n=>(i j k l m n).mono s⟩
theorem agB{w:ga}{L:List aG}{b d N c:Nat}{o:E}{ps:A0}{vs:A5}(h:W w (ax b [T o N c,O (d:Int)]::own 1 o N c (pv (ps.map bk))::aT (dg ps vs)::L))(m:ps.length=N)(e:vs.length=N):XA (hp w) b d N (ps.map bk) vs:=by
 refine⟨⟨o,c,af 0 h.l,WG 1 h.l rfl rfl η⟩,e,λi o f a n=>?_⟩;rw[iE] at a;cases g:ps[i]? with
 |none=>simp_all
 |some j=>
  rw[g] at a;cases a;obtain⟨p,k,l⟩:=NP (h.pick 3 [2]) (A:=cZ (bk j) f)<|gg (i:=i) (by simp_all[dg,lE]);exact(Fk l).mono k
def k7(vs:A5)(a b:Nat):Prop:=bt (vs.getD a []) b=true
def Pj(l:A0):Az:=l.map λ(k:Nat)=>(k:Int)
theorem R6{l:A0}{i k:Nat}(h:l[i]? =some k):(Pj l)[i]? =some (k:Int):=by simp_all[Pj]
theorem R7(l:A0):(Pj l).length=l.length:=by simp[Pj]
theorem adV(l:A0):iv (Pj l)=eh l:=by rw[YR];rfl
theorem adW(l:A0)(i k:Nat):(eh l).set i (O (k:Int))=eh (l.set i k):=by simp[eh]
theorem adX(n:Nat):List.replicate n (O 0)=eh (List.replicate n 0):=by simp[eh]
structure qz(N n:Nat)(new:Nat->Bool)(far0:A0)(i:Nat)(far:A0):Prop where
 ln:far.length=N
 at_:∀j,j<N->far.getD j 0=if j<i/\new j=true then n else far0.getD j 0
theorem qz.skip{N n i:Nat}{new:Nat->Bool}{a far:A0}(h:qz N n new a i far)(d:new i=false):qz N n new a (i+1) far:=
 ⟨h.ln,λb c=>by
  rw[h.at_ b c]
  grind⟩
theorem qz.hit{N n i:Nat}{new:Nat->Bool}{a far:A0}(h:qz N n new a i far)(hi:i<N)(e:new i=true):qz N n new a (i+1) (far.set i n):=by
 have f:=h.ln;refine⟨η,λb c=>?_⟩;rw[jX,q8]
 by_cases d:i=b
 ·simp_all
 ·rw[gv d,<-jX,h.at_ b c]
  grind
section
variable{w:ga}{L:List aG}{b r N to:Nat}{os:List (E)}{vs:A5}
theorem V5(hw:XA (hp w) b r N os vs)(hN:N<=65)(hR:∀a k,k7 vs a k->k<N)(hto:to<N):ρ 88 [.pointer (some ⟨b,0,none⟩),O (to:Int)] w λv w'=>∃(k:Nat)(far:A0),v=T (some ⟨k,0,none⟩) N N/\xl (k7 vs) N to far/\(∀i,far.getD i 0<=N+2)/\W w' (ax k (eh far)::all w):=by
 refine Bv ?_;obtain⟨⟨o,c,r1,r2⟩,r3,r4⟩:=hw;have be:=r2.1;refine⟨_,_,_,r1.cell0 sZ,⟨U,rfl,U⟩,?_⟩;rw[je,de,adX];refine ag (W.all w) λk3 w1 h=>ag h λk4 w2 h=>?_;have h:W w2 (ax k4 (eh [to])::ax k3 (eh<|List.replicate N 0)::all w):=h;have h:W w2 (own 1 (some ⟨k4,0,none⟩) 1 1 (eh [to])::_):=bq (cs:=[]) (by simpa using h) rfl rfl (gP _);obtain⟨Q,hQ⟩:=su (λ(o:E)(l c:Nat)(z:Int)(w':ga)(m:Nat)=>∃(n:Nat)(u far:A0),z=n/\l=u.length/\u.length<=N+1/\qw (k7 vs) N to n u far/\m=X8 far+(if u=[] then 0 else 1)/\X8 far+n<=N+1+(if u=[] then 1 else 0)/\(∀k∈u,k<N)/\W w' [own 1 o l c (eh u),ax k3<|eh far,has<|hp w]);obtain⟨μ,aR,aa⟩:=zv (λ(y:E×Nat×Nat×Int×ga) m=>Q y.1 y.2.1 y.2.2.1 y.2.2.2.1 y.2.2.2.2 m);have bz:X8 (List.replicate N 0)=N:=by simp[X8]
 refine⟨λo l c z w'=>∃m,Q o l c z w' m,λo l c z w=>μ (o,l,c,z,w),⟨N+1,?_⟩,?_⟩
 ·rw[hQ];exact⟨1,[to],_,rfl,rfl,V,abi,G,U,G,h⟩
 clear h;intro _ Z l2 c2 z2 w3 hP;have hP:=aa (Z,l2,c2,z2,w3) hP;dsimp only at hP;generalize hμ:μ (Z,l2,c2,z2,w3)=μ0 at*;rw[hQ] at hP;obtain⟨n,u,far,rfl,rfl,bQ,hB,hm,a6,b3,h⟩:=hP;refine ae (λav=>?_) λav=>?_
 rotate_left
 ·have X:u=[]:=j2 G;subst X;refine⟨k3,far,rfl,hB.done hR,λi=>?_,W.fy (A:=ax k3<|eh far) (h.pick 3 [1,2])<|bM sZ⟩;rw[gD rfl] at a6
  by_cases hi:i<far.length
  ·by_cases h0:far.getD i 0=0
   ·omega
   ·have:=(hB.p i _ (getD_some hi) U).1;omega
  grind
 have X:u≠[]:=λe=>G
 rw[gv X] at hm a6;have a5:=hB.ln;obtain⟨new,b1⟩:∃new:Nat->Bool,new=λi=>decide (far.getD i 0=0)&&u.any λk=>bt (vs.getD i []) k:=⟨_,rfl⟩;have rW:∀{w':ga},sub (hp w) (hp w')->aj (hp w') ⟨b,0,none⟩ [T o N c,O (r:Int)]:=λs=>r1.mono s;refine⟨_,_,_,(rW<|aE 2 h.l).cell0 sZ,?_⟩;refine⟨λo4 l4 c4 z w'=>∃(i:Nat)(far' dt:A0),z=i/\i<=N/\dt=(List.range i).filter new/\l4=dt.length/\qz N n new far i far'/\W w' [own 1 Z u.length c2 (eh u),own 1 o4 l4 c4<|eh dt,ax k3<|eh far',has<|hp w],λ_ _ _ z _=>N-z.toNat,⟨0,far,[],rfl,gu _,rfl,rfl,⟨a5,λj _=>V⟩,(aH 1 h).swap⟩,?_⟩;clear h;rintro _ o4 l4 c4 z w4⟨i,far',dt,rfl,hi,bi,rfl,p,h⟩;have bT:dt.length<=i:=G
 refine ae (λJ=>?_) λJ=>?_
 rotate_left
 ·have J:i=N:=G
  have h4:=h;subst J;have Y:∀j,new j=true↔far.getD j 0=0/\∃k∈u,k7 vs j k:=λj=>by grind[k7]
  have aV:=hB.next hR p.ln (λj=>new j=true) (λj _=>Y j) (λj hj hn=>by rw[p.at_ j hj,gD ⟨hj,hn⟩]) (λj hj hn=>by rw[p.at_ j hj,gv (λh=>hn h.2)]) (cur':=dt) (λk=>G)
  obtain⟨z1,z2⟩:=agz (far:=far) (far':=far') (by rw[p.ln,a5]) λj hj h0=>by
   rw[p.at_ j U] at h0
   grind
  have key:Q o4 dt.length c4 (((n+1:Nat):Int)) w4 (X8 far'+(if dt=[] then 0 else 1)):=by
   rw[hQ];refine⟨n+1,dt,far',rfl,rfl,U,aV,rfl,?_,λk hk=>G,h4.pick 4 [1,2,3]⟩
   by_cases e:dt=[]
   ·grind
   ·rw[gv e];obtain⟨k,hk⟩:=oZ _ e;have f:k<i/\new k=true:=G
    have:=z2 k U ((Y k).1 f.2).1 (by rw[p.at_ k f.1,gD f];have:=hB.one;omega);omega
  have e1:(n:Int)+1=((n+1:Nat):Int):=V
  rw[e1];refine⟨ξ,⟨_,key⟩,?_⟩;have:=aR (o4,dt.length,c4,((n+1:Nat):Int),w4) _ key;dsimp only at this ⊢;rw[hμ];refine Nat.lt_of_le_of_lt this ?_;rw[hm]
  by_cases e:dt=[]
  ·grind
  ·rw[gv e];obtain⟨k,hk⟩:=oZ _ e;have f:k<i/\new k=true:=G
   have:=z2 k U ((Y k).1 f.2).1 (by rw[p.at_ k f.1,gD f];have:=hB.one;omega);omega
 have J:i<N:=G
 have er:List.range (i+1)=List.range i++[i]:=k8;have b5:=p.ln;have bl:far'.getD i 0=far.getD i 0:=by rw[p.at_ i J,gv U]
 obtain⟨v,hv⟩:∃v,vs[i]? =some v:=⟨vs[i]'U,gn _⟩;obtain⟨oi,g⟩:∃oi,os[i]? =some oi:=⟨os[i]'U,gn _⟩;have bP:vs.getD i []=v:=G
 refine⟨λo5 l5 c5 z w'=>∃m:Nat,z=m/\m<=u.length/\l5=dt.length/\(far.getD i 0=0->∀k∈u.take m,bt v k=false)/\W w' [own 1 Z u.length c2 (eh u),own 1 o5 l5 c5<|eh dt,ax k3<|eh far',has<|hp w],λ_ _ _ z _=>u.length-z.toNat,⟨0,rfl,gu _,rfl,λ_ k hk=>G,h⟩,?_⟩;clear h;rintro _ o5 l5 c5 z w5⟨m,rfl,bb,rfl,ad,h⟩;refine ae (λd=>?_) λd=>?_
 rotate_left
 ·have d:m=u.length:=G
  subst d;rw[jl] at ad;have aK:new i=false:=G
  exact⟨ξ,⟨i+1,far',dt,V,U,G,rfl,p.skip aK,h⟩,bS J⟩
 have d:m<u.length:=G
 obtain⟨k,hk⟩:∃k,u[m]? =some k:=⟨u[m],gn d⟩;have b2:=gg hk
 have nx:(far.getD i 0=0->bt v k=false)->W w5 [own 1 Z u.length c2 (eh u),own 1 o5 dt.length c5<|eh dt,ax k3<|eh far',has<|hp w]->
   K ((m:Int)+1)/\(∃m':Nat,(m:Int)+1=m'/\m'<=u.length/\dt.length=dt.length/\(far.getD i 0=0->∀k∈u.take m',bt v k=false)/\W w5 [own 1 Z u.length c2 (eh u),own 1 o5 dt.length c5<|eh dt,ax k3<|eh far',has<|hp w])/\u.length-((m:Int)+1).toNat<u.length-(m:Int).toNat:=λhh h'=>by
  refine⟨ξ,⟨m+1,V,U,rfl,λh0 y hy=>?_,h'⟩,bS d⟩
  grind[List.take_add_one]
 obtain⟨b6,a8,a9⟩:=cV h (j:=m) (v:=O (k:Int))<|se hk;refine au a8 d ⟨_,a9,au rfl J ⟨((far.getD i 0:Nat):Int),(af 2 h.l).cell sZ (j:=i) (by grind[se,getD_some]),ae (λh0=>?_) λh0=>nx (λe=>G) h⟩⟩;have h0:far.getD i 0=0:=G
 have a7:bf (hp w5) os o N:=r2.mono<|aE 3 h.l;obtain⟨b4,a4,_⟩:=a7.at g;refine⟨_,_,_,(rW<|aE 3 h.l).cell0 sZ,au a4 J ⟨oi,a7.atv a4 g,(My ((r4 i oi v g hv).mono (aE 3 h.l)) (k:Int)).mono ?_⟩⟩;rintro _ w6⟨rfl,rfl⟩;have am:kZ v (k:Int)=bt v k:=by rfl
 refine⟨_,rfl,ae (λa0=>?_) λa0=>nx (λ_=>G) h⟩;rw[am] at a0;have az:new i=true:=G
 refine au rfl J ?_;rw[ak];refine aX (h.pick 4 [2,0,1,3]) (by grind[eh]) λw7 h=>ag h λb7 w8 h=>?_;rw[adW] at h;refine(aU aY (rfl:ai Ty _=.slice _) (rfl:ai Ty _=.slice _) rfl rfl rfl (h.pick 5 [0,3,1,2,4]) rfl (by simp[aO]) G U).mono ?_;rintro _ w9⟨o',c',rfl,h⟩;have e5:eh dt++[O (i:Int)]=eh (dt++[i]):=by simp[eh]
 rw[e5] at h;refine⟨_,_,_,rfl,ξ,⟨i+1,far'.set i n,dt++[i],V,U,G,V,p.hit J az,h.pick 5 [3,0,2,4]⟩,bS J⟩
end
theorem V6{L:List aG}{h:Hp}{a:E}{sz l c:Nat}{vs:Ay}(i:Nat)(b:aL L h)(e:tX L i=own sz a l c vs:=by rfl)(hi:Nat.blt i (B3 L)=true:=by rfl):dX a vs h:=by
 obtain⟨f,g,d⟩:=dN i (by simp_all[iY]) b;rw[e] at d
 grind[dX.mono,bD]
theorem abj(xs:Az)(i:Nat)(v:Int):(iv xs).set i (O v)=iv (xs.set i v):=by simp[iv]
def GD(T:Nat)(xs:Az):Az:=xs.map λx=>x+(T:Int)
theorem R8(a:Nat)(xs:Az):(GD a xs).length=xs.length:=by simp[GD]
theorem agC{g:B}{vs:A5}(c:V4 g.N vs (px g))(e:Q8 g):k7 vs=px g:=by
 funext a b
 refine propext ?_;unfold k7
 by_cases i:a<g.N
 ·obtain⟨f,d⟩:∃h,vs[a]? =some h:=⟨vs[a]'(by rw[c.ln];omega),gn _⟩;rw[jX,d];exact c.st a f d b
 ·rw[jX,lA (by rw[c.ln];omega)];refine⟨λd=>by grind[bt],λ⟨nn,_,d,hp,f,_⟩=>?_⟩;have:=(e d hp).1;omega
theorem agD{g:B}(c:Q8 g){a b:Nat}(h:px g a b):a<g.N/\b<g.N:=by
 obtain⟨nn,_,d,hp,f,e,_⟩:=h;have i:=(c d hp).1;have j:=(c d hp).2 _ e;omega
structure qJ(R:Nat->Nat->Prop)(N:Nat)(ol:A0):Prop where
 ex:∃p:Nat->Bool,(∀i,p i=true↔tu R i)/\ol=(List.range N).filter p
theorem qJ.mem{R:Nat->Nat->Prop}{N:Nat}{a:A0}(h:qJ R N a){x:Nat}:x∈a↔x<N/\tu R x:=by
 obtain⟨b,hp,rfl⟩:=h.ex
 simp_all
theorem qJ.le{R:Nat->Nat->Prop}{N:Nat}{a:A0}(h:qJ R N a):a.length<=N:=by
 obtain⟨b,hp,rfl⟩:=h.ex
 grind
theorem R9{R:Nat->Nat->Prop}{out:A0}{l0:Nat}(h0:out[0]? =some l0)(hs:∀(i:Nat) a b,out[i]? =some a->out[i+1]? =some b->R a b):∀(i:Nat) x,out[i+1]? =some x->tN R x (i+1) l0
 |0,x,hx=>.one _ (hs 0 l0 x h0 hx)
 |i+1,x,hx=>by
  have hl:=(gJ.1 hx).1
  obtain⟨y,hy⟩:∃y,out[i+1]? =some y:=⟨out[i+1]'U,gn _⟩
  exact(R9 h0 hs i y hy).trans (.one y (hs (i+1) y x hy hx))
structure XB(R:Nat->Nat->Prop)(N F l0:Nat)(far out:A0):Prop where
 z:out[0]? =some l0
 st:∀(i:Nat) a b,out[i]? =some a->out[i+1]? =some b->R a b
 lt:∀x∈out,x<N
 fa:∀(i:Nat) x,out[i]? =some x->far.getD x 0+i=F
theorem XB.snoc{R:Nat->Nat->Prop}{N F g k i:Nat}{far a:A0}(h:XB R N F g far a)(l:a[a.length-1]? =some i)(m:R i k)(s:k<N)(t:far.getD k 0+a.length=F):XB R N F g far (a++[k]):=by
 have n:=(gJ.1 h.z).1
 refine⟨by rw[ki n];exact h.z,λb o p e c=>?_,λf d=>?_,λb f d=>?_⟩
 ·have j:=(gJ.1 c).1;rw[jw,pK] at j;rw[ki U] at e
  by_cases q:b+1<a.length
  ·rw[ki q] at c;exact h.st b o p e c
  ·have r:b=a.length-1:=U
   rw[r,l] at e;cases e;rw[kL U] at c;have:b+1-a.length=0:=U
   rw[this] at c;cases c;exact m
 ·rcases iU.1 d with j|j
  ·exact h.lt f j
  simp_all
 ·have j:=(gJ.1 d).1;rw[jw,pK] at j
  by_cases q:b<a.length
  ·rw[ki q] at d;exact h.fa b f d
  grind
theorem XB.cir{R:Nat->Nat->Prop}{N F g:Nat}{far a:A0}(h:XB R N F g far a)(l:xl R N g far)(p:a.length=F):Bi R N a:=by
 have q:=(gJ.1 h.z).1
 have i:∀(b:Nat) x,a[b]? =some x->tN R g (far.getD x 0) x:=λc x b=>by
  have d:=(gJ.1 b).1;have:=h.fa c x b;have e:=h.lt x<|gg b;exact(l.p x _ (getD_some G) U).1
 refine⟨h.lt,?_,λb c m d e=>?_,λx n=>?_⟩
 ·rw[ot,sd];intro f j k o r s;have t:=h.fa f _<|gn k;have v:=h.fa j _ (gn o)
  grind
 ·have o:=(gJ.1 d).1
  by_cases f:b+1<a.length
  ·rw[Nat.mod_eq_of_lt f] at e;exact h.st b c m d e
  ·have j:b+1=a.length:=U
   rw[j,Nat.mod_self,h.z] at e;cases e;have:=i b c d;have r:=h.fa b c d;rw[show far.getD c 0=1 from U] at this;cases this with
   |one _ k=>exact k
   |more s _ t _ k=>exact absurd k.pos U
 ·obtain⟨j,f⟩:=jR n;have k:=i j x f;cases j with
  |zero=>rw[h.z] at f;cases f;exact⟨_,k⟩
  |succ o=>exact⟨_,k.trans<|R9 h.z h.st o x f⟩
section
variable{w:ga}{L:List aG}{b i N l c:Nat}{os:List (E)}{vs:A5}{a:E}{xs:Az}{v0:ah}
theorem adY(h:W w (own 1 a l c (iv xs)::L))(o:∀h,aL L h->aj h ⟨b,0,none⟩ [v0,O (i:Int)])(p:∀x∈xs,0<=x/\x<=1000000)(y:i<=65)(z:l<=4611686018427387904):ρ 92 [.pointer (some ⟨b,0,none⟩),T a l c] w λq e=>q=T a l c/\W e (own 1 a l c (iv (GD i xs))::L):=by
 refine Bx ?_;have A:xs.length=l:=by grind[gm,dq]
 refine⟨λf g=>∃d:Nat,f=d/\d<=l/\W g (own 1 a l c (iv<|GD i (xs.take d)++xs.drop d)::L),λd _=>l-d.toNat,⟨0,rfl,gu _,by simp_all[GD]⟩,?_⟩;clear h;rintro _ C F⟨d,rfl,I,h⟩;refine ae (λr=>?_) λr=>?_
 rotate_left
 ·grind
 have f:d<l:=η
 obtain⟨x,s⟩:∃x,xs[d]? =some x:=⟨xs[d],gn U⟩;have N:=p x<|gg s;have P:(GD i<|xs.take d).length=d:=by grind[R8,List.length_take]
 have m:(GD i (xs.take d)++xs.drop d)[d]? =some x:=η
 intro n t;have h:=h.drawn t;obtain⟨Q,g,_⟩:=cV h<|NI m;have v:aj (hp n) ⟨b,0,none⟩ [v0,O (i:Int)]:=o _ h.tail
 refine⟨λk=>hp k=hp n,rfl,au g f ⟨x,λe k=>?_,(i:Int),λe k=>?_,ξ,au g f ?_⟩⟩
 ·show World.cell? e _=_;obtain⟨R,S,X⟩:=cV (h.eq k) (NI m)
  simp_all
 ·show World.cell? e _=_;rw[cO k];exact v.cell sZ (j:=1) rfl
 ·refine ib h g (by simp_all[dq]) λR h=>⟨ξ,⟨d+1,V,U,?_⟩,bS f⟩
  have S:(iv<|GD i (xs.take d)++xs.drop d).set d (O<|x+(i:Int))=iv (GD i (xs.take<|d+1)++xs.drop (d+1)):=by
   have X:xs.drop d=x::xs.drop (d+1):=by grind[List.drop_eq_getElem_cons,List.getElem?_eq_some_iff]
   simp_all[iw,abj,GD]
  simp_all
theorem aik(m:XA (hp w) b i N os vs)(q:N<=65)(r:∀a k,k7 vs a k->k<N):ρ 87 [.pointer (some ⟨b,0,none⟩)] w λs t=>∃(a:E)(c:Nat)(d:A0),s=T a d.length c/\qJ (k7 vs) N d/\W t (own 1 a d.length c (eh d)::all w):=by
 refine GC ?_;obtain⟨⟨L,c,v,P⟩,Q,R⟩:=id m;obtain⟨e,n⟩:∃f:Nat->Bool,∀d,f d=true↔tu (k7 vs) d:=⟨λd=>@decide (tu (k7 vs) d) (Classical.propDecidable _),λd=>V⟩;refine⟨_,_,_,v.cell0 sZ,?_⟩;refine⟨λg f h l o=>∃(d:Nat)(dt:A0),l=d/\d<=N/\dt=(List.range d).filter e/\f=dt.length/\W o [own 1 g f h (eh dt),has<|hp w],λ_ _ _ d _=>N-d.toNat,⟨0,[],rfl,gu _,rfl,rfl,aH 1<|W.all w⟩,?_⟩;rintro _ x S y X Y⟨d,dt,rfl,a0,a1,rfl,h⟩;have a2:dt.length<=d:=G
 refine ae (λz=>?_) λz=>?_
 rotate_left
 ·have f:d=N:=G
  exact⟨x,y,dt,rfl,⟨e,n,η⟩,h⟩
 have f:d<N:=η
 have a3:List.range (d+1)=List.range d++[d]:=k8;refine(V5 (m.mono<|aE 1 h.l) q r f).mono ?_;rintro _ a4⟨a5,o,rfl,l,_,A⟩;have g:=A.fy h;have a6:=l.ln
 have C:e d=true↔0<o.getD d 0:=by
  rw[n]
  constructor
  ·rintro⟨p,F⟩;exact mB λI=>l.z d f I p F
  ·intro p;exact⟨_,(l.p d _ (getD_some U) p).1⟩
 refine⟨_,_,_,rfl,au rfl f ⟨((o.getD d 0:Nat):Int),(af 0 g.l).cell sZ (j:=d) (se<|getD_some U),ae (λF=>?_) λF=>?_⟩⟩
 ·have a7:e d=true:=C.2 η;refine ag g λa8 a9 g=>?_;refine(aU aY (rfl:ai Ty _=.slice _) (rfl:ai Ty _=.slice _) rfl rfl rfl (g.pick 4 [0,2,1,3]) rfl (by simp[aO]) G U).mono ?_;rintro _ aa⟨ab,ac,rfl,p⟩;have I:eh dt++[O (d:Int)]=eh (dt++[d]):=by simp[eh]
  rw[I] at p;exact⟨_,_,_,rfl,ξ,⟨d+1,dt++[d],V,U,η,V,p.pick 4 [0,3]⟩,bS f⟩
 ·have p:¬e d=true:=λI=>η
  exact⟨ξ,⟨d+1,dt,V,U,η,rfl,g.pick 2 [1]⟩,bS f⟩
end
theorem W.Pk{w:ga}{B:aG}{M:List aG}(h:W w (B::M)):∃a,B a/\W w (Proofs.YtaoaemnefghnbaaGreatDoor.has a::M):=by
 obtain⟨a,b,c,d,e,f,g⟩:=h;exact⟨a,f,a,b,c,d,e,sZ,g⟩
section
variable{w:ga}{L:List aG}{g:B}{x:GA}
theorem agE{e f l c n N:Nat}{a b:E}{fc:Nat}{xs far:A0}(r:aj (hp w) ⟨e,0,none⟩ [T b N fc])(s:dX b (eh far) (hp w))(Q:far.length=N)(t:aj (hp w) ⟨f,0,none⟩ [O (n:Int)])(g:bf (hp w) (Pj xs) a l)(v:∀k∈xs,k<N)(R:l<=4611686018427387904)(S:∃k∈xs,far.getD k 0=n):
  ρ 90 [T a l c,.func (.func H_) #[] #[.pointer (some ⟨e,0,none⟩),.pointer (some ⟨f,0,none⟩)]] w λd h=>(∃(i:Nat)(k:Nat),d=O (i:Int)/\i<l/\xs[i]? =some k/\far.getD k 0=n)/\hp h=hp w:=by
 refine bW ?_;have X:xs.length=l:=by have:=g.1;simp_all[R7]
 refine⟨λh j=>∃d:Nat,h=d/\d<=l/\(∀k∈xs.take d,far.getD k 0≠n)/\hp j=hp w,λd _=>l-d.toNat,⟨0,rfl,gu _,λk d=>η,rfl⟩,?_⟩;rintro _ Y x⟨d,rfl,a0,a1,h⟩;refine ae (λy=>?_) λy=>?_
 rotate_left
 ·grind
 have j:d<l:=η
 obtain⟨k,m⟩:∃k,xs[d]? =some k:=⟨xs[d]'U,gn _⟩;have z:=v k<|gg m;obtain⟨a2,A,C⟩:=g.at<|R6 m;refine au A j ⟨(k:Int),C x<|Gr.of_eq h,bn.2 ⟨rfl,?_⟩⟩;refine EF λF I=>?_;have o:hp F=hp w:=(fM I).trans h
 obtain⟨a3,L,P⟩:∃p,b=some p/\∀q,hp q=hp w->q.cell? (p.add k)=some (O ((far.getD k 0:Nat):Int)):=by
  rcases s with p|⟨q,p,a4⟩
  ·have:=congrArg List.length p
   grind[eh,List.length_nil]
  grind[j5,se,getD_some]
 refine⟨λp=>hp p=hp w,o,b,N,fc,λq p=>r.cell0<|Gr.of_eq p,au L z ⟨_,λp q=>P p q,(n:Int),λq p=>t.cell0<|Gr.of_eq p,_,rfl,ae (λp=>?_) λp=>?_⟩⟩
 ·grind
 ·refine⟨ξ,⟨d+1,V,U,λq a4=>?_,o⟩,bS j⟩
  grind[List.take_add_one]
theorem adZ(a2:gR (hp w) g x)(bc:jq g)(ap:ec (hp w)):ρ 40 [.agg ⟨x.cells⟩] w λf h=>
  (¬aw g/\f=.tuple #[D,O 1]/\Gr w h)\/
  (aw g/\∃(a:E)(c:Nat)(e d:A0),f=.tuple #[T a d.length c,O 0]/\qJ (px g) g.N e/\(e=[]->d=[])/\(∀f,e[0]? =some f->d[0]? =some f/\Bi (px g) g.N d)/\d.length<=67/\d.length<=c/\∃f,bf f (GD g.T (Pj d)) a d.length/\W h (has f::all w)):=by
 refine KS ?_;refine dZ a2 λcy cz a3 a2 bd=>⟨_,_,_,_,_,_,_,_,_,_,_,_,_,bd.row sZ,(agA (x:=x) a2 bc<|dX.mono a3 ap).mono ?_⟩
 rintro _ z (⟨be,rfl,bi⟩|⟨a4,b,cA,c,a5,A,rfl,a6,bl,a7⟩)
 ·exact⟨_,_,rfl,ae (λ_=>.inl ⟨be,rfl,sub.trans a3 bi⟩) λd=>by cases d⟩
 obtain⟨av,bo,az,cB,cC,cF⟩:=EP (.inr a4:bL g);have a8:=agB a7 bl a6.ln;have I:=agC a6 av;have L:∀a d,k7 A a d->d<g.N:=λa e d=>(agD av<|I▸d).2;have a9:sub (hp w) (hp z):=sub.trans a3<|aE 3 a7.l;have bs:ec (hp z):=dX.mono a9 ap;clear a7;obtain⟨⟨bu,c,aB,aK⟩,cI,bz⟩:=id a8;refine⟨_,_,rfl,ae (λd=>G) λ_=>(aik a8 az L).mono ?_⟩;rintro _ m⟨aa,cR,s,rfl,P,p⟩;have cT:=P.le
 refine⟨_,_,_,rfl,ae (λab=>?_) λab=>?_⟩
 ·have d:s=[]:=j2<|yK (b:=0) ab;subst d;exact .inr ⟨a4,none,0,[],[],rfl,I▸P,λ_=>rfl,λe f=>G,V,gP _,λ_=>none,bf.nil,λ_=>none,hp m,λ_=>.inl rfl,λ_ _ e=>(nomatch e),sZ,sZ,bM<|sub.trans a9<|aE 1 p.l⟩
 have aR:0<s.length:=mB<|YQ (b:=0) ab;obtain⟨f,aS⟩:∃d,s[0]? =some d:=⟨s[0],gn aR⟩;obtain⟨ac,bE⟩:=P.mem.1<|gg aS;have C:sub (hp z) (hp m):=aE 1 p.l;have bN:dX aa (eh s) (hp m):=V6 0 p.l
 obtain⟨bO,bP,ad⟩:∃d,aa=some d/\∀{e:ga},sub (hp m) (hp e)->e.cell? (d.add 0)=some (O (f:Int)):=by
  rcases bN with d|⟨e,d,h⟩
  ·have:=congrArg List.length d
   simp_all[eh]
  grind[j5,uq,se]
 have al:∀{d:vP->Prop},d (bO.add 0)->M aa s.length 0 1 d:=λ{e} d=>au (i:=0) bP aR d;clear p;refine al ⟨_,ad sZ,(V5 (a8.mono C) az L ac).mono ?_⟩;rintro _ bT⟨n,k,rfl,y,c0,aV⟩;have c1:=y.ln;have d0:sub (hp m) (hp bT):=aE 1 aV.l;refine⟨_,_,_,rfl,ag aV λF d1 p=>aX p V λc2 p=>?_⟩;have Q:W c2 [ax F [T (some ⟨n,0,none⟩) g.N g.N],ax n<|eh k,has<|hp m]:=p;obtain⟨l,b0⟩:∃d,d=k.getD f 0:=⟨_,rfl⟩
 have d2:0<l:=by
  obtain⟨d,e⟩:=bE;exact b0▸mB λh=>y.z f ac h d e
 have d3:l<=g.N+2:=b0▸c0 f;refine al ⟨_,ad<|aE 2 Q.l,ag Q λam d4 Q=>λc3 c4=>?_⟩;have h:W c3 [ax am (eh [f]),ax F [T (some ⟨n,0,none⟩) g.N g.N],ax n<|eh k,has<|hp m]:=Q.drawn c4;have c5:(eh k)[f]? =some (O (l:Int)):=by simp_all[se]
 refine⟨λw=>aj (hp w) ⟨F,0,none⟩ [T (some ⟨n,0,none⟩) g.N g.N]/\aj (hp w) ⟨n,0,none⟩ (eh k)/\sub (hp m) (hp w),⟨af 1 h.l,af 2 h.l,aE 3 h.l⟩,_,_,_,λw d=>d.1.cell0 sZ,al ⟨(f:Int),λw d=>ad d.2.2,au rfl ac ⟨(l:Int),λw d=>d.2.1.cell sZ (j:=f) c5,ξ,ag h λb1 d5 h=>⟨⟨af 2 h.l,af 3 h.l,aE 4 h.l⟩,aX h V λb2 h=>?_⟩⟩⟩⟩;have c6:(l:Int)-1=((l-1:Nat):Int):=U
 rw[c6] at h;have c7:W b2 [ax am (eh [f]),ax b1 [O ((l-1:Nat):Int)],ax F [T (some ⟨n,0,none⟩) g.N g.N],ax n<|eh k,has<|hp m]:=h.swap;have b3:W b2 (own 1 (some ⟨am,0,none⟩) 1 1 (eh [f])::_):=bq (cs:=[]) (by simpa using c7) rfl rfl (gP _)
 refine⟨λr e t v R=>∃(o q:Nat)(d:A0),v=some ⟨o,0,none⟩/\e=d.length/\d.length+q=l/\XB (k7 A) g.N l f k d/\W R [own 1 r e t (eh d),ax o [O (q:Int)],ax F [T (some ⟨n,0,none⟩) g.N g.N],ax n<|eh k,has<|hp m],λ_ d _ _ _=>l-d,⟨b1,l-1,[f],rfl,rfl,G,⟨rfl,λi a b _ d=>η,λd e=>η,λi c8 b4=>?_⟩,b3⟩,?_⟩
 ·grind
 clear b3;rintro _ an d6 c9 d7 d8⟨d9,q,e,rfl,rfl,dc,t,R⟩;have df:=(gJ.1 t.z).1;refine⟨_,(af 1 R.l).cell0 sZ,ae (λca=>?_) λca=>?_⟩
 rotate_left
 ·have Y:q=0:=η
  have v:=t.cir y U;rw[<-adV] at R
  refine(adY (b:=b) (v0:=T bu g.N c) R (λo d=>aB.mono<|sub.trans C<|aE 3 d) (λc8 b4=>?_) bo U).mono ?_
  ·obtain⟨d,o,rfl⟩:=iz.1 b4;have:=t.lt d o;omega
  rintro _ a0⟨rfl,d⟩;obtain⟨o,S,X⟩:=W.Pk<|d.pick 5 [0,4];refine⟨_,_,_,rfl,.inr ⟨a4,an,c9,s,e,rfl,I▸P,λr=>η,λa1 r=>?_,U,bJ d,o,bA (by rw[R8,R7])<|bD S,W.on (N:=[has o]) X<|bM<|sub.trans a9 C⟩⟩;rw[aS] at r;cases r;exact⟨t.z,I▸v⟩
 have dk:0<q:=η
 obtain⟨d,S⟩:∃o,e[e.length-1]? =some o:=⟨e[e.length-1]'U,gn _⟩;have cb:=t.lt d<|gg S;have cc:k.getD d 0=q+1:=by have:=t.fa _ d S;omega
 obtain⟨r,b5⟩:∃o,A[d]? =some o:=⟨A[d]'U,gn _⟩;obtain⟨b6,dl⟩:∃o,a5[d]? =some o:=⟨a5[d]'U,gn _⟩;have ao:(a5.map bk)[d]? =some (bk b6):=η
 have dn:=a6.le r<|gg b5;intro cd bQ;have X:=R.drawn bQ;have ce:(e.length:Int)-1=((e.length-1:Nat):Int):=U
 obtain⟨cg,ch,_⟩:=cV X (se S)
 have ci:∀{o:ga},dX an (eh e) (hp o)->o.cell? (cg.add<|e.length-1)=some (O (d:Int)):=λ{Y} v=>by
  rcases v with o|⟨a0,o,a1⟩
  ·have:=congrArg List.length o
   simp_all[eh]
  grind[j5,se]
 have Y:sub (hp z) (hp cd):=sub.trans C<|aE 4 X.l;obtain⟨ds,b7,_⟩:=(aK.mono Y).at ao;refine⟨λo=>dX an (eh e) (hp o)/\sub (hp z) (hp o),⟨V6 0 X.l,Y⟩,_,_,_,λv o=>aB.cell0 o.2,ξ,?_⟩;rw[ce];refine au ch U ⟨(d:Int),λv o=>ci o.1,au b7 cb ⟨bk b6,λv o=>(aK.mono o.2).atv b7 ao,(Fl ((bz d _ r ao b5).mono Y)<|dX.mono Y bs).mono ?_⟩⟩;rintro _ dv⟨dx,dy,rfl,ck⟩;have v:=ck.fy X;have dA:=dH r
 --one behind
 have cl:∃o∈mb r,k.getD o 0=q:=by
  obtain⟨a0,a1⟩:=y.p d _ (getD_some U) U;rw[cc] at a0 a1;cases a0 with
  |one _ _=>omega
  |more cp _ o b9 ba=>
   have bb:=L _ _ b9;have cm:bt r o=true:=by grind[k7]
   refine⟨o,vx.2 cm,?_⟩;have cq:k.getD o 0≠0:=λcn=>y.z o bb cn _ ba;obtain⟨cn,co⟩:=y.p o _ (getD_some U) U;have ct:=co _ ba;have cu:=a1 _<|.more _ d o b9 cn;omega
 have cm:Pj (mb r)=jC r:=rfl
 refine⟨_,_,_,rfl,⟨V6 1 v.l,sub.trans C<|aE 5 v.l⟩,(agE (xs:=mb r) (N:=g.N) (af 3 v.l) (.inr ⟨_,rfl,af 4 v.l⟩) c1 (af 2 v.l) (cm▸bA (by rw[Dp]) (V6 0 v.l)) (λdC cn=>?_) U cl).mono ?_⟩
 ·have:=vx.1 cn;exact mw λo=>by grind[vw]
 rintro _ dF⟨⟨i,a0,rfl,co,b9,dG⟩,cp⟩;have a1:=v.eq cp;have dW:=vx.1<|gg b9;have ba:k7 A d a0:=by grind[k7]
 obtain⟨e0,cq,ct⟩:=cV a1<|NI<|US b9;refine⟨_,rfl,au cq co ⟨_,ct,ag a1 λe1 e2 a1=>?_⟩⟩;refine(aU aY (rfl:ai Ty _=.slice _) (rfl:ai Ty _=.slice _) rfl rfl rfl (a1.pick 7 [0,2,1,3,4,5,6]) rfl (by simp[aO]) G U).mono ?_;rintro _ e3⟨e4,e5,rfl,bb⟩;have cu:eh e++[O (a0:Int)]=eh (e++[a0]):=by simp[eh]
 rw[cu] at bb;have o:=bb.pick 7 [0,3,4,5,6];refine⟨_,_,_,rfl,_,(af 1 o.l).cell0 sZ,ag o λcv e6 o=>aX o V λe7 o=>?_⟩;refine⟨(q:Int),(af 0 o.l).cell0 sZ,ξ,aX o V λe8 o=>⟨⟨cv,q-1,e++[a0],rfl,V,G,t.snoc S ba (L _ _ ba) U,?_⟩,G⟩⟩;have cx:(q:Int)-1=((q-1:Nat):Int):=U
 rw[cx] at o;exact o.pick 6 [1,0,3,4,5]
end
section
variable{a b c d e f:E}{i j k l m n o p q r s t:Nat}{A B:Int}{w:ga}{R:ah->WP}
theorem tP(h:new w (ψ a i j b k l c m n A d o p) λa b=>sN 51 [T e q r,O B,J false] b λd g h i c=>∃(b:lP [(45,mR)]),(gj c λd c=>br (!i) (b true d) (∃f g h i j k l m n o p r s,(∀b,c b->rA b (Z a) 5 [T f g h,T i j k,T l m n,O o,T p r s])/\iu 52 [vG [T f g h,T i j k,T l m n,O o,T p r s]] d λg f=>oL c f λd=>br (!g) (b true f) (M e q B 4 λc=>gy d (c.add 1) λg=>bQ (g<0) (b true f) (M e q B 4 λc=>gy d c λe=>jr d a 3 λc=>b (e !=c) f))))/\∀(_:ν) c h,b c h->br c (R (J false) h) (τ [(11,aP),(12,aP)] λb c=>b 0 0 h/\∀(_:ν) h i j,b h i j->bQ (i<(g:Int)) (M d g i 1 λd=>gX j d λg=>M e q g 4 λd=>∃g k l m n o,rA j d 4 [O g,O k,O l,T m n o]/\H j [O 0,O 0,O 0,D] 138 λd p=>bC p (Z d) [O g,O k,O l,T m n o] λg=>i_ g d 1 λk=>bQ (k<0) (∃(e:lP [(93,mR)]),(gj g λb c=>gy c (Z d) λg=>bQ (g<1) (e true b) (gy c (Z d) λg=>gz c (Z a) λi j k=>bQ ((j:Int)<=g) (e true b) (bQ ((s:Int)<=h) (e true b) (M f s h 1 λa=>gy c a λf=>gy c (Z d) λa=>br (f !=a) (e true b) (jr c d 2 λa=>e (a !=h) b)))))/\∀(_:ν) a d,e a d->br a (R (J false) d) (K (h+1)/\K (i+1)/\nB b c (h+1) (i+1) d h i j)) (∃(f:lP [(127,mR)]),(gj g λb c=>jr c d 1 λe=>jo c a 4 λg h i=>bQ ((h:Int)<=e) (f true b) (jo c a 4 λe g h=>jr c d 1 λh=>M e g h 3 λe=>gy c e λg=>gy c (Z d) λe=>br (g !=e) (f true b) (jo c a 4 λe g h=>jr c d 1 λa=>M e g a 3 λa=>gz c (a.add 1) λe g h=>jo c d 3 λa e h=>f ((g:Int) !=(e:Int)) b)))/\∀(_:ν) g k,f g k->br g (R (J false) k) (gT 0 k λf g k l=>hU l d 3 λm n o=>bQ (k<(n:Int)) (gj l λb c=>jo c a 4 λh i j=>jr c d 1 λa=>M h i a 3 λa=>gz c (a.add 1) λh i j=>M h i k 1 λa=>gy c a λh=>jo c d 3 λa i j=>M a i k 1 λa=>gy c a λd=>M e q d 4 λa=>gy c a λd=>br (h !=d) (R (J false) b) (gx f g k b l)) (K (i+1)/\nB b c h (i+1) l h i j)))) (R (J (h==(s:Int))) j))):ρ 14 [φ a i j b k l c m n A d o p,T e q r,O B,T f s t] w R:=rv func14 h ⟨[(6,[(11,aP),(12,aP)]),(16,[(14,aP)])],[(3,[(45,mR)]),(11,[(93,mR)]),(14,[(127,mR)])],[],[]⟩
theorem xX{e:Bool}(h:∃(b:lP [(24,mR)]),bQ (A<0) (b true w) (b (decide ((i:Int)<=A)) w)/\∀(_:ν) c d,b c d->br c (R (vU [D,J false]) d) (qT (i:Int) (i:Int) 1/\new d (Obj.cells (Array.mk (ir (Int.toNat (i:Int)) [J false])) 4) λb c=>M (some (Z b)) (Int.toNat (i:Int)) A 1 λd=>gh c d (J true) λc=>H c [O A] 3 λc d=>τ [(9,jG),(10,jG)] λf g=>f (some (Z c)) 1 1 none 0 0 d/\∀(_:ν) c d h j k l m,f c d h j k l m->bQ (0<(d:Int)) (K ((d:Int)-1)/\M c d ((d:Int)-1) 1 λn=>gX m n λo=>K ((d:Int)-1)/\mA c d h none (some ((d:Int)-1)) none 1 λ(n:E)(p q:Nat)=>M a i o 4 λa=>∃r s t u v w,rA m a 4 [O r,O s,O t,T u v w]/\H m [O 0,O 0,O 0,D] 138 λa x=>bC x (Z a) [O r,O s,O t,T u v w] λr=>H r [O o] 3 λr s=>iT 24 j k l r s λt u v s=>∃(r:lP []),(gX s (Z a) λb=>bQ (b<0) (R (vU [D,J false]) s) (i_ s a 1 λb=>bQ (b< -1) (R (vU [D,J false]) s) (i_ s a 2 λb=>bQ (b<0) (R (vU [D,J false]) s) (i_ s a 1 λb=>br (b==-1) (hU s a 3 λb c d=>bQ (0<(c:Int)) (R (vU [D,J false]) s) (i_ s a 1 λb=>bQ (0<=b) (i_ s a 2 λb=>br (b !=0) (R (vU [D,J false]) s) (r s)) (r s))) (i_ s a 1 λb=>bQ (0<=b) (i_ s a 2 λb=>br (b !=0) (R (vU [D,J false]) s) (r s)) (r s))))))/\∀(_:ν) s,r s->gT 0 s λr w s x=>hU x a 3 λz y C=>bQ (s<(y:Int)) (hU x a 3 λc d e=>M c d s 1 λa=>gX x a λc=>bQ (c<0) (R (vU [D,J false]) x) (bQ (o<=c) (R (vU [D,J false]) x) (M (some (Z b)) (Int.toNat (i:Int)) c 1 λa=>mH x a λd=>br d (R (vU [D,J false]) x) (M (some (Z b)) (Int.toNat (i:Int)) c 1 λa=>gh x a (J true) λa=>gx r w s a x)))) (τ [(9,jG),(15,aP)] λb i=>b n p q 0 x/\∀(_:ν) n o p q r,b n o p q r->hU r a 3 λs w F=>bQ (q<(w:Int)) (hU r a 3 λc d f=>hU r a 3 λf g h=>K ((g:Int)-1)/\K ((g:Int)-1-q)/\M c d ((g:Int)-1-q) 1 λc=>gX r c λd=>br e (hU r a 3 λc d e=>M c d q 1 λa=>gX r a λc=>H r [O c] 3 λa c=>iT 24 n o p a c λd e f c=>K (q+1)/\nD b i d e f (q+1) c n o p q r) (H r [O d] 3 λa c=>iT 24 n o p a c λd e f c=>K (q+1)/\nD b i d e f (q+1) c n o p q r)) (f n o p t u v r/\g n o p t u v r<g c d h j k l m))) (R (vU [T j k l,J true]) m))):ρ 51 [T a i j,O A,J e] w R:=rv func51 h ⟨[(7,[(9,jG),(10,jG)]),(15,[(13,aP)]),(22,[(9,jG),(15,aP)])],[(2,[(24,mR)]),(14,[])],[],[]⟩
end
instance:tV RE:={ n:=4,rd:=λh x vs=>∃(o:E)(c:Nat),vs=[O x.sym,O x.prod,O x.tok,T o x.kids.length c]/\bf h x.kids o x.kids.length,mono:=λs ⟨o,c,e,r⟩=>⟨o,c,e,r.mono s⟩,len:=λ⟨_,_,h,_⟩=>by grind }
theorem ad1{h:Hp}{a:List Xy}{o:E}{n:Nat}(l:a.length=n)(r:dX o (EA a) h)(j:∀b∈a,bf h b.2.2 b.2.1.1 b.2.2.length):bf h (a.map zP) o n:=by
 refine⟨η,λg m c=>?_⟩;rw[iE] at c;cases d:a[g]? with
 |none=>simp_all
 |some b=>
  rw[d] at c;cases c
  rcases r with e|⟨i,e,k⟩
  ·have:=congrArg List.length e
   grind[EB,List.length_nil,List.getElem?_eq_some_iff]
  ·exact⟨i,_,e,cQ (f:=Sr) (n:=4) (λ_=>rfl) a i k g b d,_,_,rfl,j b<|gg d⟩
section
variable{w:ga}{L:List aG}{a a2 o:E}{n n2 c c2:Nat}
variable{k:Nat}{h:List Xy}{z:tq}{tk:At}
theorem ad5(b:dX a (EA h) (hp w))(f:h.length=n)(v:n<=1000000):ρ 131 [T a n c] w λg i=>∃o c',g=T o n c'/\W i (own 4 o n c' (EA h)::all w):=by
 refine jU ?_;cases a with
 |none=>
  have d:EA h=[]:=by
   rcases b with e|⟨j,e,_⟩
   ·omega
   simp_all
  have:n=0:=by have:=congrArg List.length d;grind[EB]
  subst this;rw[d];exact gd rfl ⟨none,0,rfl,aH 4<|W.all w⟩
 |some j=>
  refine bm rfl (ag (W.all w) λk l d=>?_);have m:W l (own 4 (some ⟨k,0,none⟩) 0 0 []::all w):=bq (cs:=[]) d rfl rfl (gP _);have p:=dX.mono d.aS b
  refine(jH aY (rfl:ai Ty _=.slice _) rfl rfl rfl m (n:=n) (news:=EA h) (gU aY (rfl:ai Ty _=.slice _) (by rw[EB,f]) (by
    rcases p with x|⟨y,e,q⟩
    ·simp_all
    ·cases e;exact .inr ⟨j,rfl,λr s t=>j5<|q r s t⟩) (by
   intro r q;obtain⟨s,_,e⟩:=lR.1 q;simp[Sr,cf] at e;rcases e with rfl|rfl|rfl|rfl<;>rfl)) G U).mono ?_
  grind
theorem R_(L:aj (hp w) (Z k) [T z.n h.length z.cn,T z.t tk.length z.ct])(N:dX z.n (EA h) (hp w))(P:∀b∈h,bf (hp w) b.2.2 b.2.1.1 b.2.2.length)(Q:h.length<=1000000)(R:∀b∈h,b.2.2.length<=1000000):ρ 60 [u (some (Z k))] w λS X=>∃o c a,S=T o h.length c/\bf a (h.map zP) o h.length/\W X (has a::all w):=by
 refine yU<|bm rfl ⟨_,_,_,L.cell0 sZ,(ad5 N rfl Q).mono ?_⟩;rintro _ ad⟨o,c,rfl,Y⟩;obtain⟨a0,-,x⟩:=W.Pk<|(W.flat (M:=[])).2 Y;refine⟨_,_,_,rfl,λa1 a2=>∃(j:Nat)(a:List Xy)(d:Hp),a1=j/\j<=h.length/\a.map zP=h.map zP/\(∀e b,a[e]? =some b->e<j->bf d b.2.2 b.2.1.1 b.2.2.length)/\(∀e b,a[e]? =some b->j<=e->bf (hp w) b.2.2 b.2.1.1 b.2.2.length)/\W a2 (own 4 o h.length c (EA a)::has d::all w),λa _=>h.length-a.toNat,⟨0,h,a0,rfl,gu _,rfl,λd b _ a=>absurd a<|Nat.not_lt_zero _,λd b a _=>P b<|gg a,x.swap⟩,?_⟩;clear x;rintro _ _ al⟨j,a,r,rfl,am,i,y,A,l⟩;have a3:a.length=h.length:=by have:=congrArg List.length i;grind
 refine ae (λC=>?_) λC=>?_
 ·have m:j<h.length:=η
  obtain⟨b,n⟩:∃b,a[j]? =some b:=⟨_,gn U⟩;have an:=gg n
  have ao:b.2.2.length<=1000000:=by
   have d:(a.map zP)[j]? =some (zP b):=G
   rw[i,iE] at d;cases g:h[j]? with
   |none=>simp_all
   |some e=>
    rw[g] at d;have p:zP e=zP b:=Option.some.inj d;have:=R e<|gg g;have q:=congrArg RE.kids p
    show b.2.2.length<=_
    have s:e.2.2=b.2.2:=q
    simp_all
  obtain⟨ap,s,a4⟩:=AQ (f:=Sr) (λ_=>rfl) V l n;refine aI s m ⟨_,_,_,a4.cell sZ (j:=3) rfl,(dV ((A j b n<|gP _).mono (aE 2 l.l)) U U).mono ?_⟩;rintro _ av⟨d,e,rfl,a5⟩;have p:=(W.fy a5 l.l).swap;refine⟨_,_,_,rfl,aI s m ?_⟩;have a6:ew j 4+3<(EA a).length:=by grind[EB,bh]
  rw[ke];refine ib p s a6 λaz p=>?_
  have a7:(EA a).set (ew j 4+3) (T d b.2.2.length e)=EA (a.set j (b.1,((d,e),b.2.2))):=by
   have g:Sr (b.1,((d,e),b.2.2))=(Sr b).set 3 (T d b.2.2.length e):=rfl;have q:a=a.take j++b::a.drop (j+1):=by grind[List.getElem?_eq_some_iff,List.drop_eq_getElem_cons,List.take_append_drop]
   have t:EA a=EA (a.take j)++(Sr b++EA (a.drop<|j+1)):=by grind[EA]
   have v:EA (a.set j (b.1,((d,e),b.2.2)))=EA (a.take j)++(Sr (b.1,((d,e),b.2.2))++EA (a.drop<|j+1)):=by
    rw[tO,gD U];simp[EA]
   grind[EA,ew,EB,bh,List.length_take,List.set_append_right,Nat.add_sub_cancel_left,List.set_append_left,Sr]
  rw[a7] at p;obtain⟨t,a8,a9⟩:=W.Pk<|W.flat (M:=[_,_]).2 (p.pick 4 [1,2,0,3]);have F:aL [own 1 d b.2.2.length e (iv b.2.2),has r] t:=a8;have aa:sub r t:=aE 1 F
  refine⟨ξ,⟨j+1,_,t,V,m,?_,λq v g ab=>?_,λq v g ab=>?_,a9.swap⟩,bS m⟩
  ·rw[kf,<-i];exact DC (by rw[iE,n];rfl)
  ·by_cases I:q=j
   ·subst I;rw[sq U] at g;cases g;exact bA rfl (dT 0 F)
   ·rw[qV (λac=>I ac.symm)] at g;exact(y q v g U).mono aa
  ·rw[qV U] at g;exact A q v g U
 ·have s:h.length<=j:=by have:=hY C;omega
  obtain⟨d,m,n⟩:=W.Pk<|W.flat (M:=[_,_]).2 l;have e:aL [own 4 o h.length c (EA a),has r] d:=m;refine⟨o,c,d,rfl,?_,n⟩;rw[<-i]
  exact ad1 a3 (dT 0 e) λb p=>by
   obtain⟨q,g⟩:=jR p;have:=(gJ.1 g).1;exact(y q b g U).mono (aE 1 e)
theorem ad6(e:aj (hp w) (Z k) [T z.n h.length z.cn,T z.t tk.length z.ct])(f:dX z.n (EA h) (hp w))(g:∀b∈h,bf (hp w) b.2.2 b.2.1.1 b.2.2.length)(i:h.length<=1000000)(j:∀b∈h,b.2.2.length<=1000000):ρ 60 [u (some (Z k))] w λl a=>∃o c,l=T o h.length c/\bf (hp a) (h.map zP) o h.length/\Gr w a:=by
 refine(R_ e f g i j).mono ?_;rintro _ n⟨o,c,p,rfl,m,d⟩;exact⟨o,c,rfl,m.mono<|aE 0 d.l,aE 1 d.l⟩
end
section
variable{w:ga}{L:List aG}{k r s a b:Nat}{y:cY}{g:B}{ss:List SQ}{A:Nat->Int->aF}{G:Nat->Int->Nat}{H:Hp}{x:GA}{h i:Ix}{F:PA}{j:L5}{N:List (List aF)}{Q:A7}{Cs:List cW}{p:dO}{t:Nat}
theorem ad7(d:Bt (hp w) k j g N Q Cs p)(e:jq g)(f:g.terms.length*24<=140737488355328)(h:g.b9.length*16<=140737488355328)(i:g.prods.length≠0):ρ 55 [u (some (Z k)),J true] w λl m=>∃(r s a b:Nat)(x:GA)(c n:Ix)(o:PA)(H:Hp),l=u (some (Z r))/\CX H b x c n o g N Q p/\oV r s a b cY.new (has H::all w) m:=by
 refine HI<|(Xz d e f h i).mono ?_;rintro _ z⟨b,x,n,o,q,H,rfl,t,v⟩;refine⟨_,rfl,bm rfl ((ahH v).mono ?_)⟩;rintro _ A⟨s,rfl,y⟩;refine⟨_,rfl,(ahK y).mono ?_⟩;rintro _ C⟨a,rfl,c⟩;refine⟨_,rfl,ag c λr F c=>⟨r,s,a,b,x,n,o,q,H,rfl,t,[],⟨none,0,none,0⟩,⟨none,0,none,0⟩,none,0,rfl,?_⟩⟩;exact(aH 3 c).pick 9 [1,0,6,7,8,2,3,4,5]
theorem ahN{e:Az}{o:E}{n c:Nat}{l:E}{m:Nat}(q:aj (hp w) (Z r) (VX s a b y l m))(v:CX (hp w) b x h i F g N Q p)(z:bf (hp w) e o n)(A:∀t∈e,1<=t/\t<g.T)(C:n<=1000000):ρ 57 [u (some (Z r)),T o n c] w λI L=>I=J true/\Gr w L:=by
 refine DO (ag (W.all w) λX Y d=>(T6 (p:=λ_=>false) (z.mono d.aS) rfl (λP R S f=>?_) C).mono ?_)
 ·obtain⟨a0,a1⟩:=A P R;have k:Gr w S:=d.aS.trans f;refine yY<|bm (jM U) ⟨some<|Z r,(af 0 d.l).cell0 f,some<|Z b,q.cell k (j:=2) rfl,(VW<|v.mono k).mono ?_⟩;rintro _ a2⟨rfl,rfl⟩;exact⟨_,rfl,η,Gr.refl _⟩
 ·rintro _ a0⟨rfl,k⟩;exact⟨_,rfl,V,d.aS.trans k⟩
theorem ad8{w':ga}(h:oV r s a b y L w)(g:Gr w w'):oV r s a b y L w':=by
 obtain⟨c,d,e,f,i,j,h⟩:=h;exact⟨c,d,e,f,i,j,h.gr g⟩
end
section
variable{a b c d e:E}{i j k l m n o p q r:Nat}{A B:Int}{w:ga}{R:ah->WP}
theorem qS(h:new w (ψ a i j b k l c m n A d o p) λa b=>χ b (Z a) λa=>rE 8 [a] b λa b=>∃c d f g h i,a=vU [u c,vG [O d,O f,T g h i]]/\H b [O 0,O 0,D] 31 λa b=>bC b (Z a) [O d,O f,T g h i] λb=>br (Option.isNone c) (gX b (Z a) λc=>R (J (c !=0)) b) (rE 9 [u c] b λa b=>∃d f g h i j k l m n o p s,a=vG [T d f g,T h i j,T k l m,O n,T o p s]/\H b [D,D,D,O 0,D] 27 λa b=>bC b (Z a) [T d f g,T h i j,T k l m,O n,T o p s] λb=>χ b (Z a) λd=>sN 10 [d,T e q r,O 40] b λe f g h d=>∃(b:lP [(37,mR)]),br (!h) (b true d) (iu 11 [u c] d λd c=>b (!d) c)/\∀(_:ν) d h,b d h->br d (hU h a 4 λb c d=>R (J (decide (0<(c:Int)))) h) (rE 12 [u c,T e f g] h λb c=>∃d h i j k l m n o p q r s t x v,b=vU [vG [O d,O h,T i j k,T l m n,T o p q,O r,T s t x],O v]/\H c [O 0,O 0,D,D,D,O 0,D] 41 λb c=>bC c (Z b) [O d,O h,T i j k,T l m n,T o p q,O r,T s t x] λc=>br (v !=0) (R (J (v==15)) c) (χ c (Z a) λd=>iu 13 [d,T e f g] c λh d=>br (!h) (gX d (Z b) λa=>R (J (a==2)) d) (gX d (Z b) λc=>br (c !=1) (R (J false) d) (χ d (Z a) λa=>hU d b 4 λc h i=>i_ d b 5 λj=>iu 14 [a,T c h i,O j,T e f g] d λc b=>R (J c) b)))))):ρ 3 [φ a i j b k l c m n A d o p,T e q r] w R:=rv func3 h ⟨[],[(7,[(37,mR)])],[],[]⟩
theorem zR(h:new w (ψ a i j b k l c m n A d o p) λa b=>gp b (Z a) λc d f=>K ((d:Int)-1)/\τ [(8,jG),(10,aP)] λa c=>a none 0 0 0 b/\∀(_:ν) b f g h i,a b f g h i->bQ (h<(q:Int)) (bQ (h<B) (M e q h 1 λe=>gX i e λj=>bQ (j<0) (K (j+1)/\K (0-(j+1))/\bQ ((d:Int)-1<1) (R (vU [D,J false]) i) (nz ((d:Int)-1)/\K (1+Int.tmod (0-(j+1)) ((d:Int)-1))/\H i [O (1+Int.tmod (0-(j+1)) ((d:Int)-1))] 3 λd e=>iT 24 b f g d e λj k l e=>K (h+1)/\nD a c j k l (h+1) e b f g h i)) (bQ ((d:Int)-1<1) (R (vU [D,J false]) i) (nz ((d:Int)-1)/\K (1+Int.tmod j ((d:Int)-1))/\H i [O (1+Int.tmod j ((d:Int)-1))] 3 λd e=>iT 24 b f g d e λj k l e=>K (h+1)/\nD a c j k l (h+1) e b f g h i))) (R (vU [T b f g,J true]) i)) (R (vU [T b f g,J true]) i)):ρ 10 [φ a i j b k l c m n A d o p,T e q r,O B] w R:=rv func10 h ⟨[(4,[(8,jG),(10,aP)])],[],[],[]⟩
end
section
variable{g:B}{ss:List SQ}{A:Nat->Int->aF}{G:Nat->Int->Nat}{Gs:A7}{p:dO}{y:cY}
theorem Ni(g:B)(a:Nat->Int->Nat)(t:Nat)(ms:List aF)(y:cY):(ms.foldl (Bm g a t) y).du=y.du:=EC t ms y
end
section
variable{w:ga}{g:B}{x:GA}
theorem ad9{e:Az}{o:E}{n r s:Nat}(v:gR (hp w) g x)(Q:g.T<=1000000)(y:bf (hp w) e o n)(hi:∀t∈e,-9223372036854775808<=t/\t<=9223372036854775807)(R:s<=1000):
  ρ 10 [.agg ⟨x.cells⟩,T o n r,O (s:Int)] w λf h=>(f=.tuple #[D,J false]/\Gr w h)\/∃(row:Az)(a:E)(cc:Nat),f=.tuple #[T a row.length cc,J true]/\row.length<=s/\(∀t∈row,1<=t/\t<(g.T:Int))/\W h (own 1 a row.length cc (iv row)::all w):=by
 have S:x.tl=g.T:=v.t.1.symm;refine zR<|ag (W.all w) λz A i=>⟨_,_,_,(show aj (hp A) (Z z) x.cells from af 0 i.l).cell0 sZ,ξ,λb a cc c d=>∃(row:Az),c=(row.length:Int)/\a=row.length/\row.length<=n/\row.length<=s/\(∀t∈row,1<=t/\t<(g.T:Int))/\W d (own 1 b a cc (iv row)::all w),λ_ _ _ a _=>n-a.toNat,⟨[],rfl,rfl,gu _,gu _,V,aH 1 i.tail⟩,?_⟩;rintro _ j _ cc _ C⟨row,rfl,rfl,X,k,l,a⟩;refine ae (λY=>ae (λa0=>?_) λ_=>.inr ⟨row,j,cc,rfl,k,l,a⟩) λ_=>.inr ⟨row,j,cc,rfl,k,l,a⟩;have b:row.length<n:=η
 have a1:row.length<s:=η
 obtain⟨t,a2,d,F,I⟩:=y.dy b;have a3:=hi t<|gg d;have m:∀c:Int,0<=c->1<=(x.tl:Int)-1->0<=c.tmod ((x.tl:Int)-1)/\c.tmod ((x.tl:Int)-1)<(x.tl:Int)-1:=λp c q=>⟨Int.tmod_nonneg _ c,Int.tmod_lt_of_pos _ U⟩
 refine au F b ⟨_,I C<|aE 1 a.l,ae (λc=>have p:t<0:=gZ c;⟨ξ,ξ,?_⟩) λp=>?_⟩
 ·have q:=m (0-(t+1)) U;generalize Int.tmod (0-(t+1)) ((x.tl:Int)-1)=c at q ⊢;refine ae (λL=>.inl ⟨rfl,aE 1 a.l⟩) λa4=>?_;have L:1<=(x.tl:Int)-1:=η
  have a5:=q L;refine⟨by show(x.tl:Int)-1≠0;omega,ξ,ag a λa6 a7 a=>?_⟩;refine(aU (us:=iv row) (vs:=[O (1+c)]) aY (rfl:ai Ty _=.slice _) (rfl:ai Ty _=.slice _) rfl rfl rfl a rfl (by simp[aO]) G U).mono ?_;rintro _ a8⟨a9,aa,rfl,N⟩
  refine⟨_,_,_,rfl,ξ,⟨row++[1+c],V,V,G,G,λt d=>?_,?_⟩,bS b⟩
  ·grind
  ·have P:iv (row++[1+c])=iv row++[O (1+c)]:=by simp[iv]
   rw[P];exact N.pick 2 [0]
 ·have a4:¬t<0:=hY p;have q:=m t U;generalize Int.tmod t ((x.tl:Int)-1)=c at q ⊢;refine ae (λL=>.inl ⟨rfl,aE 1 a.l⟩) λa5=>?_;have L:1<=(x.tl:Int)-1:=η
  have a6:=q L;refine⟨by show(x.tl:Int)-1≠0;omega,ξ,ag a λa7 a8 a=>?_⟩;refine(aU (us:=iv row) (vs:=[O (1+c)]) aY (rfl:ai Ty _=.slice _) (rfl:ai Ty _=.slice _) rfl rfl rfl a rfl (by simp[aO]) G U).mono ?_;rintro _ a9⟨aa,ab,rfl,N⟩
  refine⟨_,_,_,rfl,ξ,⟨row++[1+c],V,V,G,G,λt d=>?_,?_⟩,bS b⟩
  ·grind
  ·have P:iv (row++[1+c])=iv row++[O (1+c)]:=by simp[iv]
   rw[P];exact N.pick 2 [0]
end
def GF(g:B)(A':Int->Int->aF)(G':Int->Int->Int)(G:Nat->Int->Nat):Nat->A0->cY->Option (Bool×Nat×cY)
 |i,[],y=>some (true,i,y)
 |i,t::ts,y=>match j4 g A' G' G t y with
  |none=>none
  |some (false,y')=>some (false,i,y')
  |some (true,y')=>GF g A' G' G (i+1) ts y'
abbrev oE(ns:A0):Az:=ns.map λ(j:Nat)=>(j:Int)
def Sa(y:cY):Prop:=y.ids=[]\/∃l,y.nd.length≠0/\y.ids=(y.nd.length-1)::l
section
variable{g:B}{ss:List SQ}{A:Nat->Int->aF}{i:Nat->Int->Nat}{Gs:A7}{p:dO}{y:cY}
theorem ad_(t:Nat)(a:aF)(h:Sa y):Sa (Bm g i t y a):=by
 unfold Bm
 split
 ·exact .inr ⟨y.ids,by simp[CU],by simp[CU]⟩
 split
 ·split
  ·exact .inr ⟨_,by simp[Eo],by simp[Eo];rfl⟩
  ·exact h
 ·exact h
theorem GG(t:Nat):∀(ms:List aF){y:cY},Sa y->Sa (ms.foldl (Bm g i t) y)
 |[],_,h=>h
 |a::ms,_,h=>GG t ms (ad_ t a h)
theorem Uf{c:Int->Int->aF}{d:Int->Int->Int}{t:Nat}{f:Bool}{b:cY}(a:j4 g c d i t y=some (f,b))(h:Sa y):Sa b:=by
 unfold j4 at a
 split at a
 ·cases a
 ·cases a;exact h
 ·cases a;unfold Gp
  split
  ·exact GG t _ h
  ·exact GG t _ h
end
section
section
variable{w:ga}{L:List aG}{a:E}{l c:Nat}
theorem Bk{vs:Ay}(h:W w (own 3 a l c vs::L)):ρ 117 [T a l c] w λb d=>∃o k c',b=T o k c'/\d=w:=
 kO (bZ (bJ h) ⟨_,_,_,rfl,rfl⟩)
end
variable{w:ga}{L:List aG}{g:B}{x:GA}
theorem abk(c0:gR (hp w) g x)(b7:jq g)(c1:ec (hp w)):ρ 43 [.agg ⟨x.cells⟩] w (aih g w):=by
 refine CW<|dZ c0 λdC X al a1 L=>ag (W.all X) λam c2 b9=>?_;have an:Gr X c2:=b9.aS;refine⟨_,_,_,_,_,_,_,_,_,_,_,_,_,L.row an,(aaU (a1.mono an) b7<|dX.mono (al.trans an) c1).mono ?_⟩;rintro _ P⟨a,ba,int,ao,nn,c3,dF,F,rfl,a2,ap,c4,a7⟩;have Q:=W.Qf a7 b9.l;clear a7
 refine⟨_,_,_,_,rfl,ae (λc5=>?_) λc5=>?_⟩
 ·have b:ao≠0:=η
  have e:=a2.nil b;subst e;refine aQ (Q.pick 3 [2]) rfl (by simp[aO]) λf Q=>⟨_,_,_,_,_,_,_,_,_,(af 0 Q.l).at sZ rfl,[],ba,int,ao,nn,none,0,none,0,none,0,[],[],[],rfl,a2,ap,rfl,rfl,rfl,?_⟩;exact aH 1 ((W.flat (M:=[])).2 (aH 1<|(W.flat (M:=[])).2 (aH 3<|(W.flat (M:=[])).2 (W.here<|sub.trans al<|aE 1 Q.l))))
 have av:ao=0:=η
 subst av;obtain⟨a8,c6⟩:=a2.Sn rfl;have dG:=ap rfl;obtain⟨dW,e0,e1,e2,_,_⟩:=a8.cR;have e3:=c6.dn.2.1;have c7:=a1.t.1;have c8:=a1.n.1;have c9:g.T=g.terms.length:=rfl;have ca:g.N=g.b9.length:=rfl
 --the cells,as they are read
 have cb:∀(i:Nat) d,F[i]? =some d->∃b,c3=some b/\aj (hp P) (b.add<|ew i 3) (th d):=λi d b=>agf Q b;have cc:∀(i:Nat) d,F[i]? =some d->d.2.2.length<=d.2.1.2/\bf (hp P) d.2.2 d.2.1.1 d.2.2.length:=λi d b=>ahF (Q.pick 2 [1,0]) b
 have e4:F.length<=16640:=by
  have b:=congrArg List.length c4
  grind[VP,List.length_map]
 have bb:W P [ax am [D,D,D],has<|hp X]:=Q.pick 3 [2];obtain⟨e5,e6⟩:∃b,b=hp P:=⟨_,rfl⟩;have az:Gr X P:=aE 1 bb.l;refine⟨_,_,_,_,_,_,_,_,_,_,_,_,_,L.row az,(zp (a1.mono az) b7).mono ?_⟩;rintro _ a9⟨bc,cd,r,ce,cg,ch,rfl,bd,aB⟩;have ci:Gr P a9:=aE 3 aB.l;have ck:Q1 (hp a9) r bc:=Iq aB.l;clear aB;have aK:=a2.one bd;have cl:cN a=cN r:=aK.2.1;obtain rfl:(0:Int)=ch:=aK.2.2.2.2.1;obtain⟨_,aR⟩:=bd.Sn rfl;have be:r.length=a.length:=aK.2.2.2.2.2.symm;refine⟨_,_,_,_,_,_,rfl,ag (W.all a9) λcm e7 bi=>aQ bi rfl (by simp[aO]) λo aS=>?_⟩;have cn:aj (hp o) (Z cm) [T bc r.length cd,O ce,O cg]:=af 0 aS.l;have bl:Gr a9 o:=aS.aS;clear bi aS;have co:=ck.mono bl;have aa:=ci.trans bl;have Y:=az.trans aa;have cp:=aR.LQ a8;have a3:=bb.gr aa
 --all that stands still,in one frame
 have cq:W o [ax am [D,D,D],has<|hp X]:=a3;refine ag (W.all o) λR e8 a3=>⟨_,_,_,cn.cell0<|aE 1 a3.l,?_⟩;rw[be]
 refine⟨λp q=>∃(b:Nat)(e:List (Lq aF))(f:List (Lq Int))(h:E)(k:Nat)(m:E)(n:Nat),p=b/\b<=a.length/\e.length=b/\f.length=b/\e.map (·.2)=List.replicate b (List.replicate g.T ⟨0,0⟩)/\f.map (·.2)=(List.range b).map (L4 g r)/\W q (ax R [T h b k,T m b n,D]::own 1 h b k (e.map cf)::aT (e.map<|bU 2 dE)::own 1 m b n (f.map cf)::aT (f.map<|bU 1 iv)::all o),λb _=>a.length-b.toNat,⟨0,[],[],none,0,none,0,rfl,gu _,rfl,rfl,rfl,rfl,?_⟩,?_⟩
 ·exact(aH 1<|(W.flat (M:=[])).2 (aH 1<|(W.flat (M:=[])).2 a3)).pick 5 [4,0,1,2,3]
 clear a3;rintro _ _ bo⟨b,f,e,p,q,s,t,rfl,e9,ct,cu,cv,cx,C⟩;have cy:Gr o bo:=aE 5 C.l
 refine ae (λav=>?_) λav=>?_
 ·have a4:b<a.length:=G
  obtain⟨k,S⟩:∃h,r[b]? =some h:=⟨_,gn U⟩;obtain⟨cF,ad,aV,_,b0⟩:=co b k S;have cI:=(cp k<|gg S).2;have cR:=FW aR S;refine aI ad a4 ⟨_,_,_,_,_,_,aV.at cy rfl,ag C λa5 cT C=>aQ C rfl (by simp[aO]) λd0 C=>⟨_,_,_,L.c1<|sub.trans Y<|aE 6 C.l,⟨U,rfl,U⟩,?_⟩⟩;rw[je,de,<-c8,<-ca];refine ag C λn b1 C=>?_
  have ab:W b1 (ax n (iv<|List.replicate 0 (-1)++List.replicate (g.N-0) 0)::ax a5 (WX k)::ax R [T p b q,T s b t,D]::own 1 p b q (f.map cf)::aT (f.map<|bU 2 dE)::own 1 s b t (e.map cf)::aT (e.map<|bU 1 iv)::all o):=by
   have h:List.replicate g.N (O 0)=iv (List.replicate 0 (-1)++List.replicate (g.N-0) 0):=by simp[iv]
   rw[<-h];exact C
  refine⟨λh m=>∃j:Nat,h=j/\j<=g.N/\W m (ax n (iv<|List.replicate j (-1)++List.replicate (g.N-j) 0)::ax a5 (WX k)::ax R [T p b q,T s b t,D]::own 1 p b q (f.map cf)::aT (f.map<|bU 2 dE)::own 1 s b t (e.map cf)::aT (e.map<|bU 1 iv)::all o),λh _=>g.N-h.toNat,⟨0,rfl,gu _,ab⟩,?_⟩;clear ab;rintro _ _ d1⟨j,rfl,d2,I⟩
  refine ae (λb2=>?_) λb2=>?_
  ·have h:j<g.N:=G
   refine aI rfl h ?_;rw[bh,kA,ak];refine aX I (by grind[iv]) λm I=>⟨ξ,⟨j+1,V,h,?_⟩,bS h⟩
   have z:(iv<|List.replicate j (-1)++List.replicate (g.N-j) 0).set j (O<|-1)=iv (List.replicate (j+1) (-1)++List.replicate (g.N-(j+1)) 0):=by
    rw[Ik];congr 1;rw[show g.N-j=(g.N-(j+1))+1 from U,oH,o7 _ _ V,oF,lH,List.set_cons_zero,pE,jT];rfl
   grind
  have b3:j=g.N:=G
  rw[b3,lH,List.replicate_zero,jK,<-aa7] at I;refine⟨_,_,_,(af 1 I.l).cell sZ (j:=1) rfl,λm z=>∃h:Nat,m=h/\h<=k.2.2.length/\W z (ax n (iv<|KN g<|k.2.2.take h)::ax a5 (WX k)::ax R [T p b q,T s b t,D]::own 1 p b q (f.map cf)::aT (f.map<|bU 2 dE)::own 1 s b t (e.map cf)::aT (e.map<|bU 1 iv)::all o),λh _=>k.2.2.length-h.toNat,⟨0,rfl,gu _,I⟩,?_⟩;clear I;rintro _ _ d3⟨A,rfl,d4,h⟩
  refine ae (λa7=>?_) λa7=>?_
  ·have m:A<k.2.2.length:=G
   obtain⟨z,bz,b4,b5,b6⟩:=qy b0 m;have a0:k.2.2.take (A+1)=k.2.2.take A++[z]:=by grind[List.take_add_one]
   have a6:∀y∈k.2.2.take A,y.sym≠z.sym:=λy ac=>by
    obtain⟨i,bs⟩:=jR ac
    grind[List.getElem?_eq_some_iff,List.pairwise_iff_getElem]
   obtain⟨bE,ac,_⟩:=dj a8 aR S b4
   refine aI b5 m ⟨_,_,b6.at (aE 7 h.l) rfl,ag h λbN bO h=>aQ h rfl (by simp[aO]) λbP h=>⟨_,(af 0 h.l).cell0 sZ,_,_,_,L.c0<|sub.trans Y<|aE 8 h.l,ae (λbs=>?_) λbs=>?_⟩⟩
   ·have bu:(g.T:Int)<=z.sym:=G
    refine⟨_,(af 0 h.l).cell0 sZ,_,_,_,L.c0<|sub.trans Y<|aE 8 h.l,ξ,_,(af 0 h.l).cell sZ (j:=1) rfl,Z n,rfl,U,U,?_⟩;rw[bh,kA,ak];refine aX (h.pick 2 [1]) (by grind[dq,aa6]) λbT h=>⟨ξ,⟨A+1,V,m,?_⟩,bS m⟩;rw[a0,Nf a6 ac,gD bu,<-Ik,c9,c7];exact h
   ·have bu:¬(g.T:Int)<=z.sym:=G
    refine⟨ξ,⟨A+1,V,m,?_⟩,bS m⟩;rw[a0,Nf a6 ac,gv bu];exact h.tail
  have b4:A=k.2.2.length:=G
  rw[b4,jl,aa8 S] at h;have ac:(L4 g r b).length=g.N:=by simp[L4]
  intro d5 b5;have m:=h.drawn b5;have b6:x.tl=g.T:=U
  refine⟨λz=>Gr o z/\z.cell? (Z R)=some (T p b q),⟨aE 7 m.l,(af 2 m.l).cell0 sZ⟩,_,_,_,λa0 z=>z.2,_,_,_,λa0 z=>L.c0<|sub.trans Y z.1,⟨U,rfl,U⟩,?_⟩;rw[je,VQ,b6];refine ag m λa0 d6 m=>⟨⟨aE 8 m.l,(af 3 m.l).cell0 sZ⟩,ag m λd7 d8 m=>⟨⟨aE 9 m.l,(af 4 m.l).cell0 sZ⟩,?_⟩⟩;have d9:(f.map cf).length=b:=G
  refine(aU (us:=f.map cf) aY (rfl:ai Ty _=.slice _) (rfl:ai Ty _=.slice _) rfl rfl rfl (m.pick 6 [0,5,1,2,3,4]) rfl (by simp[aO]) G U).mono ?_;rintro _ dc⟨bs,bu,rfl,z⟩;refine⟨_,_,_,rfl,⟨aE 9 z.l,(af 5 z.l).cell0 sZ⟩,aX (i:=0) (z.pick 6 [5,0,2,3]) V λdf z=>?_⟩;refine⟨_,_,_,(af 0 z.l).cell sZ (j:=1) rfl,ag z λdk dl z=>?_⟩;refine(aU (us:=e.map cf) aY (rfl:ai Ty _=.slice _) (rfl:ai Ty _=.slice _) rfl rfl rfl (z.pick 7 [0,6,1,2,3,4,5]) rfl (by simp[aO]) G U).mono ?_;rintro _ dn⟨bz,bE,rfl,a6⟩;refine⟨_,_,_,rfl,?_⟩;rw[ak];refine aX (i:=1) (a6.pick 3 [2,0]) V λds a6=>?_;refine⟨ξ,⟨b+1,f++[((some<|Z a0,g.T),List.replicate g.T ⟨0,0⟩)],e++[((some<|Z n,g.N),L4 g r b)],bs,bu,bz,bE,V,a4,G,G,by grind[List.replicate_succ'],by grind[List.range_succ],?_⟩,bS a4⟩;have bN:(f++[((some<|Z a0,g.T),List.replicate g.T (⟨0,0⟩:aF))]).map cf=f.map cf++[T (some<|Z a0) g.T g.T]:=by simp[cf]
  have bO:(f++[((some<|Z a0,g.T),List.replicate g.T (⟨0,0⟩:aF))]).map (bU 2 dE)=f.map (bU 2 dE)++[own 2 (some<|Z a0) g.T g.T (dE<|List.replicate g.T ⟨0,0⟩)]:=by simp[bU]
  have bP:(e++[((some<|Z n,g.N),L4 g r b)]).map cf=e.map cf++[T (some<|Z n) g.N g.N]:=by grind[cf]
  have bT:(e++[((some<|Z n,g.N),L4 g r b)]).map (bU 1 iv)=e.map (bU 1 iv)++[own 1 (some<|Z n) g.N g.N (iv<|L4 g r b)]:=by grind[bU]
  rw[bN,bO,bP,bT];have cz:=a6.pick 7 [3,5,4,6,0,2,1];have cA:=W.snoc<|bq (sz:=2) (l:=g.T) (c:=g.T) (cs:=[]) (by rw[jK];exact cz) (by rw[pI,oF]) (by rw[jK,pI,oF])<|gP _;have cB:=cA.pick 3 [1,2,0];have cC:=W.snoc<|bq (sz:=1) (l:=g.N) (c:=g.N) (cs:=[]) (by rw[jK];exact cB) (by rw[dq,ac,kA]) (by rw[jK,dq,ac,kA])<|gP _;exact cC.pick 5 [2,3,1,4,0]
 have aV:b=a.length:=G
 subst aV;obtain⟨z,b0⟩:∃h,h=n_ g nn a 1:=⟨_,rfl⟩;have ea:z.length=F.length:=G
 have cz:∀{m:cW},m∈z->∃h k:Nat,h<a.length/\k<g.T/\1<=(fe g nn a h k).length/\m=⟨(h:Int),(k:Int),fe g nn a h k⟩:=λ{k} h=>by
  rw[b0] at h;exact pW.1 h
 have eb:∀{i j:Nat}{h k:cW},z[i]? =some h->z[j]? =some k->h.st=k.st->h.tm=k.tm->i=j:=λh k=>by
  rw[b0] at h k;exact O0 h k
 have ed:∀l:List cW,(l.flatMap<|Xo g).length<=l.length:=λl=>by
  induction l with
  |nil=>simp
  |cons c l h=>
   grind[List.length_append,List.length_cons,Xo]
 have bs:W bo (ax R [T p a.length q,T s a.length t,D]::own 1 p a.length q (f.map cf)::aT (f.map<|bU 2 dE)::own 1 s a.length t (e.map cf)::aT (e.map<|bU 1 iv)::own 3 none 0 0 (Hd [])::aT (ER [])::all o):=
  (aH 3<|(W.flat (M:=[])).2 C).pick 7 [2,3,4,5,6,0,1]
 refine⟨λA I=>∃(i:Nat)(k:List (Lq aF))(h:List Hc)(m:E)(n:Nat),A=i/\i<=F.length/\O_ g a.length (z.take i) (k.map (·.2))/\h.map pO=(z.take i).flatMap (Xo g)/\W I (ax R [T p a.length q,T s a.length t,T m h.length n]::own 1 p a.length q (k.map cf)::aT (k.map<|bU 2 dE)::own 1 s a.length t (e.map cf)::aT (e.map<|bU 1 iv)::own 3 m h.length n (Hd h)::aT (ER h)::all o),λh _=>F.length-h.toNat,⟨0,f,[],none,0,rfl,gu _,by grind[O_.zero],rfl,bs⟩,?_⟩;clear C bs cv ct;rintro _ _ bu⟨i,I,A,b1,b2,rfl,ef,a4,b3,m⟩;have cA:Gr o bu:=aE 7 m.l;have cB:I.length=a.length:=by have:=a4.1;grind
 refine ae (λaV=>?_) λaV=>?_
 rotate_left
 ·have h:i=F.length:=G
  subst h;rw[jy U,b0] at a4 b3;have k:=W.on (N:=[_,_,_,_,_,_,_]) m cq.l;refine⟨_,_,_,_,_,_,_,_,_,(af 0 m.l).at sZ rfl,?_⟩;have n:W bu (ax am [D,D,D]::own 1 p a.length q (I.map cf)::aT (I.map<|bU 2 dE)::own 1 s a.length t (e.map cf)::aT (e.map<|bU 1 iv)::own 3 b1 A.length b2 (Hd A)::aT (ER A)::[has (hp X)]):=k.pick 8 [7,1,2,3,4,5,6];refine aQ n rfl (by simp[aO]) λa0 m=>?_;refine⟨_,_,_,_,_,_,_,_,_,(af 0 m.l).at sZ rfl,?_⟩;refine⟨a,ba,int,0,nn,p,q,s,t,b1,b2,I,e,A,G,a2,ap,a4.all,by rw[cx,adK cl];exact congrArg (λS=>(List.range S).map (L4 g r)) be.symm,b3,?_⟩;unfold AZ;rw[cB,cu];exact W.on (N:=[_,_,_,_,_,_]) m.tail (bM al)
 have a0:i<F.length:=G
 obtain⟨d,bz⟩:∃d,F[i]? =some d:=⟨_,gn a0⟩;have cC:z[i]? =some (pO d):=G
 obtain⟨h,k,cF,cI,_,a5⟩:=cz<|gg cC;have bE:d.1.1=(h:Int):=congrArg cW.st a5;have bN:d.1.2=(k:Int):=congrArg cW.tm a5;have bO:d.2.2=fe g nn a h k:=congrArg cW.acts a5;have cR:z.take (i+1)=z.take i++[pO d]:=by grind[List.take_add_one]
 have eg:A.length<=16640:=G
 have cT:∀c∈z.take i,¬(c.st=(h:Int)/\c.tm=(k:Int)):=λc n S=>by grind[List.getElem?_of_mem]
 obtain⟨S,d0⟩:∃n,I[h]? =some n:=⟨_,gn U⟩;have bP:(I.map (·.2))[h]? =some S.2:=G
 have ei:S.2.length=g.T:=(a4.2 h S.2 bP).1;have ab:=a4.put (c:=pO d) bP bE bN cT;rw[<-cR] at ab;have d1:(z.take<|i+1).flatMap (Xo g)=(z.take i).flatMap (Xo g)++Xo g (pO d):=G
 obtain⟨d2,d3⟩:=cc i d bz;obtain⟨d4,d5,d6⟩:=cb i d bz;have d7:aj (hp P) (d4.add<|ew i 3) [O (h:Int),O (k:Int),T d.2.1.1 d.2.2.length d.2.1.2]:=by rw[<-bE,<-bN];exact d6
 have bQ:RP g.prods.length d.2.2:=by grind[aa1]
 refine aI d5 a0 ⟨_,_,_,_,_,d7.at (aa.trans cA) rfl,ag m λej ek m=>aQ m rfl (by simp[aO]) λel m=>⟨_,_,_,_,_,_,_,_,_,_,_,_,_,L.row<|sub.trans Y<|aE 8 m.l,_,_,_,_,_,(af 0 m.l).at sZ rfl,(Xs a8 (a1.mono<|sub.trans Y<|aE 8 m.l) (d3.mono<|sub.trans aa<|aE 8 m.l) d2 bQ cI).mono ?_⟩⟩;obtain⟨l,b4⟩:∃l,l=gl g k d.2.2:=⟨_,rfl⟩;rw[<-b4];have d8:(I.set h (S.1,S.2.set k (Et l))).map (·.2)=(I.map (·.2)).set h (S.2.set k (Et<|gl g k (pO d).acts)):=by grind[List.map_set]
 rw[<-d8] at ab;rintro _ em⟨ac,ad,rfl,bT⟩;have a6:=W.fy bT m.l;clear bT;refine⟨_,_,_,_,_,rfl,ag a6 λen eo a6=>aQ a6 rfl (by simp[aO]) λep a6=>?_⟩;intro d9 dc;have n:=a6.drawn dc;obtain⟨er,df,dk⟩:=cV (n.pick 5 [4]) (j:=h) (v:=cf S) G;refine⟨λb5=>d9=b5,rfl,_,_,_,by rintro _ rfl;exact(af 3 n.l).cell0 sZ,_,by rintro _ rfl;exact(af 2 n.l).cell0 sZ,au df cF ⟨_,_,_,by rintro _ rfl;exact dk,_,by rintro _ rfl;exact(af 2 n.l).cell sZ (j:=1) rfl,_,_,by rintro _ rfl;exact(af 0 n.l).at sZ rfl,?_⟩⟩;refine ahG (y:=Et l) d0 U (n.pick 6 [4,5,1,2,3]) λes n=>?_
 refine ae (λb5=>?_) λb5=>?_
 ·have dl:2<=l.1.length:=by
   have:(0:Int)<((qQ l.1).length:Int):=gZ b5
   grind[qQ]
  have dn:qQ l.1=l.1:=by unfold qQ;grind
  rw[dn] at n ⊢
  have ds:Xo g (pO d)=[⟨(h:Int),(k:Int),l.1⟩]:=by
   unfold Xo;rw[a5]
   show(if 2<=(gl g (k:Int).toNat (fe g nn a h k)).1.length then _ else _)=_
   rw[je,<-bO,<-b4,gD dl]
  refine⟨_,_,_,(af 4 n.l).cell sZ (j:=2) rfl,_,(af 3 n.l).cell0 sZ,_,(af 3 n.l).cell sZ (j:=1) rfl,ag n λet eu n=>?_⟩;refine(aU (us:=Hd A) aY (rfl:ai Ty _=.slice _) (rfl:ai Ty _=.slice _) rfl rfl rfl (n.pick 9 [0,8,1,2,3,5,6,7]) rfl (by simp[aO]) G U).mono ?_;rintro _ ey⟨dv,dx,rfl,b6⟩;refine⟨_,_,_,rfl,?_⟩;rw[ak];refine aX (i:=2) (b6.pick 8 [5,0,2,3,4,6,7]) V λez b6=>?_;refine⟨ξ,⟨i+1,_,A++[(((h:Int),(k:Int)),((ac,ad),l.1))],dv,dx,V,a0,ab,by rw[jI,b3,d1,ds];rfl,?_⟩,bS a0⟩;have dy:ER (A++[(((h:Int),(k:Int)),((ac,ad),l.1))])=ER A++[own 2 ac l.1.length ad (dE l.1)]:=by unfold ER;rw[jI];rfl
  rw[dy,O5,show(A++[(((h:Int),(k:Int)),((ac,ad),l.1))]).length=A.length+1 from V];have dA:=W.snoc<|b6.pick 8 [4,7,0,2,3,5,6,1];exact dA.pick 7 [1,2,3,4,5,6,0]
 ·have b6:¬2<=l.1.length:=by
   intro dl;have:¬(0:Int)<((qQ l.1).length:Int):=hY b5;unfold qQ at this
   grind
  have dl:Xo g (pO d)=[]:=by
   unfold Xo;rw[a5]
   show(if 2<=(gl g (k:Int).toNat (fe g nn a h k)).1.length then _ else _)=_
   rw[je,<-bO,<-b4,gv b6]
  refine⟨ξ,⟨i+1,_,A,b1,b2,V,a0,ab,G,?_⟩,bS a0⟩;exact n.pick 9 [4,0,1,5,6,7,8]
end
def ahP(g:B)(e:Int)(nn:At):Prop:=(¬bL g/\e=1/\nn=[])\/(bL g/\e=0/\VE g nn)
theorem V7{w:ga}{L:List aG}{k n:Nat}{nn:At}(h:W w (ax k (bv nn)::L))(a:nn.length=n):W w (own 1 (some ⟨k,0,none⟩) n n (bv nn)::L):=
 bq (cs:=[]) (vs:=bv nn) η (by rw[m_,a,kA]) (by rw[jK,m_,a,kA]) (gP _)
section
variable{w:ga}{L:List aG}{g:B}{x:GA}{a a2:E}{l l2 c c2:Nat}{bs:At}
theorem XC(a:gR (hp w) g x)(d:jq g)(r:ec (hp w)):ρ 83 [.agg ⟨x.cells⟩] w λI L=>∃(o:E)(n c:Nat)(e:Int)(nn:At),I=.tuple #[T o n c,O e]/\nn.length=n/\ahP g e nn/\W L (own 1 o n c (bv nn)::all w):=by
 refine FT ?_;refine dZ a λa9 i p a f=>?_;refine⟨_,_,_,_,_,_,_,_,_,_,_,_,_,f.row sZ,(NX (x:=x) a d).mono ?_⟩;rintro _ s⟨⟨aa,rfl,N⟩,j⟩
 refine⟨_,rfl,ae (λP=>?_) λP=>?_⟩
 ·refine⟨_,_,_,_,_,_,_,_,_,_,_,_,_,f.row j,(uy (x:=x) (a.mono j) d).mono ?_⟩;rintro _ t⟨⟨ab,rfl,Q⟩,R⟩;have v:Gr i t:=j.trans R
  refine⟨_,rfl,ae (λS=>?_) λS=>?_⟩
  ·have b:¬bL g:=by
    rintro(h|h)
    ·simp_all
    simp_all
   exact⟨_,_,_,_,[],rfl,rfl,.inl ⟨b,rfl,rfl⟩,aH 1<|bM<|p.trans v⟩
  have k:bL g:=.inr<|Q.1 η;obtain⟨ac,X,Y,ad,al,am⟩:=EP k;intro b a0;have a1:Gr t b:=Gr.drawn a0;have h:Gr i b:=v.trans a1;have y:Gr w b:=p.trans h;refine⟨λw=>Gr b w,Gr.refl _,_,_,_,_,_,_,_,_,_,_,_,_,_,λw l=>f.row<|h.trans l,_,_,_,_,_,_,_,_,_,_,_,_,_,λw l=>f.row<|h.trans l,(wD (x:=x) (a.mono h) d k).mono ?_⟩;rintro _ a2⟨an,ao,rfl,a3,z⟩;have q:Gr b a2:=z.aS;refine⟨_,_,rfl,q,(Kw (x:=x) (a.mono<|h.trans q) d k z.fm a3).mono ?_⟩;rintro _ a4⟨ap,a5,rfl,l,A⟩;have m:Gr b a4:=q.trans A.aS;refine⟨_,_,rfl,m,(AB A.fm l.1 Y X<|dX.mono (y.trans m) r).mono ?_⟩;rintro _ C⟨a6,rfl,F⟩;have a7:Gr b C:=m.trans F.aS;have a8:W C (ax a6 (bv<|a5.drop g.T)::all w):=F.fy<|bM<|y.trans m;exact⟨_,_,_,rfl,a7,_,_,_,_,_,rfl,l.b9.1,.inr ⟨k,rfl,l.b9⟩,V7 a8 l.b9.1⟩
 ·have k:bL g:=.inl<|N.1 η;obtain⟨a5,C,F,a6,a7,a8⟩:=EP k;have Q:Gr i s:=j;intro b R;have S:Gr s b:=Gr.drawn R;have h:Gr i b:=Q.trans S;have t:Gr w b:=p.trans h;refine⟨λw=>Gr b w,Gr.refl _,_,_,_,_,_,_,_,_,_,_,_,_,_,λw l=>f.row<|h.trans l,_,_,_,_,_,_,_,_,_,_,_,_,_,λw l=>f.row<|h.trans l,(wD (x:=x) (a.mono h) d k).mono ?_⟩;rintro _ X⟨ab,ac,rfl,Y,v⟩;have q:Gr b X:=v.aS;refine⟨_,_,rfl,q,(Kw (x:=x) (a.mono<|h.trans q) d k v.fm Y).mono ?_⟩;rintro _ a0⟨ad,a1,rfl,l,y⟩;have m:Gr b a0:=q.trans y.aS;refine⟨_,_,rfl,m,(AB y.fm l.1 F C<|dX.mono (t.trans m) r).mono ?_⟩;rintro _ z⟨a2,rfl,A⟩;have a3:Gr b z:=m.trans A.aS;have a4:W z (ax a2 (bv<|a1.drop g.T)::all w):=A.fy<|bM<|t.trans m;exact⟨_,_,_,rfl,a3,_,_,_,_,_,rfl,l.b9.1,.inr ⟨k,rfl,l.b9⟩,V7 a4 l.b9.1⟩
end
theorem abl{g:B}{pds uns:At}{p:aD}:wV g pds uns p=true↔bt uns (p.left.toNat-g.T)=true/\Kx g pds p.right:=by simp[wV,Kx]
theorem EK{α β:Type}{f:α->β}{l:List α}(c:∀a∈l,∀b∈l,f a=f b->a=b)(h:l.Nodup):(l.map f).Nodup:=by
 unfold List.Nodup at*;rw[lF];exact h.imp_of_mem λ{a b} d e g i=>g (c a d b e i)
theorem V8{uns:At}{n k:Nat}(d:k<n)(e:bt uns k=true):∃i,(dJ n (bt uns))[i]? =some k/\i=du k (bt uns)/\i<du n (bt uns):=by
 have a:k∈dJ n (bt uns):=by simp_all[dJ]
 obtain⟨i,f,g⟩:=List.mem_iff_getElem.1 a;have b:(dJ n<|bt uns)[i]? =some k:=η
 obtain⟨_,_,c⟩:=Ap b;have h:=congrArg List.length c
 grind[List.length_take,mZ]
theorem V9{uns:At}{n i:Nat}(hi:i<du n (bt uns)):∃k,k<n/\bt uns k=true/\du k (bt uns)=i:=by
 have a:i<(dJ n<|bt uns).length:=by simp_all[mZ]
 obtain⟨c,d,b⟩:=Ap<|gn a;have e:=congrArg List.length b
 grind[List.length_take,mZ]
theorem Us.pd{g:B}(a:kE g){s:Int}(h:Us g s):Pd g s:=by
 cases h with
 |start h=>omega
 |zero b _=>exact absurd b.1 (G3 a).2.2.2
 |pr d s hp _ b c=>exact b s c
theorem Us.nt{g:B}(b:kE g){s:Int}(h:Pd g s)(c:(g.T:Int)<=s):∃p∈g.prods,p.left=s/\n9 g p.right:=by
 cases h with
 |tm a d=>omega
 |mk p hp a=>exact⟨p,hp,rfl,a⟩
section
variable{g:B}{pds uns:At}
theorem xn:(fq g pds uns).N=1+du g.N (bt uns):=by
 show(fh g uns).length=_
 grind[fh,List.length_cons,List.length_map,mZ]
theorem Pl(a:VE g uns){s:Int}(b:(g.T:Int)<=s)(h:Us g s):fE g.T uns s=(g.T:Int)+1+(du (s.toNat-g.T) (bt uns):Int)/\bt uns (s.toNat-g.T)=true:=by
 have c:bt uns (s.toNat-g.T)=true:=(a.2 _).2 G;unfold fE
 grind
theorem Ug(a:bL g)(b:VE g uns){s:Int}(c:(g.T:Int)<=s)(h:Us g s):(g.T:Int)+1<=fE g.T uns s/\fE g.T uns s<(g.T:Int)+1+du g.N (bt uns):=by
 obtain⟨e,d⟩:=Pl b c h;have:=(h.in a).2;obtain⟨f,_,i,j⟩:=V8 (n:=g.N) (k:=s.toNat-g.T) U d;omega
theorem IF(a:Pu g pds)(b:VE g uns)(c:Q8 g){p:aD}(hp:p∈g.prods):wV g pds uns p=true↔Us g p.left/\n9 g p.right:=by
 obtain⟨d,e⟩:=c p hp;rw[abl,b.2,xd d.1,a.fit e]
theorem KX(c:kE g)(hp:Pd g g.start)(l:Pu g pds)(a:VE g uns):aw (fq g pds uns):=by
 have d:bL g:=.inl c;obtain⟨e,R,S,X,Y,a0⟩:=EP d;obtain⟨m,a1⟩:=u_ d;obtain⟨⟨r,a2,s,a3,a4,t,v,w,a5,a6⟩,⟨a7,a8,x,a9,aa,ab⟩,_⟩:=id c;have ac:g.N=g.b9.length:=rfl;have y:Us g g.start:=.start hp;have ad:=Ug d a m y;have al:du g.N (bt uns)<=g.N:=Fj _ _;have am:0<du g.N (bt uns):=U
 have f:=xn (g:=g) (pds:=pds) (uns:=uns);have an:(fq g pds uns).b9.length=1+du g.N (bt uns):=f
 have h:∀i,i∈(fq g pds uns).prods.drop 1↔∃b∈g.prods,(Us g b.left/\n9 g b.right)/\i=jh g uns b:=λi=>by
  show i∈lD g pds uns g.prods↔_
  unfold lD;rw[iz]
  constructor
  ·rintro⟨j,b,rfl⟩;rw[kh] at b;exact⟨j,b.1,(IF l a e b.1).1 b.2,rfl⟩
  ·rintro⟨j,b,o,rfl⟩;exact⟨j,kh.2 ⟨b,(IF l a e b).2 o⟩,rfl⟩
 have ao:∀{n:Nat},n=(lD g pds uns g.prods).length->n<=g.prods.length:=λb=>by simp_all[lD,mr]
 have ap:∀k,k<g.N->g.b9[k]? =some (BF g k):=λk b=>by simp_all[BF]
 refine⟨rfl,⟨r,U,s,U,by grind[fq],t,v,w,?_,?_⟩,⟨?_,?_,?_,?_,?_,?_⟩,⟨mj g uns,rfl,rfl,rfl,rfl⟩⟩
 ·show((dJ g.N<|bt uns).map (BF g)).Nodup
  have j:(dJ g.N<|bt uns).Nodup:=by unfold dJ;exact List.nodup_range.filter _
  refine EK ?_ j;intro o b p i q;unfold dJ at b i;rw[kh,jY] at b i
  grind[List.getElem?_eq_getElem,Option.some.inj,List.pairwise_iff_getElem,Nat.lt_trichotomy,absurd]
 ·intro b i;have j:b∈(dJ g.N<|bt uns).map (BF g):=i;obtain⟨k,o,rfl⟩:=iz.1 j
  grind[dJ,List.mem_of_getElem?]
 ·obtain⟨b,i,o,j⟩:=Us.nt c hp m;have:jh g uns b∈(fq g pds uns).prods.drop 1:=(h _).2 ⟨b,i,⟨η,j⟩,rfl⟩
  grind
 ·show(mj g uns::lD g pds uns g.prods).length<=96+1
  grind
 ·intro z A;obtain⟨i,o,⟨p,C⟩,rfl⟩:=(h z).1 A;obtain⟨F,av⟩:=e i o;have I:=Ug d a F.1 p;have j:=x i η
  refine⟨⟨I.1,?_,j.1.2.2.1,j.1.2.2.2⟩,λaz L=>?_⟩
  ·show fE g.T uns i.left<((fq g pds uns).T:Int)+(fq g pds uns).N
   rw[f];have:(fq g pds uns).T=g.T:=rfl;omega
  ·obtain⟨b,q,rfl⟩:=iz.1 L;have N:=j.2 b q;have P:(fq g pds uns).T=g.T:=rfl;unfold gI;rw[f,P]
   by_cases aB:b<(g.T:Int)
   ·have:fE g.T uns b=b:=by simp_all[fE]
    rw[this];exact⟨N.1,U,U⟩
   ·have Q:Us g b:=.pr i b o p C q;have:=Ug d a U Q;omega
 ·show((dB<|((fq g pds uns).prods.drop 1).map aD.left).length:Int)=_
  have i:∀j,j∈dB (((fq g pds uns).prods.drop 1).map aD.left)↔j∈(List.range<|du g.N<|bt uns).map λ(o:Nat)=>(g.T:Int)+1+(o:Int):=λN=>by
   rw[Ju,iz,iz]
   constructor
   ·rintro⟨p,q,rfl⟩;obtain⟨b,z,⟨A,P⟩,rfl⟩:=(h p).1 q;have C:=(e b z).1;obtain⟨Q,F⟩:=Pl a C.1 A;obtain⟨I,_,av,L⟩:=V8 (n:=g.N) (k:=b.left.toNat-g.T) U F;exact⟨I,jY.2 L,by show _=fE g.T uns b.left;omega⟩
   ·rintro⟨F,p,rfl⟩;obtain⟨k,I,q,L⟩:=V9<|jY.1 p;have z:Us g ((g.T+k:Nat):Int):=(a.2 k).1 q;obtain⟨b,A,P,C⟩:=Us.nt c (z.pd c) U;refine⟨jh g uns b,(h _).2 ⟨b,A,⟨η,C⟩,rfl⟩,?_⟩
    show fE g.T uns b.left=_
    grind[Pl]
  have b:((List.range<|du g.N<|bt uns).map λ(j:Nat)=>(g.T:Int)+1+(j:Int)).Nodup:=
   EK (λj _ o _ p=>U) List.nodup_range
  have p:=ux (NW _) λj o=>(i j).1 o;have q:=ux b λj o=>(i j).2 o
  grind
 ·show(g.T:Int)+(1:Nat)<=fE g.T uns g.start
  omega
 ·show fE g.T uns g.start<((fq g pds uns).T:Int)+(fq g pds uns).N
  rw[f];have:(fq g pds uns).T=g.T:=rfl;omega
theorem agF(b:kE g)(c:jq g):jq (fq g pds uns):=by
 obtain⟨o,p,q,r,s,t⟩:=EP<|.inl b;obtain⟨d,v,e,w,f,h,x⟩:=id c;have y:du g.N (bt uns)<=g.N:=Fj _ _;have z:(fq g pds uns).b9.length=1+du g.N (bt uns):=xn
 refine⟨d,U,e,?_,f,λi j=>?_,λk hp=>?_⟩
 ·show(mj g uns::lD g pds uns g.prods).length*40<=_
  grind[lD,List.length_map,List.length_filter_le,List.length_cons]
 ·have l:i∈ByteArray.empty::(dJ g.N<|bt uns).map (BF g):=j
  rcases jb.1 l with rfl|m
  ·simp
  ·obtain⟨n,a,rfl⟩:=iz.1 m;unfold dJ at a;rw[kh,jY] at a;refine h _ ?_;have A:n<g.b9.length:=a.1
   simp_all[BF]
 ·have hp:k∈mj g uns::lD g pds uns g.prods:=hp
  rcases jb.1 hp with rfl|hp
  ·show(1:Nat)<=_;omega
  ·unfold lD at hp;obtain⟨a,l,rfl⟩:=iz.1 hp;rw[kh] at l
   show(a.right.map _).length<=_
   simp_all
end
section
variable{g:B}{pds uns:At}
theorem agG{a:Nat}{s:Int}(h:s<(a:Int)):fE a uns s=s:=by simp_all[fE]
theorem Nj(a:Pu g pds)(b:VE g uns)(c:Q8 g){p:aD}(hp:p∈g.prods)(d:Us g p.left)(e:n9 g p.right):jh g uns p∈(fq g pds uns).prods:=by
 refine ou _ ?_
 show jh g uns p∈lD g pds uns g.prods
 unfold lD;exact iz.2 ⟨p,kh.2 ⟨hp,(IF a b c hp).2 ⟨d,e⟩⟩,rfl⟩
theorem KY(f:Pu g pds)(i:VE g uns)(b:Q8 g){s:Int}(h:Pd g s):(s<(g.T:Int)\/Us g s)->Pd (fq g pds uns) (fE g.T uns s):=by
 induction h with
 |tm a c=>intro _;rw[agG U];exact .tm a c
 |mk a hp c j=>
  intro k;have m:=(b a hp).1;have d:Us g a.left:=k.resolve_left U;refine .mk (jh g uns a) (Nj f i b hp d c) λn l=>?_;obtain⟨s,e,rfl⟩:=iz.1 l;exact j s e (.inr<|.pr a s hp d c e)
theorem agH(k:kE g)(a:Pu g pds)(b:VE g uns)(c:Q8 g){s:Int}(h:Us g s):Us (fq g pds uns) (fE g.T uns s):=by
 induction h with
 |start hp=>exact Us.start (g:=fq g pds uns) (KY a b c hp<|.inr<|.start hp)
 |zero d _=>exact absurd d.1 (G3 k).2.2.2
 |pr e s hp f d l m=>
  refine .pr (jh g uns e) _ (Nj a b c hp f d) m (λo n=>?_)<|iz.2 ⟨s,l,rfl⟩;obtain⟨i,j,rfl⟩:=iz.1 n;exact KY a b c (d i j) (.inr<|.pr e i hp f d j)
theorem aea(d:kE g)(e:Pu g pds)(b:VE g uns)(f:Q8 g){i:Nat}(m:1<=i)(j:i<(fq g pds uns).N):Us (fq g pds uns) (((fq g pds uns).T+i:Nat):Int)/\Pd (fq g pds uns) (((fq g pds uns).T+i:Nat):Int):=by
 rw[xn] at j;obtain⟨a,o,k,l⟩:=V9 (n:=g.N) (uns:=uns) (i:=i-1) U;have c:Us g ((g.T+a:Nat):Int):=(b.2 a).1 k
 have h:fE g.T uns ((g.T+a:Nat):Int)=(((fq g pds uns).T+i:Nat):Int):=by
  rw[(Pl b U c).1,show((g.T+a:Nat):Int).toNat-g.T=a from U,l];have:(fq g pds uns).T=g.T:=rfl;rw[this];omega
 exact⟨h▸agH d e b f c,h▸KY e b f (c.pd d) (.inr c)⟩
end
inductive Ia (ps:List aD) (st:Int) (row:Az):Nat->aD->Nat->Nat->Prop
 |init (p:aD):p∈ps->p.left=st->Ia ps st row 0 p 0 0
 |pred (k:Nat) (p:aD) (d f:Nat) (q:aD):Ia ps st row k p d f->p.right[d]? =some q.left->q∈ps->Ia ps st row k q 0 k
 |scan (k:Nat) (p:aD) (d f:Nat) (a:Int):Ia ps st row k p d f->p.right[d]? =some a->row[k]? =some a->Ia ps st row (k+1) p (d+1) f
 |comp (k:Nat) (p:aD) (f:Nat) (q:aD) (d f':Nat):Ia ps st row k p p.right.length f->Ia ps st row f q d f'->q.right[d]? =some p.left->Ia ps st row k q (d+1) f'
def xu(ps:List aD)(st:Int)(row:Az):Prop:=∃p,p.left=st/\Ia ps st row row.length p p.right.length 0
section
variable{ps:List aD}{st:Int}{row:Az}
theorem Ia.mem{k d f:Nat}{p:aD}(h:Ia ps st row k p d f):p∈ps:=by
 induction h with
 |init p h _=>exact h
 |pred k p d f a _ _ h _=>exact h
 |scan k p d f b _ _ _ a=>exact a
 |comp k p f b d c _ _ _ _ a=>exact a
theorem Ia.dot{k d f:Nat}{p:aD}(h:Ia ps st row k p d f):d<=p.right.length/\f<=k:=by
 induction h with
 |init p _ _=>exact⟨gu _,gP _⟩
 |pred k p d f a _ _ _ _=>exact⟨gu _,gP _⟩
 |scan k p d f a _ h _ b=>exact⟨by have:=(gJ.1 h).1;omega,U⟩
 |comp k p f a d b _ _ h c e=>exact⟨by have:=(gJ.1 h).1;omega,U⟩
theorem Ia.prev{k d f:Nat}{p:aD}(h:Ia ps st row k p d f):∀j,j<=k->∃p d f,Ia ps st row j p d f:=by
  induction h with
  | init p h1 h2 => intro j hj;have:j=0:=U
                    subst this;exact⟨_,_,_,.init p h1 h2⟩
  |pred k p d f q _ _ _ ih=>exact ih
  |scan k p d f a h1 h2 h3 ih=>
    intro j hj
    by_cases e:j=k+1
    · subst e;exact⟨_,_,_,.scan k p d f a h1 h2 h3⟩
    · exact ih j U
  |comp k p f q d f' _ _ _ ih1 _=>exact ih1
end
section
variable{g:B}{pds uns:At}{row:Az}
def GH(g:B)(pds:At):List aD:=g.prods.filter λp=>p.right.all λs=>decide (s<(g.T:Int))||bt pds (s.toNat-g.T)
theorem V_(a:Q8 g)(b:Pu g pds){p:aD}:p∈GH g pds↔p∈g.prods/\n9 g p.right:=by
 unfold GH;rw[kh];refine and_congr_right λhp=>?_;rw[<-b.fit (a p hp).2,mE];simp[Kx]
theorem aeb(h:kE g)(hp:Pd g g.start)(a:Pu g pds)(b:VE g uns){d:At}(m:Pu (fq g pds uns) d):GH (fq g pds uns) d=(fq g pds uns).prods:=by
 have n:bL g:=.inl h;obtain⟨e,w,x,y,z,A⟩:=EP n;have o:=KX h hp a b;obtain⟨p,_⟩:=EP<|.inr o;unfold GH;rw[List.filter_eq_self];intro f q;have C:f∈GH (fq g pds uns) d↔_:=V_ p m
 have F:n9 (fq g pds uns) f.right:=by
  have r:f∈mj g uns::lD g pds uns g.prods:=q
  rcases jb.1 r with rfl|i
  ·intro j k;have c:j∈[fE g.T uns g.start]:=k;rw[jA] at c;rw[c];exact KY a b e hp (.inr<|.start hp)
  ·unfold lD at i;obtain⟨s,c,rfl⟩:=iz.1 i;rw[kh] at c;obtain⟨t,j⟩:=(IF a b e c.1).1 c.2;intro I v;obtain⟨k,l,rfl⟩:=iz.1 v;exact KY a b e (j k l) (.inr<|.pr s k c.1 t j l)
 simp_all[GH]
end
def GI(row:Az)(f k:Nat):List Tk:=(List.range' f (k-f)).map λi=>(row.getD i 0,i)
section
variable{g:B}{row:Az}
theorem Pm{f m k:Nat}(a:f<=m)(b:m<=k):GI row f m++GI row m k=GI row f k:=by
 unfold GI;rw[<-jI];congr 1;have:=List.range'_append (s:=f) (m:=m-f) (n:=k-m) (step:=1);rw[show f+1*(m-f)=m by omega] at this;rw[this];congr 1;omega
theorem EL{f k:Nat}:(GI row f k).length=k-f:=by simp[GI]
theorem Sb{f:Nat}:GI row f f=[]:=by simp[GI]
theorem Wa{k:Nat}{a:Int}(h:row[k]? =some a):GI row k (k+1)=[(a,k)]:=by
 unfold GI;rw[show k+1-k=1 by omega];simp[h]
theorem Wb{f m k:Nat}{y z:List Tk}(a:z.length=m-f)(b:f<=m)(c:m<=k)(h:z++y=GI row f k):z=GI row f m/\y=GI row m k:=by
 rw[<-Pm b c] at h;exact List.append_inj h (by rw[a,EL])
theorem ahQ(e:∀a∈row,0<=a/\a<(g.T:Int)){st:Int}{k d f:Nat}{p:aD}(h:Ia g.prods st row k p d f):f<=k/\∃l,Dv g l (p.right.take d) (GI row f k):=by
 induction h with
 |init p _ _=>exact⟨gP _,[],by rw[Sb];exact .nil⟩
 |pred k p d f b _ _ _ _=>exact⟨gP _,[],by rw[Sb];exact .nil⟩
 |scan k p d f a _ c b i=>
  obtain⟨j,l,m⟩:=i;refine⟨U,l++[.lf a k],?_⟩;rw[<-Pm j (Nat.le_succ k),Wa b,iw,c];have:=e a<|gg b;exact m.app (.lf a k _ _ _ this.1 this.2 .nil)
 |comp k p f t d v hp w i j m=>
  obtain⟨n,l,b⟩:=j;obtain⟨o,q,r⟩:=m;obtain⟨c,s⟩:=jR hp.mem;rw[jl] at b;refine⟨U,q++[.nd c l],?_⟩;rw[<-Pm o n,iw,i];refine r.app ?_;have:=Dv.nd c p l [] [] _ [] s b .nil;simpa using this
theorem ahR{st:Int}{l:List Tr}{r:Az}{y:List Tk}(h:Dv g l r y):∀{k k' d f:Nat}{p:aD}{r':Az},Ia g.prods st row k p d f->p.right.drop d=r++r'->k<=k'->k'<=row.length->y=GI row k k'->Ia g.prods st row k' p (d+l.length) f:=by
 induction h with
 |nil=>
  intro k k' d f p r' a _ c e b;have:=congrArg List.length b;rw[EL] at this;have:k'=k:=by simp at this;omega
  subst this;exact a
 |lf a c l r y _ _ _ o=>
  intro k k' d f p r' q e x s i;have j:=congrArg List.length i;rw[EL] at j;simp only[lQ] at j;have n:row[k]? =some row[k]:=gn U;have t:[(a,c)]++y=GI row k k':=i;obtain⟨b,v⟩:=Wb (m:=k+1) V U U t;rw[Wa n] at b;simp only[List.cons.injEq,Prod.mk.injEq,and_true] at b
  have w:p.right[d]? =some a:=by
   have:=congrArg (·[0]?) e;simpa[kI] using this
  have:=o (.scan k p d f a q w (by rw[n,b.1])) (by rw[<-o9,e];rfl) U s v;rwa [show d+1+l.length=d+(Tr.lf a c::l).length by simp;omega] at this
 |nd s a b l r c y t _ _ v w=>
  intro k k' d f p r' e i I x j;have n:=congrArg List.length j;rw[EL] at n;simp only[jw] at n;obtain⟨z,A⟩:=Wb (m:=k+c.length) U U U j
  have o:p.right[d]? =some a.left:=by
   have:=congrArg (·[0]?) i;simpa[kI] using this
  have C:=gg t;have q:=v (r':=[]) (.pred k p d f a e o C) V (Nat.le_add_right _ _) U z
  have F:b.length=a.right.length:=by
   have:Dv g b a.right c:=by assumption
   exact this.len
  rw[lS,F] at q;have:=w (.comp _ a k p d f q e o) (by rw[<-o9,i];rfl) U x A;rwa [show d+1+l.length=d+(Tr.nd s b::l).length by simp;omega] at this
theorem Dv.one{t:Tr}{s:Int}{y:List Tk}(h:Dv g [t] [s] y):(∃k,t=.lf s k/\y=[(s,k)]/\0<=s/\s<(g.T:Int))\/∃n p ks,t=.nd n ks/\g.prods[n]? =some p/\p.left=s/\Dv g ks p.right y:=by
 generalize a:[t]=f at h;generalize b:[s]=i at h;cases h with
 |nil=>cases a
 |lf j k l m y c d e=>
  cases a;cases b;cases e;exact .inl ⟨k,rfl,rfl,c,d⟩
 |nd n p ks j l m y c d e=>
  cases a;cases b;cases e;exact .inr ⟨n,p,ks,rfl,c,rfl,by simpa using d⟩
theorem agJ(f:aw g)(h:∀a∈row,0<=a/\a<(g.T:Int)):xu g.prods g.start row↔∃t,Dv g [t] [g.start] (GI row 0 row.length):=by
 constructor
 ·rintro⟨i,j,b⟩;obtain⟨_,c,d⟩:=ahQ h b;rw[jl] at d;obtain⟨e,k⟩:=jR b.mem;refine⟨.nd e c,?_⟩;have:=Dv.nd e i c [] [] _ [] k d .nil;rw[j,jK] at this;exact this
 ·rintro⟨t,e⟩;obtain⟨_,_,i,_⟩:=f
  rcases e.one with⟨k,_,_,l,m⟩|⟨n,b,o,rfl,j,c,d⟩
  ·have:=i.2.2.2.2.1;omega
  ·have:=ahR (r':=[]) d (Ia.init (st:=g.start) (row:=row) b (gg j) c) V (gu _) (gP _) rfl;rw[lS,d.len] at this;exact⟨b,c,this⟩
end
section
variable{g:B}{nn:At}{ss:List SQ}{A:Nat->Int->aF}{i:Nat->Int->Nat}
theorem aec{l:List xO}{k:Nat}(h:A (bV l) 0=⟨3,0⟩):Kz g A i (l,[((0:Int),k)])=none:=by
 unfold Kz;simp[h]
end
section
variable{g:B}{nn:At}{ss:List SQ}{p:dO}
theorem IG{q t:Nat}(h:(oU g nn ss q t).kind≠0)(a:(oU g nn ss q t).kind≠4):oU g nn ss q t∈fe g nn ss q t:=by
 unfold oU at h a ⊢;have b:=λx=>Nc (g:=g) (t:=t) (l:=fe g nn ss q t) (x:=x);revert h a b;generalize gl g t (fe g nn ss q t)=c;intro h d e;obtain⟨l,f⟩:=c;cases l with
 |nil=>cases f<;>simp[Et] at h d
 |cons i l=>exact e i (List.mem_cons_self ..)
theorem GJ{q t:Nat}{x:aF}(h:x∈fe g nn ss q t):(x.kind=1/\dt ss q (t:Int)=some x.to)\/(x.kind=3/\x.to=0/\t=0/\∃r,ss[q]? =some r/\(⟨0,1⟩:aq)∈r.1.2)\/(x.kind=2/\∃l∈dD g nn ss,l.st=(q:Int)/\l.prod=x.to/\(t:Int)∈l.tm):=by
 unfold fe at h
 rcases iU.1 h with h|h
 ·rcases iU.1 h with h|h
  ·grind[Rw]
  ·obtain⟨rfl,a,b⟩:=Rx h
   simp_all
 grind[Ry]
theorem Wc(b:aw g)(c:bG g ss)(d:tC g nn){q t:Nat}{x:aF}(h:x∈fe g nn ss q t)(s:x.kind=2):∃(m:Nat)(p:aD),x.to=m/\m≠0/\g.prods[m]? =some p/\∃r,ss[q]? =some r/\wS g r.1.2 ⟨(m:Int),(p.right.length:Int)⟩:=by
 rcases GJ h with⟨a,_⟩|⟨a,_⟩|⟨_,v,j,a,k,l⟩
 ·omega
 ·omega
 ·obtain⟨e,m,_,f,i,rfl⟩:=Ei j;have w:(e:Int)=q:=a;have n:(m:Int)=x.to:=k;have:e=q:=U
  subst this;obtain⟨y,_,_,o⟩:=(RC b c d (gn f) i).1 l;exact⟨m,_,n.symm,i,gn f,(o.inv b c d).it⟩
theorem abn(b:aw g)(d:bG g ss)(h:tC g nn)(q t:Nat):Gq ss.length (oU g nn ss q t):=by
 have k:=b.cR
 by_cases e:(oU g nn ss q t).kind=0\/(oU g nn ss q t).kind=4
 ·have:oU g nn ss q t=⟨0,0⟩\/oU g nn ss q t=⟨4,0⟩\/oU g nn ss q t∈fe g nn ss q t:=by
   unfold oU;have a:=λx=>Nc (g:=g) (t:=t) (l:=fe g nn ss q t) (x:=x);revert a;generalize gl g t (fe g nn ss q t)=c;intro f;obtain⟨l,i⟩:=c;cases l with
   |nil=>cases i<;>simp[Et]
   |cons j l=>exact .inr (.inr<|f j<|List.mem_cons_self ..)
  rcases this with a|a|a
  ·rw[a];exact .inl ⟨rfl,rfl⟩
  ·rw[a];exact .inr (.inr<|.inr<|.inr ⟨rfl,rfl⟩)
  ·rcases GJ a with⟨c,_⟩|⟨c,_⟩|⟨c,_⟩<;>omega
 ·have f:=IG (λa=>e<|.inl a) (λa=>e<|.inr a)
  rcases GJ f with⟨a,c⟩|⟨a,c,_⟩|⟨a,_⟩
  ·have:=eZ b d c;exact .inr (.inl ⟨a,U,U⟩)
  ·exact .inr (.inr<|.inr<|.inl ⟨a,c⟩)
  ·obtain⟨j,m,n,o,i,_⟩:=Wc b d h f a;have:=(gJ.1 i).1;exact .inr (.inr<|.inl ⟨a,U,U⟩)
theorem aed{q t:Nat}(a:q<ss.length)(b:t<g.T):∃l,(Eu g nn ss)[q]? =some l/\l[t]? =some (oU g nn ss q t):=by
 unfold Eu
 simp_all
theorem Wd{q n:Nat}(a:q<ss.length)(b:n<g.N):∃l,(Gt g ss)[q]? =some l/\l[n]? =some (D5 ss q ((g.T+n:Nat):Int)):=by
 unfold Gt
 simp_all
theorem Bn(c:aw g)(a:bG g ss)(k:tC g nn):xg (Eu g nn ss) (Gt g ss) g.T g.N:=by
 have l:=c.cR;have hp:=a.pos;have m:=a.dn.2.1;have d:(Eu g nn ss).length=ss.length:=by simp[Eu]
 refine⟨U,U,by simp[Gt,Eu],U,U,U,U,λe b=>?_,λe b=>?_⟩
 ·obtain⟨h,_,rfl⟩:=iz.1 b;refine⟨V,λi f=>?_⟩;obtain⟨j,_,rfl⟩:=iz.1 f
  simp_all[abn]
 ·obtain⟨f,_,rfl⟩:=iz.1 b;refine⟨V,λn h=>?_⟩;obtain⟨i,_,rfl⟩:=iz.1 h;rw[d];unfold D5;cases j:dt ss f ((g.T+i:Nat):Int) with
  |none=>grind
  |some o=>have:=eZ c a j;grind
abbrev pA(p:dO)(q:Nat)(t:Int):aF:=bB p q t
def pG(g:B)(p:dO)(q:Nat)(s:Int):Nat:=(cD p q (s-g.T)).toNat
variable(i:aw g)(k:bG g ss)(h:tC g nn)(r:He (Eu g nn ss) (Gt g ss) g.N p)
include i k h r
theorem We{q t:Nat}(c:q<ss.length)(d:t<g.T):((oU g nn ss q t).kind≠0/\bB p q t=oU g nn ss q t)\/((oU g nn ss q t).kind=0/\(bB p q t=⟨0,0⟩\/∃a<g.T,(oU g nn ss q a).kind=2/\bB p q t=oU g nn ss q a)):=by
 obtain⟨e,a,f⟩:=aed (nn:=nn) c d;have j:=((Bn i k h).a e (gg a)).2
 rcases r.act a f j with⟨l,b⟩|⟨l,b|⟨m,n,o,b⟩⟩
 ·simp_all
 ·simp_all
 grind[List.getElem?_of_mem,List.range,oU,Eu,List.getElem?_range,Option.some.inj,List.getElem?_eq_none]
theorem xv{q:Nat}{s j:Int}(l:(g.T:Int)<=s)(h:dt ss q s=some j):cD p q (s-g.T)=j:=by
 have m:=agu i k h;have o:=eZ i k h;obtain⟨n,a⟩:∃n:Nat,s=((g.T+n:Nat):Int):=⟨(s-g.T).toNat,U⟩;subst a;have b:=TX h;obtain⟨t,c,d⟩:=Wd (g:=g) (n:=n) b U;have e:D5 ss q ((g.T+n:Nat):Int)=j:=by simp_all[D5]
 rw[e] at d;have f:((g.T+n:Nat):Int)-(g.T:Int)=(n:Int):=U
 rw[f];exact r.tgt c U η U
theorem agK(f:jq g):KP g ss (pA p) (pG g p) (Gt g ss) p:=by
 refine⟨i,k,f,⟨?_,?_,?_,?_⟩,⟨λa b=>rfl,?_⟩,?_⟩
 ·intro a b j l m;have o:(bB p a b).kind=1:=m
  show dt ss a (b:Int)=some (bB p a b).to
  rcases We i k h r j l with⟨d,c⟩|⟨d,c|⟨q,_,s,c⟩⟩
  ·rw[c] at o ⊢
   rcases GJ (IG d U) with⟨_,e⟩|⟨e,_⟩|⟨e,_⟩
   ·omega
   ·omega
   omega
  ·simp_all
  simp_all
 ·intro a c j l m o;have q:=(gJ.1 l).1;have s:(bB p a c).kind=2:=o
  have t:∀d,(oU g nn ss a d).kind=2->bB p a c=oU g nn ss a d->∃(b:Nat)(e:aD),(bB p a c).to=b/\b≠0/\g.prods[b]? =some e/\wS g j.1.2 ⟨(b:Int),(e.right.length:Int)⟩:=λd b e=>by
   obtain⟨v,w,x,y,z,A,C,F⟩:=Wc i k h (IG U U) b
   grind
  rcases We i k h r q m with⟨d,b⟩|⟨d,b|⟨e,_,v,b⟩⟩
  ·simp_all
  ·simp_all
  simp_all
 ·intro c d s e j l;have m:=(gJ.1 e).1;have o:(bB p c d).kind=3:=l
  rcases We i k h r m j with⟨b,a⟩|⟨b,a|⟨t,_,v,a⟩⟩
  ·rw[a] at o
   rcases GJ (IG b U) with⟨q,_⟩|⟨_,_,w,x,y,z⟩|⟨q,_⟩
   ·omega
   ·simp_all
   omega
  ·simp_all
  simp_all
 ·grind[pG,xv]
 ·rintro c d⟨e,a⟩ b;unfold pG;rw[xv i k h r b a];have:=eZ i k a;omega
 ·intro c n d a b;obtain⟨e,j,l⟩:=Wd (g:=g) (n:=n) (TX b) a
  simp_all[D5]
theorem agL(l:n_ g nn ss 2=[]):nr g nn ss (pA p) (pG g p):=by
 refine⟨λa b c e f ha=>?_,λa t v m n=>?_⟩
 ·have o:fe g nn ss a b=[c]:=by
   have d:(fe g nn ss a b).length<2:=Nat.lt_of_not_le λj=>by
    have:(⟨(a:Int),(b:Int),fe g nn ss a b⟩:cW)∈n_ g nn ss 2:=pW.2 ⟨a,b,e,f,j,rfl⟩;rw[l] at this;cases this
   match hx:fe g nn ss a b,d,ha with
   |[j],_,ha=>rw[jA.1 ha]
  have j:oU g nn ss a b=c:=by
   unfold oU;rw[o]
   by_cases d:c.kind=1
   ·rw[sE d];rfl
   ·rw[Au d];rfl
  have q:c.kind≠0:=by
   rcases GJ ha with⟨d,_⟩|⟨d,_⟩|⟨d,_⟩<;>omega
  rcases We i k h r e f with⟨d,s⟩|⟨d,_⟩
  ·show bB p a b=c
   rw[s,j]
  ·rw[j] at d;exact absurd d q
 ·unfold pG;rw[xv i k h r m n];rfl
end
def oS:Nat->A0->List Tk
 |_,[]=>[]
 |c,t::ts=>((t:Int),c)::oS (c+1) ts
theorem Pn:∀(ts:A0)(c i:Nat),(oS c ts)[i]? =ts[i]?.map λ(t:Nat)=>((t:Int),c+i)
 |[],c,i=>by simp[oS]
 |t::ts,c,0=>by simp[oS]
 |t::ts,c,i+1=>by
  show(oS (c+1) ts)[i]? =_
  rw[Pn ts (c+1) i]
  simp only[qY]
  rw[show c+1+i=c+(i+1) by omega]
theorem Wf(ns:A0):oS 0 ns=GI (oE ns) 0 ns.length:=by
 apply kv;intro i;rw[Pn];unfold GI;rw[iE]
 by_cases h:i<ns.length
 ·rw[List.getElem?_range' U,gn h];simp[h]
 ·rw[lA U,lA (by simp;omega)];rfl
section
variable{g:B}{ss:List SQ}{A:Nat->Int->aF}{w:Nat->Int->Nat}{F:A7}{p:dO}{t:Nat}
theorem aee{l a:List xO}{rs:List aF}{b:Int}(h:RD g A w b l rs a):∀{y:cY},y.es=l->(rs.foldl (Bm g w t) y).es=a:=by
 induction h with
 |nil=>exactλh=>h
 |cons l f i j k m c _ _ _ d=>
  intro y e;subst e;rw[List.foldl_cons];refine d ?_;unfold Bm;simp[c,Eo]
theorem Wg(h:KP g ss A w F p)(ht:t<g.T){y y':cY}(hw:lK ss y.es)(hF:j4 g (bB p) (cD p) w t y=some (true,y')):
  lK ss y'.es/\((0<t/\y'.du=y.du+1/\∀v,Rn g A w (y.es,((t:Int),y.du)::v) (y'.es,v))\/(t=0/\(A (bV y'.es) 0).kind=3/\∀k v,Rn g A w (y.es,((0:Int),k)::v) (y'.es,((0:Int),k)::v))):=by
 unfold j4 at hF
 split at hF
 ·cases hF
 ·cases hF
 ·rename_i ms _ O;cases hF;obtain⟨a,l',X,Z,r3,r4⟩:=TY h.hc h.hA h.hS h.hN ht 1024 hw O;have J:=aee (t:=t) X (y:=y) rfl;have V:(a.foldl (Bm g w t) y).du=y.du:=EC t a y;have hl:=Gn h.hA h.hc Z
  rcases r4 with⟨_,u,k2,rfl⟩|⟨_,u,rfl⟩|⟨hf,_⟩
  ·obtain⟨r,O⟩:=hl;have hn:=h.hS.sh _ t (gJ.1 O).1 ht u;obtain⟨q0,k,e,Y,he,a0,_⟩:=j8 hn;have:=(dj h.hc h.hA Y he).1;have h0:=(eZ h.hc h.hA hn).1;rw[l7,ry];generalize List.foldl (Bm g w t) y a=z at J V;have W:Bm g w t z (A (bV l') t)=CU t (A (bV l') t).to.toNat z:=by unfold Bm;rw[gD u]
   rw[List.foldl_cons,List.foldl_nil,W];unfold Gp;rw[gD U]
   refine⟨⟨?_,?_⟩,.inl ⟨U,by simp[CU,V],λv=>(X.Kz _ v).trans (.step _ _ _ ?_<|.refl _)⟩⟩
   ·show dt ss (bV z.es) (t:Int)=_
    rw[J,hn]
    show some _=some (((A (bV l') t).to.toNat:Nat):Int)
    rw[Int.toNat_of_nonneg h0]
   ·show lK ss z.es
    rw[J];exact Z
   ·show Kz g A w (l',((t:Int),y.du)::v)=some (((t:Int),(A (bV l') t).to.toNat,Tr.lf t z.du)::z.es,v)
    unfold Kz;simp[u,J,V]
  ·obtain⟨r,O⟩:=hl;have ht0:=(h.hS.ac _ t r O ht u).1;subst ht0;rw[l7,ry];generalize List.foldl (Bm g w 0) y a=z at J V;have W:Bm g w 0 z (A (bV l') ((0:Nat):Int))=RF (A (bV l') ((0:Nat):Int)) z:=by unfold Bm;rw[gv U,gv U]
   rw[List.foldl_cons,List.foldl_nil,W];unfold Gp;rw[gv U];have e4:(RF (A (bV l') ((0:Nat):Int)) z).es=l':=J;rw[e4];exact⟨Z,.inr ⟨rfl,u,λk v=>X.Kz k v⟩⟩
  ·cases hf
theorem Bo(h:KP g ss A w F p){b:Bool}{j k:Nat}{y':cY}:∀(ts:A0)(i:Nat)(y:cY),(∀t∈ts,1<=t/\t<g.T)->lK ss y.es->GF g (bB p) (cD p) w i (ts++[0]) y=some (b,j,y')->
  ∃l v,Rn g A w (y.es,oS y.du ts++[((0:Int),k)]) (l,v)/\((b=true/\l=y'.es/\v=[((0:Int),k)]/\(A (bV l) 0).kind=3)\/
   (b=false/\∃(t:Nat)(k':Nat)(v':List Tk),v=((t:Int),k')::v'/\(A (bV l) t).kind≠1/\(A (bV l) t).kind≠2/\(A (bV l) t).kind≠3)):=by
 have hs:=h.hc.cR
 --a token that does not fit
 have X:∀{t:Nat}{y:cY}{v:List Tk}{O:cY}{k':Nat},t<g.T->lK ss y.es->j4 g (bB p) (cD p) w t y=some (false,O)->∃l,Rn g A w (y.es,((t:Int),k')::v) (l,((t:Int),k')::v)/\(A (bV l) t).kind≠1/\(A (bV l) t).kind≠2/\(A (bV l) t).kind≠3:=by
  intro t y v O k' ht c u;unfold j4 at u
  split at u
  ·cases u
  ·rename_i hr;obtain⟨rs,l',J,d,r3,r4⟩:=TY h.hc h.hA h.hS h.hN ht 1024 c hr
   rcases r4 with⟨hf,_⟩|⟨hf,_⟩|⟨_,Z,k2,k3,_⟩
   ·cases hf
   ·cases hf
   ·exact⟨l',J.Kz _ _,Z,k2,k3⟩
  ·cases u
 intro ts
 induction ts with
 |nil=>
  intro i y _ c u;have u:(match j4 g (bB p) (cD p) w 0 y with|none=>none|some (false,y')=>some (false,i,y')|some (true,y')=>some (true,i+1,y'))=some (b,j,y'):=u
  split at u
  ·cases u
  ·rename_i O hT;cases u;obtain⟨l,J,d⟩:=X (v:=[]) (k':=k) U c hT;exact⟨l,_,J,.inr ⟨rfl,0,k,[],rfl,d⟩⟩
  ·rename_i O hT;cases u
   obtain⟨_,hh|⟨_,h3,h4⟩⟩:=Wg h U c hT
   ·omega
   ·exact⟨_,_,h4 k [],.inl ⟨rfl,rfl,rfl,h3⟩⟩
 |cons t ts ih=>
  intro i y W c u;have ht:=W t V;have u:(match j4 g (bB p) (cD p) w t y with|none=>none|some (false,y')=>some (false,i,y')|some (true,y')=>GF g (bB p) (cD p) w (i+1) (ts++[0]) y')=some (b,j,y'):=u
  split at u
  ·cases u
  ·rename_i O hT;cases u;obtain⟨l,J,d⟩:=X (v:=oS (y.du+1) ts++[((0:Int),k)]) (k':=y.du) U c hT;exact⟨l,_,J,.inr ⟨rfl,t,_,_,rfl,d⟩⟩
  ·rename_i O hT
   obtain⟨Y,⟨_,hc,hR⟩|hh⟩:=Wg h U c hT
   ·obtain⟨l,v,J,d⟩:=ih (i+1) O (λt h=>W t (by simp[h])) Y u;rw[hc] at J;exact⟨l,v,(hR _).trans J,d⟩
   ·omega
theorem Wh(h:KP g ss A w F p){ns:A0}(d:∀t∈ns,1<=t/\t<g.T){j:Nat}{y:cY}(e:GF g (bB p) (cD p) w 0 (ns++[0]) cY.new=some (true,j,y)):
  ∃(q:Nat)(x:Tr),y.es=[(g.start,q,x)]/\Dv g [x] [g.start] (GI (oE ns) 0 ns.length):=by
 have r:=h.hc.cR
 obtain⟨s,v,f,⟨_,rfl,rfl,i⟩|⟨l,_⟩⟩:=Bo h (k:=0) ns 0 cY.new d trivial e
 ·have m:∀x∈oS 0 ns++[((0:Int),0)],0<=x.1/\x.1<(g.T:Int):=by
   intro x n
   rcases iU.1 n with b|b
   ·obtain⟨o,a⟩:=jR b;rw[Pn] at a;cases c:ns[o]? with
    |none=>rw[c] at a;cases a
    |some t=>
     rw[c] at a;cases a;have:=d t<|gg c;exact⟨kF _,by show(t:Int)<_;omega⟩
   ·rw[jA.1 b];exact⟨V,by show(0:Int)<_;omega⟩
  obtain⟨_,q,x,n,a,b,c⟩:=(X3.run h.hc h.hA h.hS m X3.start f).acc h.hc h.hA h.hS (t:=0) U i;refine⟨q,x,a,?_⟩;have:=List.append_inj_left' c rfl;rw[<-Wf,this];exact b
 ·cases l
theorem aef(h:KP g ss A w F p){nn:At}(c:tC g nn)(d:nr g nn ss A w){ns:A0}(e:∀t∈ns,1<=t/\t<g.T){j:Nat}{y:cY}(f:GF g (bB p) (cD p) w 0 (ns++[0]) cY.new=some (false,j,y))(x:Tr):
  ¬Dv g [x] [g.start] (GI (oE ns) 0 ns.length):=λa=>by
 obtain⟨i,I,l,⟨m,_⟩|⟨_,t,n,o,rfl,q,r,s⟩⟩:=Bo h (k:=0) ns 0 cY.new e trivial f
 ·cases m
 rw[<-Wf] at a
 obtain⟨v,z,b⟩:=X1 h.hc h.hA c d a 0
 have C:Kz g A w (i,((t:Int),n)::o)=none:=by unfold Kz;simp[q,r]
 have:=l.det z C (aec b)
 cases this
 exact s (by show(A v 0).kind=3;rw[b])
end
def BI(nd:List RE)(i:Nat):Int:=match nd[i]? with|some x=>x.sym|none=>0
def oy(nd:List RE)(i:Nat):Option Tk:=match nd[i]? with|some x=>if x.prod<0 then some (x.sym,x.tok.toNat) else none|none=>none
inductive xw (g:B) (nd:List RE) (i:Nat):RE->Prop
 |lf (s:Int) (k:Nat):xw g nd i ⟨s,-1,k,[]⟩
 |nd (n:Nat) (p:aD) (kids:A0):g.prods[n]? =some p->(∀k∈kids,k<i)->kids.map (BI nd)=p.right->xw g nd i ⟨p.left,n,0,kids.map λ(j:Nat)=>(j:Int)⟩
section
variable{g:B}{nd:List RE}
theorem agN{l:List Tr}{r z:A0}(h:Ar g nd l r z):∀{s:Az}{y:List Tk},Dv g l s y->z.filterMap (oy nd)=y/\(∀i∈z,∃x,nd[i]? =some x/\xw g nd i x)/\r.map (BI nd)=s:=by
 induction h with
 |nil=>intro s y a;cases a;simp
 |lf s b i l r z a _ c=>
  intro t y d;cases d with
  |lf _ _ _ _ _ v w e=>
   obtain⟨f,j,k⟩:=c e;have m:oy nd i=some (s,b):=by unfold oy;rw[a];simp
   have n:BI nd i=s:=by unfold BI;rw[a]
   refine⟨by simp[m,f],λo p=>?_,by simp[n,k]⟩
   rcases jb.1 p with rfl|q
   ·exact⟨_,a,.lf s b⟩
   ·exact j o q
 |nd j c R l k r y z i a d m _ _ n o=>
  intro S X p;cases p with
  |nd _ Y _ _ _ a0 a1 e q t=>
   rw[d] at e;cases e;obtain⟨v,w,A⟩:=n q;obtain⟨C,F,I⟩:=o t;have L:oy nd i=none:=by unfold oy;rw[a];simp
   have N:BI nd i=c.left:=by unfold BI;rw[a]
   refine⟨by simp[L,C,v],λf P=>?_,by simp[N,I]⟩
   rcases jb.1 P with rfl|Q
   ·exact⟨_,a,.nd j c k d m A⟩
   rcases iU.1 Q with b|b
   ·exact w f b
   ·exact F f b
theorem Ar.head_eq{t:Tr}{l:List Tr}{i:Nat}{r z:A0}(h:Ar g nd (t::l) (i::r) z):∃a,z=i::a:=by
 cases h with
 |lf _ _ _ _ _ z _ _=>exact⟨z,rfl⟩
 |nd _ _ _ _ _ _ a z _ _ _ _ _ _=>exact⟨_,rfl⟩
theorem Ar.pop{l:List Tr}{i:Nat}{r z:A0}(h:Ar g nd l (i::r) z):∃x a c b,nd[i]? =some x/\x.kids=a.map (λ(d:Nat)=>(d:Int))/\(∀k∈a,k<i)/\z=i::b/\Ar g nd c (a++r) b:=by
 cases h with
 |lf c k _ l r z a b=>exact⟨_,[],l,z,a,rfl,V,rfl,b⟩
 |nd m n a l b _ c z _ d o e f j=>exact⟨_,b,a++l,c++z,d,rfl,e,rfl,f.app j⟩
end
structure Uh(g:B)(nd:List RE)(z r d:A0)(ms:At):Prop where
 ex:∃l z2,Ar g nd l r z2/\d++z2=z
 n:ms.length=nd.length
 m:∀i,bt ms i=true↔i∈d\/i∈r
section
variable{g:B}{nd:List RE}{z r d:A0}{ms:At}{i:Nat}
structure tz(kids:A0)(ms0:At)(j:Nat)(ms:At):Prop where
 n:ms.length=ms0.length
 m:∀i,bt ms i=true↔bt ms0 i=true\/i∈kids.take j
theorem tz.step{a:A0}{b ms:At}{j k:Nat}(h:tz a b j ms)(c:a[j]? =some k)(d:k<ms.length):tz a b (j+1) (ms.set k true):=by
 refine⟨by rw[ky];exact h.n,λe=>?_⟩;rw[qC d,kj,h.m,iw,c,beq_iff_eq];simp
 grind
theorem Uh.pop(c:z.Nodup)(h:Uh g nd z (i::r) d ms):i∈z/\∃x a,nd[i]? =some x/\x.kids=a.map (λ(b:Nat)=>(b:Int))/\(∀k∈a,k<i)/\a.Nodup/\(∀k∈a,bt ms k=false)/\
  ∀b,tz a ms a.length b->Uh g nd z (a++r) (d++[i]) b:=by
 obtain⟨L,N,o,p⟩:=h.ex;obtain⟨x,q,s,e,t,v,w,rfl,f⟩:=o.pop;subst p;have j:=f.sub;rw[kS,kN] at c;obtain⟨_,⟨y,A⟩,C⟩:=c;have a:=j.nodup A;rw[kS] at a
 refine⟨V,x,q,t,v,w,a.1,λk l=>?_,λP m=>⟨⟨s,e,f,V⟩,m.n.trans h.n,λQ=>?_⟩⟩
 ·have n:k∈e:=j.subset<|List.mem_append_left _ l;cases F:bt ms k with
  |false=>rfl
  |true=>
   rcases(h.m k).1 F with b|b
   ·exact absurd rfl (C k b k<|ou _ n)
   ·rcases jb.1 b with rfl|I
    ·exact absurd n y
    ·exact absurd rfl (a.2.2 k l k I)
 ·rw[m.m,h.m,jl];simp only[iU,jb]
  grind
theorem Uh.len(e:z.Nodup)(h:Uh g nd z r d ms):d.length+r.length<=nd.length/\z.length<=nd.length:=by
 obtain⟨n,b,c,rfl⟩:=h.ex;have o:=c.sub.length_le;have f:∀a∈d++b,a<nd.length\/a∈d:=λa i=>(iU.1 i).elim .inr λh=>.inl (c.lt a h)
 have i:∀a∈d,a<nd.length:=λj k=>by
  have a:=(h.m j).2 (.inl k);rw[<-h.n];unfold bt at a;rw[jX] at a;exact Nat.lt_of_not_le λl=>by rw[lA l] at a;cases a
 have j:((d++b).map λ(a:Nat)=>(a:Int)).Nodup:=by
  rw[ot,lF];exact(ot.1 e).imp λh a=>h U
 have:=ux j (m:=(List.range nd.length).map λ(a:Nat)=>(a:Int)) λp k=>by
  obtain⟨a,l,rfl⟩:=iz.1 k;exact iz.2 ⟨a,jY.2<|(f a l).elim id (i a),rfl⟩
 simp at this;simp;omega
end
section
variable{w:ga}{L:List aG}{g:B}{nd:List RE}{z:A0}{o:E}{n c h:Nat}
theorem abt{t:Tr}(a4:bf (hp w) nd o n)(c2:n<=1000000)(aR:∀x∈nd,x.kids.length<=64)(R:Ar g nd [t] [h] z)(a5:z.Nodup)(aS:∀i∈z,∀x,nd[i]? =some x->0<=x.sym/\0<=x.tok/\((x.prod=-1/\x.kids=[])\/(0<=x.prod/\x.tok=0))):
  ρ 51 [T o n c,O (h:Int),J false] w λaV b0=>∃a cc,aV=.tuple #[T a z.length cc,J true]/\z.length<=n/\W b0 (own 1 a z.length cc (iv (oE z))::all w):=by
 have a6:=a4.1
 have S:h<n:=by
  obtain⟨b,a⟩:=R.head_eq;have:=R.lt h (by rw[a];simp);omega
 refine xX ⟨λa b=>a=false/\w=b,bm (jM U) ⟨jM U,rfl⟩,?_⟩;rintro _ _ _⟨rfl,rfl⟩;refine bm rfl ⟨⟨U,rfl,U⟩,?_⟩;rw[de,je];refine ag (W.all w) λX c3 r=>au rfl S ?_;rw[ak];refine aX r (by simp;exact S) λc4 r=>ag r λc5 c6 r=>?_;have a7:(List.replicate n<|J false).set h (J true)=bv ((List.replicate n false).set h true):=by simp[bv]
 rw[a7] at r;have a8:=bq (l:=1) (c:=1) (sz:=1) (vs:=iv<|oE [h]) (cs:=[]) (L:=_) r rfl rfl (gP _)
 have a9:Uh g nd z [h] [] ((List.replicate n false).set h true):=by
  refine⟨⟨[t],z,R,rfl⟩,by simp[a6],λi=>?_⟩;rw[qC (by simp;exact S),kj,beq_iff_eq];simp[j7]
 refine⟨λm d p q e s v=>∃(a b:A0)(f:At),d=a.length/\e=b.length/\Uh g nd z a b f/\W v (own 1 m d p (iv<|oE a.reverse)::own 1 q e s (iv<|oE b)::ax X (bv f)::all w),λ_ _ _ _ a _ _=>n-a,⟨[h],[],_,rfl,rfl,a9,(aH 1 a8).pick 4 [1,0,2,3]⟩,?_⟩;clear a8 a9 a7;rintro _ b1 _ aa b2 _ b3 b4⟨a,d,ab,rfl,rfl,C,s⟩;have b5:=C.len a5;refine ae (λF=>?_) λF=>?_
 rotate_left
 ·have e:a=[]:=j2 (by have:=hY F;omega);subst e;obtain⟨l,f,m,b⟩:=C.ex;have:f=[]:=by cases m;rfl
  subst this;rw[jK] at b;subst b;exact⟨b2,b3,rfl,U,s.pick 4 [1,3]⟩
 cases a with
 |nil=>simp at F
 |cons i a=>
 clear F;obtain⟨b6,x,b,I,Y,b7,b9,ba,bb⟩:=C.pop a5;have ac:i<n:=by have:=(gJ.1 I).1;omega
 obtain⟨c7,c8,bc⟩:=aS i b6 x I;have c9:=aR x<|gg I;have ca:x.kids.length=b.length:=by rw[Y,jO]
 have bd:oE (i::a).reverse=oE a.reverse++[(i:Int)]:=by simp[oE]
 have be:(((i::a).length:Nat):Int)-1=(a.length:Int):=V
 have bi:=bJ s;simp only[lQ] at b5;rw[bd] at s;have bl:(oE a.reverse++[(i:Int)])[a.length]? =some (i:Int):=by simp[oE]
 obtain⟨cb,bo,bQ⟩:=(uL s).at bl;rw[be];refine⟨ξ,au bo V ⟨(i:Int),bQ b4 sZ,ξ,ij (hi:=a.length) (by simp at bi;omega) ?_⟩⟩;have e:=po s (k:=a.length) V
 have bs:(iv<|oE a.reverse++[(i:Int)]).take (a.length*1)=iv (oE a.reverse):=by
  unfold iv;rw[jI,List.take_left' (by simp[oE])]
 rw[bs] at e;obtain⟨cd,ce,vs,ad,bu,bz,v,y,rfl,al⟩:=a4.get ac;rw[I] at ad;cases ad;refine aI bu ac ⟨_,_,_,_,_,_,bz.at (aE 3 e.l) rfl,ag e λA cg e=>aQ e rfl (by simp[aO]) λch e=>ag e λci ck e=>?_⟩;refine(aU (us:=iv<|oE d) (vs:=[O (i:Int)]) aY (rfl:ai Ty _=.slice _) (rfl:ai Ty _=.slice _) rfl rfl rfl (e.pick 6 [0,3,1,2,4,5]) rfl (by simp[aO]) (by show(d.length+1)*8<=_;omega) U).mono ?_;rintro _ am⟨an,ao,rfl,ap⟩;have bE:iv (oE d)++[O (i:Int)]=iv (oE<|d++[i]):=by simp[iv,oE]
 rw[bE] at ap;have a0:=ap.pick 6 [2,3,0,4,5];have f:aj (hp am) (Z A) [O x.sym,O x.prod,O x.tok,T v x.kids.length y]:=af 0 a0.l
 refine⟨_,_,_,rfl,λm=>am=m,⟨_,f.cell0 sZ,bm (by simp;omega) ⟨_,f.cell sZ (j:=1) rfl,bm (by simp;omega) ⟨_,f.cell sZ (j:=2) rfl,bm (by simp;omega) ⟨_,f.cell sZ (j:=1) rfl,?_⟩⟩⟩⟩,?_⟩
 ·rcases bc with⟨m,p⟩|⟨m,p⟩
  ·exact gd (by simp[m]) ⟨_,_,_,f.cell sZ (j:=3) rfl,bm (by simp[p]) ⟨_,f.cell sZ (j:=1) rfl,bm (by simp[m]) rfl⟩⟩
  ·exact bm (by simp;omega) ⟨_,f.cell sZ (j:=1) rfl,gd (by simp;omega) ⟨_,f.cell sZ (j:=2) rfl,bm (by simp[p]) rfl⟩⟩
 rintro _ _ rfl;clear f;refine⟨λp q=>∃(j:Nat)(m:At),p=j/\j<=b.length/\tz b ab j m/\W q (ax A [O x.sym,O x.prod,O x.tok,T v x.kids.length y]::own 1 (f_ b1 0 aa 1) a.length aa (iv<|oE a.reverse)::own 1 an (d.length+1) ao (iv<|oE<|d++[i])::ax X (bv m)::all w),λm _=>b.length-m.toNat,⟨0,ab,rfl,gu _,⟨rfl,λi=>V⟩,a0⟩,?_⟩;clear a0;rintro _ _ av⟨j,q,rfl,cl,N,m⟩;have a1:aj (hp av) (Z A) [O x.sym,O x.prod,O x.tok,T v x.kids.length y]:=af 0 m.l
 refine⟨_,_,_,a1.cell sZ (j:=3) rfl,ae (λa2=>?_) λa2=>?_⟩
 ·have a3:j<b.length:=by have:=gZ a2;omega
  obtain⟨k,p⟩:∃k,b[j]? =some k:=⟨_,gn a3⟩;have az:=gg p;have bP:=b7 k az;obtain⟨bT,aB,aK⟩:=al.at (i:=j) (x:=(k:Int)) (by rw[Y,iE,p];rfl);have c0:q.length=n:=by rw[N.n,C.n,a6]
  have bN:bt q k=false:=by
   cases bO:bt q k with
   |false=>rfl
   |true=>
    rcases(N.m k).1 bO with P|P
    ·rw[ba k az] at P;cases P
    ·obtain⟨c1,Q⟩:=jR P;rw[nN] at Q
     split at Q
     ·have:=(vJ U b9).1 (Q.trans p.symm);omega
     ·cases Q
  refine⟨_,_,_,a1.cell sZ (j:=3) rfl,au aB U ⟨(k:Int),aK av<|aE 4 m.l,bm (jM U)<|bm (jM U)<|au rfl U ⟨_,ON (af 3 m.l) U,bm bN<|au rfl U ?_⟩⟩⟩;rw[ak];refine aX (m.pick 5 [3,0,1,2,4]) (by rw[m_];omega) λP m=>⟨ξ,⟨j+1,q.set k true,V,a3,N.step p U,?_⟩,bS a3⟩;rw[Am] at m;exact m.pick 5 [1,2,3,0,4]
 ·have bN:j=b.length:=by have:=hY a2;omega
  subst bN;refine⟨λp P Q a3 az=>∃j:Nat,a3=j/\j<=b.length/\P=a.length+j/\W az (own 1 p (a.length+j) Q (iv<|oE<|a.reverse++b.reverse.take j)::own 1 an (d.length+1) ao (iv<|oE<|d++[i])::ax A [O x.sym,O x.prod,O x.tok,T v x.kids.length y]::ax X (bv q)::all w),λ_ _ _ p _=>b.length-p.toNat,⟨0,rfl,gu _,rfl,by rw[List.take_zero,jK];exact m.pick 5 [1,2,0,3,4]⟩,?_⟩;clear m a1;rintro _ cm _ cn _ a3⟨j,rfl,co,rfl,p⟩;have P:aj (hp a3) (Z A) [O x.sym,O x.prod,O x.tok,T v x.kids.length y]:=af 2 p.l
  refine⟨_,_,_,P.cell sZ (j:=3) rfl,ae (λQ=>?_) λQ=>?_⟩
  ·have az:j<b.length:=by have:=gZ Q;omega
   obtain⟨k,aB⟩:∃k,b[b.length-1-j]? =some k:=⟨_,gn U⟩;obtain⟨cp,bO,bP⟩:=al.at (i:=b.length-1-j) (x:=(k:Int)) (by rw[Y,iE,aB];rfl);have bT:(x.kids.length:Int)-1-(j:Int)=((b.length-1-j:Nat):Int):=U
   refine⟨_,_,_,P.cell sZ (j:=3) rfl,_,_,_,P.cell sZ (j:=3) rfl,?_⟩;dsimp only;rw[bT];refine⟨ξ,ξ,au bO U ⟨(k:Int),bP a3<|aE 4 p.l,bm rfl (ag p λcq ct p=>?_)⟩⟩;refine(aU (us:=iv<|oE<|a.reverse++b.reverse.take j) (vs:=[O (k:Int)]) aY (rfl:ai Ty _=.slice _) (rfl:ai Ty _=.slice _) rfl rfl rfl p rfl (by simp[aO]) (by show(a.length+j+1)*8<=_;omega) U).mono ?_;rintro _ cu⟨cv,cx,rfl,aK⟩;have c0:b.reverse[j]? =some k:=by rw[List.getElem?_reverse U];exact aB
   have c1:iv (oE<|a.reverse++b.reverse.take j)++[O (k:Int)]=iv (oE<|a.reverse++b.reverse.take (j+1)):=by
    rw[iw,c0];simp[iv,oE]
   rw[c1] at aK;exact⟨_,_,_,rfl,ξ,⟨j+1,V,az,rfl,aK.pick 6 [0,2,3,4,5]⟩,bS az⟩
  ·have az:j=b.length:=by have:=hY Q;omega
   subst az;rw[jy V] at p;have aB:a.reverse++b.reverse=(b++a).reverse:=V
   rw[aB] at p;refine⟨⟨b++a,d++[i],q,by simp;omega,V,bb q N,?_⟩,by show n-(d.length+1)<n-d.length;omega⟩;exact p.pick 5 [0,1,3,4]
end
section
variable{α β:Type}
theorem aeg{f:α->Option β}{z:List α}{j:Nat}{i:α}(h:z[j]? =some i):(z.take (j+1)).filterMap f=(z.take j).filterMap f++(f i).toList/\z.filterMap f=(z.take j).filterMap f++((f i).toList++(z.drop (j+1)).filterMap f):=by
 have c:=(gJ.1 h).1
 have a:(z.take<|j+1).filterMap f=(z.take j).filterMap f++(f i).toList:=by
  rw[iw,h,List.filterMap_append];cases b:f i<;>simp[b]
 refine⟨a,?_⟩;rw[<-jT,<-a,<-List.filterMap_append,l9]
theorem Po{row:Az}{q:Nat}{a:Tk}(h:(GI row 0 row.length)[q]? =some a):row[q]? =some a.1/\a.2=q:=by
 unfold GI at h;rw[iE] at h
 by_cases b:q<row.length
 ·rw[List.getElem?_range' U] at h;simp[b] at h;subst h;simp[b]
 ·rw[lA (by simp;omega)] at h;cases h
end
section
variable{w:ga}{L:List aG}{g:B}{x:GA}{nd:List RE}{z:A0}{row:Az}{o h:E}{n c k r:Nat}
theorem XD{t:Tr}(a1:gR (hp w) g x)(bc:jq g)(a2:aw g)(F:bf (hp w) nd o n)(bd:n<=1000000)(ap:∀x∈nd,x.kids.length<=64)(a3:Ar g nd [t] [k] z)(be:z.Nodup)(bi:Dv g [t] [g.start] (GI row 0 row.length))(av:bf (hp w) row h row.length)(a4:∀a∈row,1<=a/\a<(g.T:Int))(cy:row.length<=1000000):
  ρ 14 [.agg ⟨x.cells⟩,T o n c,O (k:Int),T h row.length r] w λbl bo=>bl=J true/\Gr w bo:=by
 obtain⟨bs,cz,cA,cB,cC,cF⟩:=EP (.inr a2:bL g);obtain⟨I,a5,bu⟩:=agN a3 bi;have cI:=a2.2.2.1.2.2.2.2
 have bz:∀b∈GI row 0 row.length,0<=b.1:=λe b=>by
  obtain⟨i,d⟩:=jR b;have:=a4 _<|gg (Po d).1;omega
 have bE:∀i∈z,∀x,nd[i]? =some x->0<=x.sym/\0<=x.tok/\((x.prod=-1/\x.kids=[])\/(0<=x.prod/\x.tok=0)):=λi b x d=>by
  obtain⟨q,e,p⟩:=a5 i b;rw[d] at e;cases e;cases p with
  |lf l m=>
   have:oy nd i=some (l,m):=by unfold oy;rw[d];simp
   have:=bz (l,m) (by rw[<-I];exact List.mem_filterMap.2 ⟨i,b,this⟩);exact⟨this,kF _,.inl ⟨rfl,rfl⟩⟩
  |nd m l s hp _ _=>
   have:=(bs l<|gg hp).1;exact⟨by show 0<=l.left;omega,Int.le_refl _,.inr ⟨kF _,rfl⟩⟩
 have cR:=F.1;obtain⟨cT,az⟩:=a3.head_eq;obtain⟨aB,L,bN⟩:=a5 k (by rw[az];simp);have a6:k<n:=by have:=(gJ.1 L).1;omega
 have aK:aB.sym=g.start:=by
  have:[BI nd k]=[g.start]:=bu;unfold BI at this;rw[L] at this;simpa using this
 have d0:0<=aB.prod:=by
  cases bN with
  |lf b d=>
   exfalso;have:oy nd k=some (b,d):=by unfold oy;rw[L];simp
   have e:(b,d)∈GI row 0 row.length:=by rw[<-I];exact List.mem_filterMap.2 ⟨k,by rw[az];simp,this⟩
   obtain⟨i,l⟩:=jR e;have:=a4 _<|gg (Po l).1;have m:b=g.start:=aK;omega
  |nd b d e _ _ _=>exact kF _
 refine tP<|dZ a1 λd1 bO aR bP p=>(abt (F.mono aR) bd ap a3 be bE).mono ?_;rintro _ e⟨bT,d2,rfl,d3,a7⟩;have l:sub (hp bO) (hp e):=a7.aS;have N:sub (hp w) (hp e):=sub.trans aR l;have c0:bf (hp e) (oE z) bT z.length:=bA V<|dT 0 a7.l;have a8:=F.mono N;have y:=a1.mono N;have c1:=av.mono N;clear a7 F a1 bP av
 refine⟨_,_,_,_,rfl,λb d=>b=false/\sub (hp e) (hp d),λd4 P=>⟨λb=>sub (hp e)<|hp b,Gr.drawn P,bm rfl ⟨_,_,_,_,_,_,_,_,_,_,_,_,_,λd b=>p.row<|sub.trans l b,(Y9 (y.mono<|Gr.drawn P) bc).mono ?_⟩⟩,?_⟩
 ·rintro _ C⟨⟨s,rfl,v⟩,b⟩;have:s=true:=v.2 a2;subst this;obtain⟨Q,R,S,d,m,q,X,Y,rfl,_⟩:=a8.get a6;rw[L] at d;cases d;refine⟨_,rfl,λA=>sub (hp e)<|hp A,sub.trans (Gr.drawn P) b,λ_ A=>A,bm rfl (aI m a6 ⟨_,λa0 A=>q.cell A (j:=1) rfl,bm (jM U)<|aI m a6 ⟨_,λa0 A=>q.cell0 A,_,λa0 A=>p.c3<|sub.trans l A,?_,sub.trans (Gr.drawn P) b⟩⟩)⟩;rw[aK,y.s];simp
 rintro _ _ d5⟨rfl,aS⟩;refine bm rfl ⟨λb i d=>∃j:Nat,i=j/\j<=z.length/\b=(((z.take j).filterMap (oy nd)).length:Int)/\sub (hp e) (hp d),λ_ i _=>z.length-i.toNat,⟨0,rfl,gu _,rfl,aS⟩,?_⟩;clear aS;rintro _ _ _ c2⟨j,rfl,d6,rfl,Q⟩;have d7:g.T=x.tl:=y.t.1;have d8:g.prods.length=x.pl:=y.p.1;have c3:∀j,((z.take j).filterMap (oy nd)).length<=z.length:=λj=>j3 (List.length_filterMap_le _ _) (by rw[k5];omega);refine ae (λa9=>?_) λa9=>?_
 rotate_left
 ·have b:j=z.length:=by have:=hY a9;omega
  subst b;rw[jl,I,EL];exact⟨V,N.trans Q⟩
 have s:j<z.length:=by have:=gZ a9;omega
 obtain⟨i,aa⟩:∃i,z[j]? =some i:=⟨_,gn s⟩;obtain⟨R,aV⟩:=aeg (f:=oy nd) aa;have c4:=c3 j;obtain⟨ab,S⟩:∃b,b=((z.take j).filterMap (oy nd)).length:=⟨_,rfl⟩;rw[<-S] at c4 ⊢;obtain⟨d9,c5,c6⟩:=c0.at (i:=j) (x:=(i:Int)) (by unfold oE;rw[iE,aa];rfl);obtain⟨X,A,c7⟩:=a5 i<|gg aa;have bQ:i<n:=by have:=(gJ.1 A).1;omega
 obtain⟨dc,df,dk,b0,c8,c9,ca,cb,rfl,cc⟩:=a8.get bQ;rw[A] at b0;cases b0;refine au c5 s ⟨_,c6 c2 Q,aI c8 bQ ⟨_,_,_,_,_,_,c9.at Q rfl,ag (W.here Q) λcd dl C=>aQ C rfl (by simp[aO]) λm C=>?_⟩⟩;have d:aj (hp m) (Z cd) [O X.sym,O X.prod,O X.tok,T ca X.kids.length cb]:=af 0 C.l;have b:sub (hp e) (hp m):=aE 1 C.l;clear C;refine⟨_,d.cell sZ (j:=1) rfl,?_⟩;cases c7 with
 |lf q v=>
  have ac:oy nd i=some (q,v):=by unfold oy;rw[A];simp
  rw[ac] at R aV
  have ad:(GI row 0 row.length)[ab]? =some (q,v):=by
   rw[<-I,aV,S,kL<|gP _];simp
  obtain⟨al,am⟩:=Po ad;have Y:row[ab]? =some q:=al;have an:v=ab:=am;have b5:=a4 q<|gg Y;have ao:=(gJ.1 Y).1;obtain⟨ar,b1,b2⟩:=c1.at Y;refine gd rfl ⟨λa0 b3=>a0=false/\sub (hp e) (hp b3),λb6 a0=>⟨λb3=>sub (hp m)<|hp b3,Gr.drawn a0,_,λb4 b3=>d.cell0 b3,bm (jM (by show¬(q<1);omega)) ⟨_,λb4 b3=>d.cell0 b3,_,_,_,λb4 b3=>p.c0<|sub.trans l<|sub.trans b b3,bm (jM (by show¬((x.tl:Int)<=q);omega))<|bm (jM U)<|au b1 ao ⟨q,λb3 b4=>b2 b3<|sub.trans b b4,_,λb4 b3=>d.cell0 b3,bm V ⟨_,λb4 b3=>d.cell b3 (j:=2) rfl,by simp[an],sub.trans b<|Gr.drawn a0⟩⟩⟩⟩,?_⟩;rintro _ _ b3⟨rfl,a0⟩;exact bm rfl ⟨ξ,ξ,⟨j+1,V,s,by rw[R,jw,<-S];simp,a0⟩,bS s⟩
 |nd ac b1 q b2 ce b3=>
  have cg:oy nd i=none:=by unfold oy;rw[A];simp
  rw[cg] at R;have dn:=(gJ.1 b2).1;obtain⟨ds,dv,dx,b4,ad,al,dy,dA,dC,rfl,_,b5⟩:=y.p.get (i:=ac) U;rw[b2] at b4;cases b4;have dF:q.length=b1.right.length:=by rw[<-b3,jO]
  have dG:=b5.1;have dW:q.length<=64:=by have:=ap _<|gg A;simpa using this
  refine bm (jM (by show¬((ac:Int)<0);omega)) ⟨λv Y=>v=false/\sub (hp m) (hp Y),λa0 v=>⟨λY=>sub (hp m)<|hp Y,Gr.drawn v,_,λam Y=>d.cell Y (j:=1) rfl,_,_,_,λam Y=>p.c4<|sub.trans l<|sub.trans b Y,bm (jM (by show¬((x.pl:Int)<=(ac:Int));omega)) ⟨_,_,_,λam Y=>p.c4<|sub.trans l<|sub.trans b Y,_,λam Y=>d.cell Y (j:=1) rfl,aI ad U ⟨_,λam Y=>al.cell0<|sub.trans b Y,_,λam Y=>d.cell0 Y,bm V ⟨_,_,_,λam Y=>p.c4<|sub.trans l<|sub.trans b Y,_,λam Y=>d.cell Y (j:=1) rfl,aI ad U ⟨_,_,_,λam Y=>al.cell (sub.trans b Y) (j:=1) rfl,_,_,_,λam Y=>d.cell Y (j:=3) rfl,by simp;omega,Gr.drawn v⟩⟩⟩⟩⟩,?_⟩;rintro _ _ e0⟨rfl,b6⟩;refine bm rfl ⟨λY a0=>∃v:Nat,Y=v/\v<=q.length/\sub (hp m) (hp a0),λv _=>q.length-v.toNat,⟨0,rfl,gu _,b6⟩,?_⟩;clear b6;rintro _ _ e1⟨v,rfl,e2,am⟩
  refine⟨_,_,_,d.cell am (j:=3) rfl,ae (λb7=>?_) λb7=>?_⟩
  ·have Y:v<q.length:=by have:=gZ b7;simp at this;omega
   obtain⟨a0,an⟩:∃ao,q[v]? =some ao:=⟨_,gn Y⟩;obtain⟨e3,ch,ci⟩:=cc.at (i:=v) (x:=(a0:Int)) (by rw[iE,an];rfl);obtain⟨ao,b9⟩:∃ba,b1.right[v]? =some ba:=⟨_,gn U⟩;obtain⟨e4,ck,cl⟩:=b5.at b9
   have cm:BI nd a0=ao:=by
    have:=congrArg (·[v]?) b3;simp only[iE,an,oI,b9] at this;exact Option.some.inj this
   have ba:a0<n:=by have:=ce a0<|gg an;omega
   obtain⟨cn,e5,e6,co,cp,cq,e7,e8,rfl,_⟩:=a8.get ba;have cs:cn.sym=ao:=by rw[<-cm];unfold BI;rw[co]
   intro ct cu;have bb:sub (hp m) (hp ct):=sub.trans am<|Gr.drawn cu;refine⟨λcv=>sub (hp m)<|hp cv,bb,_,_,_,λcx cv=>p.c4<|sub.trans l<|sub.trans b cv,_,λcx cv=>d.cell cv (j:=1) rfl,aI ad U ⟨_,_,_,λcx cv=>al.cell (sub.trans b cv) (j:=1) rfl,au ck U ⟨ao,λcv cx=>cl cv<|sub.trans b cx,_,_,_,λcx cv=>d.cell cv (j:=3) rfl,au ch (by simp;exact Y) ⟨_,λcv cx=>ci cv<|sub.trans b cx,aI cp ba ⟨_,λcx cv=>cq.cell0<|sub.trans b cv,bm (by simp[cs]) ⟨ξ,⟨v+1,V,Y,bb⟩,bS Y⟩⟩⟩⟩⟩⟩
  ·exact⟨ξ,⟨j+1,V,s,by rw[R,jw,<-S];simp,sub.trans b am⟩,bS s⟩
end
end Go.Proofs.YtaoaemnefghnbaaGreatDoor
