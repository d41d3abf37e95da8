/- Texts of this claim, one behind the other. -/
import Derived.Test.YtndaepmjkbmjmaaGreatDoorG3
import Derived.Test.YtndaepmjkbmjmaaGreatDoorG1
import Derived.Test.YtndaepmjkbmjmaaGreatDoorG2
set_option linter.unusedVariables false
set_option maxRecDepth 4000
namespace Go.V
inductive Nul (g:GramT):Int→Prop
  | mk (p:ProdT):p∈g.prods→(∀ s∈p.right,Nul g s)→Nul g p.left
inductive Fst (g:GramT):Int→Nat→Prop
  | tm (t:Nat):t < g.T→Fst g (t:Int) t
  | pr (p:ProdT) (i:Nat) (s:Int) (t:Nat):p∈g.prods→p.right[i]? = some s→(∀ x∈p.right.take i,Nul g x)→Fst g s t→Fst g p.left t
def NulR (g:GramT) (row:List Int):Prop:=∀ s∈row,Nul g s
def FstR (g:GramT) (row:List Int) (t:Nat):Prop:=∃ (i:Nat) (s:Int),row[i]? = some s∧(∀ x∈row.take i,Nul g x)∧Fst g s t
theorem rowN_iff {nl:List Bool} {row:List Int}:rowN nl row = true↔∀ s∈row,fnB nl s.toNat = true:=by
  unfold rowN; rw [List.all_eq_true]
theorem fnB_rowB (nl:List Bool) (vs:List (List Bool)):∀ (row:List Int) (bs:List Bool) (k:Nat),fnB (rowB nl vs bs row) k = true↔fnB bs k = true∨(k < bs.length∧∃ (i:Nat) (s:Int),row[i]? = some s∧(∀ x∈row.take i,fnB nl x.toNat = true)∧fnB (vs.getD s.toNat []) k = true)
  | [],bs,k=>by rw [rowB_nil]; simp
  | s :: r,bs,k=>by
    rw [rowB_cons]
    constructor
    · intro h
      by_cases hz:fnB nl s.toNat = true
      · rw [if_pos hz,fnB_rowB nl vs r] at h
        rw [fnB_add_mb,addB_len,Bool.or_eq_true,Bool.and_eq_true,decide_eq_true_eq] at h
        rcases h with (h | ⟨h1,h2⟩) | ⟨h1,i,y,h2,h3,h4⟩
        · exact .inl h
        · exact .inr ⟨h1,0,s,rfl,by simp,h2⟩
        · refine .inr ⟨h1,i + 1,y,h2,?_,h4⟩
          intro x hx
          rw [List.take_succ_cons] at hx
          rcases List.mem_cons.1 hx with rfl | hx
          · exact hz
          · exact h3 x hx
      · rw [if_neg hz,fnB_add_mb,Bool.or_eq_true,Bool.and_eq_true,decide_eq_true_eq] at h
        rcases h with h | ⟨h1,h2⟩
        · exact .inl h
        · exact .inr ⟨h1,0,s,rfl,by simp,h2⟩
    · intro h
      have hu:(fnB bs k = true∨(k < bs.length∧fnB (vs.getD s.toNat []) k = true))→fnB (addB bs (mbI (vs.getD s.toNat []))) k = true:=fun h=>by
        rw [fnB_add_mb,Bool.or_eq_true,Bool.and_eq_true,decide_eq_true_eq]; exact h
      by_cases hz:fnB nl s.toNat = true
      · rw [if_pos hz,fnB_rowB nl vs r,addB_len]
        rcases h with h | ⟨h1,i,y,h2,h3,h4⟩
        · exact .inl (hu (.inl h))
        · match i,h2,h3 with
          | 0,h2,_=>cases h2; exact .inl (hu (.inr ⟨h1,h4⟩))
          | i + 1,h2,h3=>exact .inr ⟨h1,i,y,h2,fun x hx=>h3 x (by rw [List.take_succ_cons]; exact List.mem_cons_of_mem _ hx),h4⟩
      · rw [if_neg hz]
        rcases h with h | ⟨h1,i,y,h2,h3,h4⟩
        · exact hu (.inl h)
        · match i,h2,h3 with
          | 0,h2,_=>cases h2; exact hu (.inr ⟨h1,h4⟩)
          | i + 1,h2,h3=>exact absurd (h3 s (by rw [List.take_succ_cons]; exact List.mem_cons_self)) hz
def InG (g:GramT):Prop:=∀ p∈g.prods,((g.T:Int)≤p.left∧p.left < g.T + g.N)∧∀ s∈p.right,0≤s∧s < (g.T:Int) + g.N
structure MkF (g:GramT) (nl:List Bool) (vs:List (List Bool)):Prop where
  ln:nl.length = g.T + g.N
  lv:vs.length = g.T + g.N
  le:∀ v∈vs,v.length = g.T
  sn:∀ i,fnB nl i = true→Nul g (i:Int)
  sv:∀ i t,fnB (vs.getD i []) t = true→Fst g (i:Int) t
  tm:∀ t,t < g.T→fnB (vs.getD t []) t = true
def ClP (nl:List Bool) (vs:List (List Bool)) (p:ProdT):Prop:=(rowN nl p.right = true→fnB nl p.left.toNat = true)∧rowB nl vs (vs.getD p.left.toNat []) p.right = vs.getD p.left.toNat []
theorem toNat_back {s:Int} (h:0≤s):((s.toNat:Nat):Int) = s:=by omega
theorem MkF.row {g:GramT} {nl:List Bool} {vs:List (List Bool)} (m:MkF g nl vs) {row:List Int} (hr:∀ s∈row,0≤s∧s < (g.T:Int) + g.N):(rowN nl row = true→NulR g row)∧∀ bs t,fnB (rowB nl vs bs row) t = true→fnB bs t = true∨FstR g row t:=by
  refine ⟨fun h s hs=>?_,fun bs t h=>?_⟩
  · have:=m.sn _ (rowN_iff.1 h s hs)
    rwa [toNat_back (hr s hs).1] at this
  · rcases (fnB_rowB nl vs row bs t).1 h with h | ⟨_,i,s,h1,h2,h3⟩
    · exact .inl h
    · refine .inr ⟨i,s,h1,fun x hx=>?_,?_⟩
      · have:=m.sn _ (h2 x hx)
        rwa [toNat_back (hr x (List.mem_of_mem_take hx)).1] at this
      · have:=m.sv _ _ h3
        rwa [toNat_back (hr s (List.mem_of_getElem? h1)).1] at this
theorem Nul.left {g:GramT} (hg:InG g) {s:Int} (h:Nul g s):(g.T:Int)≤s∧s < g.T + g.N:=by
  cases h with | mk p hp _=>exact (hg p hp).1
theorem Fst.lt {g:GramT} {s:Int} {t:Nat} (h:Fst g s t):t < g.T:=by
  induction h with
  | tm t h=>exact h
  | pr p i s t _ _ _ _ ih=>exact ih
structure AllF (g:GramT) (nl:List Bool) (vs:List (List Bool)):Prop where
  ln:nl.length = g.T + g.N
  lv:vs.length = g.T + g.N
  le:∀ v∈vs,v.length = g.T
  nn:∀ i,fnB nl i = true↔Nul g (i:Int)
  nv:∀ i t,fnB (vs.getD i []) t = true↔Fst g (i:Int) t
theorem MkF.getD_len {g:GramT} {nl:List Bool} {vs:List (List Bool)} (m:MkF g nl vs) {i:Nat} (hi:i < g.T + g.N):(vs.getD i []).length = g.T:=by
  have h:vs[i]? = some (vs[i]'(by rw [m.lv]; exact hi)):=List.getElem?_eq_getElem _
  rw [List.getD,h]
  exact m.le _ (List.mem_of_getElem? h)
theorem MkF.all {g:GramT} {nl:List Bool} {vs:List (List Bool)} (hg:InG g) (m:MkF g nl vs) (hc:∀ p∈g.prods,ClP nl vs p):AllF g nl vs:=by
  have cn:∀ s,Nul g s→fnB nl s.toNat = true:=fun s h=>by
    induction h with
    | mk p hp _ ih=>exact (hc p hp).1 (rowN_iff.2 ih)
  have cv:∀ s t,Fst g s t→fnB (vs.getD s.toNat []) t = true:=fun s t h=>by
    induction h with
    | tm t h=>exact m.tm t h
    | pr p i s t hp hi hx hs ih =>
      have hl:=(hg p hp).1
      rw [← (hc p hp).2,fnB_rowB]
      exact .inr ⟨by rw [m.getD_len (by omega)]; exact hs.lt,i,s,hi,fun x hx'=>cn x (hx x hx'),ih⟩
  exact ⟨m.ln,m.lv,m.le,fun i=>⟨m.sn i,fun h=>cn _ h⟩,fun i t=>⟨m.sv i t,fun h=>cv _ _ h⟩⟩
theorem AllF.row {g:GramT} {nl:List Bool} {vs:List (List Bool)} (m:AllF g nl vs) {row:List Int} (hr:∀ s∈row,0≤s∧s < (g.T:Int) + g.N):(rowN nl row = true↔NulR g row)∧∀ bs t,fnB (rowB nl vs bs row) t = true↔fnB bs t = true∨(t < bs.length∧FstR g row t):=by
  refine ⟨?_,fun bs t=>?_⟩
  · rw [rowN_iff]
    refine forall_congr' fun s=>⟨fun h hs=>?_,fun h hs=>?_⟩
    · have:=(m.nn _).1 (h hs); rwa [toNat_back (hr s hs).1] at this
    · exact (m.nn _).2 (by rw [toNat_back (hr s hs).1]; exact h hs)
  · rw [fnB_rowB]
    refine or_congr Iff.rfl (and_congr Iff.rfl (exists_congr fun i=>exists_congr fun s=>?_))
    refine ⟨fun ⟨h1,h2,h3⟩=>⟨h1,fun x hx=>?_,?_⟩,fun ⟨h1,h2,h3⟩=>⟨h1,fun x hx=>?_,?_⟩⟩
    · have:=(m.nn _).1 (h2 x hx); rwa [toNat_back (hr x (List.mem_of_mem_take hx)).1] at this
    · have:=(m.nv _ _).1 h3; rwa [toNat_back (hr s (List.mem_of_getElem? h1)).1] at this
    · exact (m.nn _).2 (by rw [toNat_back (hr x (List.mem_of_mem_take hx)).1]; exact h2 x hx)
    · exact (m.nv _ _).2 (by rw [toNat_back (hr s (List.mem_of_getElem? h1)).1]; exact h3)
def opn (v:List Bool):Nat:=v.length - cntB v
def meas (nl:List Bool) (vs:List (List Bool)):Nat:=opn nl + (vs.map opn).sum
theorem sum_set:∀ {l:List Nat} {k x y:Nat},l[k]? = some x→(l.set k y).sum + x = l.sum + y
  | [],k,x,y,h=>by simp at h
  | z :: l,0,x,y,h=>by simp at h; subst h; simp; omega
  | z :: l,k + 1,x,y,h=>by
    have:=sum_set (l:=l) (k:=k) (x:=x) (y:=y) (by simpa using h)
    simp; omega
theorem meas_set {nl:List Bool} {vs:List (List Bool)} {k:Nat} {v v' : List Bool} (h:vs[k]? = some v) (hl:v'.length = v.length) (hc:cntB v≤cntB v'):meas nl (vs.set k v') + (cntB v' - cntB v) = meas nl vs:=by
  have h1:=sum_set (l:=vs.map opn) (k:=k) (x:=opn v) (y:=opn v') (by rw [List.getElem?_map,h]; rfl)
  have h2:=cntB_le v
  have h3:=cntB_le v'
  unfold meas
  rw [List.map_set]
  unfold opn at *
  omega
end Go.V
set_option linter.unusedVariables false
set_option maxRecDepth 4000
namespace Go.V
theorem exists_least {P:Nat→Prop} (h:∃ m,P m):∃ m,P m∧∀ k,P k→m≤k:=by
  obtain ⟨m,hm⟩:=h
  induction m using Nat.strongRecOn with
  | _ m ih =>
    by_cases hl:∃ k,k < m∧P k
    · obtain ⟨k,hk,hp⟩:=hl
      exact ih k hk hp
    · exact ⟨m,hm,fun k hk=>Nat.le_of_not_lt fun hlt=>hl ⟨k,hlt,hk⟩⟩
theorem least_fn {α : Type} (P:α→Nat→Prop):∃ μ : α→Nat,(∀ x m,P x m→μ x≤m)∧∀ x,(∃ m,P x m)→P x (μ x):=by
  have h:∀ x,∃ m,(∀ k,P x k→m≤k)∧((∃ k,P x k)→P x m):=fun x=>by
    by_cases hx:∃ k,P x k
    · obtain ⟨m,h1,h2⟩:=exists_least hx
      exact ⟨m,h2,fun _=>h1⟩
    · exact ⟨0,fun k hk=>absurd ⟨k,hk⟩ hx,fun h=>absurd h hx⟩
  exact ⟨fun x=>(h x).choose,fun x=>(h x).choose_spec.1,fun x=>(h x).choose_spec.2⟩
theorem cnt_mono2 {m m' : Nat→Bool} (h:∀ k,m k = true→m' k = true):∀ n,cnt n m≤cnt n m'∧(cnt n m = cnt n m'→∀ k,k < n→m k = m' k)
  | 0=>⟨Nat.le_refl _,fun _ k hk=>by omega⟩
  | n + 1=>by
    obtain ⟨h1,h2⟩:=cnt_mono2 h n
    rw [cnt_succ,cnt_succ]
    have h3:=h n
    cases e:m n <;> cases e' : m' n
    · refine ⟨by simpa using h1,fun he k hk=>?_⟩
      by_cases ek:k = n
      · subst ek; rw [e,e']
      · exact h2 (by simpa using he) k (by omega)
    · simp only [Bool.false_eq_true,if_false,if_true]
      exact ⟨by omega,fun he=>by omega⟩
    · rw [e,e'] at h3; simp at h3
    · refine ⟨by simpa using h1,fun he k hk=>?_⟩
      by_cases ek:k = n
      · subst ek; rw [e,e']
      · exact h2 (by simpa using he) k (by omega)
theorem cntB_inj {bs cs:List Bool} (hl:cs.length = bs.length) (hs:∀ k,fnB bs k = true→fnB cs k = true) (hc:cntB cs = cntB bs):cs = bs:=by
  refine fnB_inj hl fun k=>?_
  by_cases hk:k < bs.length
  · unfold cntB at hc
    rw [hl] at hc
    exact ((cnt_mono2 hs bs.length).2 hc.symm k hk).symm
  · rw [fnB_out (by omega),fnB_out (by omega)]
theorem fnB_setT {nl:List Bool} {k:Nat} (hk:k < nl.length) (j:Nat):fnB (nl.set k true) j = (fnB nl j || j == k):=by
  unfold fnB
  rw [List.getD_eq_getElem?_getD,List.getD_eq_getElem?_getD,List.getElem?_set]
  by_cases e:k = j
  · subst e; simp [hk]
  · have:¬ j = k:=fun h=>e h.symm
    simp [e,this]
theorem opn_set {nl:List Bool} {k:Nat} (hk:k < nl.length) (hf:fnB nl k = false):opn (nl.set k true) + 1 = opn nl:=by
  have h1:cntB (nl.set k true) = cntB nl + 1:=by
    unfold cntB
    rw [List.length_set,← cnt_add hk hf]
    exact cnt_congr fun j _=>fnB_setT hk j
  have h2:=cntB_le (nl.set k true)
  rw [List.length_set] at h2
  unfold opn
  rw [List.length_set]
  omega
theorem getD_setV {vs:List (List Bool)} {k:Nat} (hk:k < vs.length) (v:List Bool) (j:Nat):(vs.set k v).getD j [] = if j = k then v else vs.getD j []:=by
  rw [List.getD_eq_getElem?_getD,List.getD_eq_getElem?_getD,List.getElem?_set]
  by_cases e:k = j
  · subst e; simp [hk]
  · have:¬ j = k:=fun h=>e h.symm
    simp [e,this]
theorem MkF.lay {g:GramT} (hg:InG g) {nl:List Bool} {vs:List (List Bool)} (m:MkF g nl vs) {p:ProdT} (hp:p∈g.prods):MkF g nl (vs.set p.left.toNat (rowB nl vs (vs.getD p.left.toNat []) p.right)):=by
  obtain ⟨hl,hr⟩:=hg p hp
  have hk:p.left.toNat < g.T + g.N:=by omega
  have hkv:p.left.toNat < vs.length:=by rw [m.lv]; exact hk
  refine ⟨m.ln,by rw [List.length_set]; exact m.lv,fun v hv=>?_,m.sn,fun i t h=>?_,fun t ht=>?_⟩
  · rcases List.mem_or_eq_of_mem_set hv with hv | rfl
    · exact m.le v hv
    · rw [rowB_len]; exact m.getD_len hk
  · rw [getD_setV hkv] at h
    split at h
    · rename_i e
      subst e
      rw [toNat_back (by omega)]
      rcases (m.row hr).2 _ _ h with h | ⟨i,s,h1,h2,h3⟩
      · have:=m.sv _ _ h; rwa [toNat_back (by omega)] at this
      · exact .pr p i s t hp h1 h2 h3
    · exact m.sv _ _ h
  · rw [getD_setV hkv]
    split
    · omega
    · exact m.tm t ht
theorem MkF.van {g:GramT} (hg:InG g) {nl:List Bool} {vs:List (List Bool)} (m:MkF g nl vs) {p:ProdT} (hp:p∈g.prods) (hn:NulR g p.right):MkF g (nl.set p.left.toNat true) vs:=by
  obtain ⟨hl,hr⟩:=hg p hp
  have hk:p.left.toNat < nl.length:=by rw [m.ln]; omega
  refine ⟨by rw [List.length_set]; exact m.ln,m.lv,m.le,fun i h=>?_,m.sv,m.tm⟩
  rw [fnB_setT hk,Bool.or_eq_true,beq_iff_eq] at h
  rcases h with h | rfl
  · exact m.sn i h
  · rw [toNat_back (by omega)]; exact .mk p hp hn
theorem meas_le {g:GramT} {nl:List Bool} {vs:List (List Bool)} (m:MkF g nl vs):meas nl vs≤(g.T + g.N) + (g.T + g.N) * g.T:=by
  unfold meas
  have h1:opn nl≤g.T + g.N:=by unfold opn; rw [m.ln]; omega
  have h2:∀ l:List (List Bool),(∀ v∈l,v.length = g.T)→(l.map opn).sum≤l.length * g.T:=fun l=>by
    induction l with
    | nil=>intro _; simp
    | cons v l ih =>
      intro h
      have h3:=ih fun u hu=>h u (List.mem_cons_of_mem _ hu)
      have h4:opn v≤g.T:=by unfold opn; rw [h v List.mem_cons_self]; omega
      simp only [List.map_cons,List.sum_cons,List.length_cons,Nat.succ_mul]
      omega
  have h3:=h2 vs m.le
  rw [m.lv] at h3
  omega
theorem inG {g:GramT} (h:EitherP g):InG g∧g.T≤65∧g.N≤65∧0 < g.N∧0 < g.T∧g.prods.length≤97:=by
  have hT:g.T = g.terms.length:=rfl
  have hN:g.N = g.nons.length:=rfl
  rcases h with ⟨s,p,_⟩ | ⟨h0,s,p,q,hq,q1,q2,q3⟩
  · have h2:=syms_iff.1 s
    have t0:0 < g.terms.length:=(List.getElem?_eq_some_iff.1 s.1).1
    refine ⟨fun r hr=>?_,by omega,by omega,by omega,by omega,by have:=p.2.1; omega⟩
    have:=p.2.2.1 r hr
    exact ⟨⟨by have:=this.1.1; omega,this.1.2.1⟩,fun y hy=>by have:=this.2 y hy; unfold symOk at this; omega⟩
  · have h2:=syms_iff.1 s
    have t0:0 < g.terms.length:=(List.getElem?_eq_some_iff.1 s.1).1
    refine ⟨fun r hr=>?_,by omega,by omega,by omega,by omega,by have:=p.2.1; omega⟩
    have hd:r = q∨r∈g.prods.drop 1:=by
      cases hg:g.prods with
      | nil=>rw [hg] at hr; cases hr
      | cons a l =>
        rw [hg] at hr hq
        cases hq
        rcases List.mem_cons.1 hr with h | h
        · exact .inl h
        · exact .inr h
    rcases hd with rfl | hd
    · refine ⟨by omega,fun y hy=>?_⟩
      rw [q2,List.mem_singleton] at hy
      subst hy
      have:=p.2.2.2.2; omega
    · have:=p.2.2.1 r hd
      exact ⟨⟨by have:=this.1.1; omega,this.1.2.1⟩,fun y hy=>by have:=this.2 y hy; unfold symOk at this; omega⟩
end Go.V
set_option linter.unusedVariables false
set_option maxRecDepth 4000
namespace Go.V
theorem name_it {α : Sort _} (a:α):∃ q,q = a:=⟨a,rfl⟩
def FC (x:GA) (k14 n:Nat) (o:Option Addr) (j c:Nat):List Value:=[.slice x.ta x.tl x.tc,.slice x.na x.nl x.nc,.slice x.la x.ll x.lc,.int .i64 x.s,.slice x.pa x.pl x.pc,.slice (some ⟨k14,0,none⟩) n n,.slice o j c]
def initV (T j:Nat):List (List Bool):=(List.range j).map fun (i:Nat)=>ofB (T:Int) [(i:Int)]
theorem initV_succ (T j:Nat):initV T (j + 1) = initV T j ++ [ofB (T:Int) [(j:Int)]]:=by simp [initV,List.range_succ]
theorem initV_len (T j:Nat):(initV T j).length = j:=by simp [initV]
theorem ofB_fn {T i:Nat} (hT:T≤65) (t:Nat):(ofB (T:Int) [(i:Int)]).length = T∧(fnB (ofB (T:Int) [(i:Int)]) t = true↔t = i∧t < T):=by
  have hN:ofN (T:Int) = T:=by unfold ofN; split <;> split at * <;> omega
  unfold ofB
  refine ⟨by rw [addB_len,List.length_replicate,hN],?_⟩
  rw [fnB_add,List.length_replicate,hN,addS,fnB_rep,Bool.false_or]
  simp only [Bool.and_eq_true,decide_eq_true_eq,List.contains_iff_mem,List.mem_singleton]
  omega
theorem initV_mk {g:GramT} (hT:g.T≤65):MkF g (List.replicate (g.T + g.N) false) (initV g.T (g.T + g.N)):=by
  have hget:∀ i,fnB ((initV g.T (g.T + g.N)).getD i []) = if i < g.T + g.N then fnB (ofB (g.T:Int) [(i:Int)]) else fnB []:=fun i=>by
    unfold initV
    rw [List.getD_eq_getElem?_getD,List.getElem?_map]
    by_cases h:i < g.T + g.N
    · rw [List.getElem?_range h,if_pos h]; rfl
    · rw [List.getElem?_eq_none (by simp; omega),if_neg h]; rfl
  refine ⟨by simp,initV_len _ _,fun v hv=>?_,fun i h=>?_,fun i t h=>?_,fun t ht=>?_⟩
  · obtain ⟨i,_,rfl⟩:=List.mem_map.1 hv
    exact (ofB_fn hT 0).1
  · rw [fnB_rep] at h; cases h
  · rw [hget] at h
    split at h
    · obtain ⟨rfl,h'⟩:=((ofB_fn hT t).2).1 h
      exact .tm t h'
    · simp [fnB] at h
  · rw [hget,if_pos (by omega)]
    exact (ofB_fn hT t).2.2 ⟨rfl,ht⟩
end Go.V
namespace Go.Proofs.YtndaepmjkbmjmaaGreatDoor
open Go.V
section
variable {w:World} {L:List Asn} {g:GramT} {x:GA}
set_option maxHeartbeats 4000000 in
theorem f_of (hg:gR (hp w) g x) (hb:okG g) (he:EitherP g) (ht:tabA (hp w)):Run Tryz.prog n_first_of [.agg ⟨x.cells⟩] w fun v w'=>∃ (b k14:Nat) (o:Option Addr) (c:Nat) (nl:List Bool) (ps:List Nat) (vs:List (List Bool)),v = .pointer (some ⟨b,0,none⟩)∧AllF g nl vs∧ps.length = vs.length ∧
    St w' (cel b (FC x k14 (g.T + g.N) o ps.length c) :: cel k14 (bv nl) :: own 1 o ps.length c (pv (ps.map bk)) :: sta (setsA ps vs) :: all w):=by
  refine run_first_of _ _ _ _ _ _ _ _ _ _ _ _ _ w _ ?_
  refine gbox hg fun k1 w1 gw hg B=>?_
  obtain ⟨iG,bT,bN,pN,pT,bP⟩:=inG he
  have tl:g.T = x.tl:=hg.t.1
  have nl:g.N = x.nl:=hg.n.1
  have pl:=hg.p.1
  have ht:=rdV.mono gw ht
  refine ⟨_,_,_,B.c0 (sub.refl _),_,_,_,B.c1 (sub.refl _),⟨by omega,by omega⟩,fun w2 hd=>?_⟩
  have e2:hp w2 = hp w1:=hp_drawn hd
  have gs:sub (hp w) (hp w1):=gw
  generalize hH:hp w1 = H at *
  have eN:(x.tl:Int) + (x.nl:Int) = ((g.T + g.N:Nat):Int):=by rw [tl,nl]; omega
  rw [eN]
  have hTe:(x.tl:Int) = (g.T:Int):=by rw [tl]
  rw [Int.toNat_natCast,reps_one]
  have h2:St w2 [has H]:=by have:=St.all w2; unfold V.all at this; rwa [e2] at this
  refine ⟨fun w=>sub H (hp w),e2 ▸ sub.refl _,_,_,_,_,_,_,_,_,_,_,_,_,_,fun w s=>B.row s,⟨by omega,rfl,by omega⟩,newC_i h2 fun k14 w4 h4=>⟨rdH 1 h4.l,newC_i h4 fun k15 w5 h5=>⟨rdH 2 h5.l,?_⟩⟩⟩
  clear h2 h4
  have bvr:List.replicate (g.T + g.N) (Value.bool false) = bv (List.replicate (g.T + g.N) false):=by simp [bv]
  rw [bvr] at h5
  refine ⟨fun n w'=>∃ (j:Nat) (o:Option Addr) (c:Nat) (ps:List Nat),n = j∧j≤g.T + g.N∧ps.length = j∧St w' [cel k15 (FC x k14 (g.T + g.N) o j c),cel k14 (bv (List.replicate (g.T + g.N) false)),own 1 o j c (pv (ps.map bk)),sta (setsA ps (initV g.T j)),has H],fun n _=>g.T + g.N - n.toNat,⟨0,none,0,[],rfl,by omega,rfl,?_⟩,?_⟩
  · have h6:=own_nil 1 h5
    have h7:St w5 (sta (setsA [] (initV g.T 0)) :: _):=St.flat.2 (show St w5 ([] ++ _) from h6)
    exact h7.pick 5 [2,3,1,0,4]
  clear h5
  rintro _ n2 w6 ⟨j,o,c,ps,rfl,hj,hps,h⟩
  refine br_intro (fun hlt=>?_) fun hlt=>?_
  · have hlt:j < g.T + g.N:=by have:=of_decide_eq_true hlt; omega
    intro w7 hd
    have h:=h.drawn hd
    have I:∀ {w:World} {cs},rowH (hp w) ⟨k15,0,none⟩ cs→sub H (hp w)→rowH (hp w) ⟨k15,0,none⟩ cs∧sub H (hp w):=fun a b=>⟨a,b⟩
    refine ⟨fun w=>rowH (hp w) ⟨k15,0,none⟩ (FC x k14 (g.T + g.N) o j c)∧sub H (hp w),I (rdCel 0 h.l) (rdH 4 h.l),_,_,_,fun w h=>h.1.cell (sub.refl _) (j:=6) rfl,_,_,_,fun w h=>B.c0 h.2,newC_i h fun k20 w10 h=>⟨I (rdCel 1 h.l) (rdH 5 h.l),?_⟩⟩
    refine (s_Of (xs:=[(j:Int)]) (l:=1) (x.tl:Int) (rdI_of rfl (.inr ⟨_,rfl,rdCel 0 h.l⟩)) (by omega)).mono ?_
    rintro _ w11 ⟨px,rfl,h1⟩
    have h:=h1.on1 h
    refine ⟨_,rfl,I (rdCel 2 h.l) (rdH 6 h.l),newC_i h fun k21 w12 h=>⟨I (rdCel 3 h.l) (rdH 7 h.l),?_⟩⟩
    refine (app_one tyOk (rfl:kdOfT Ty _ = .slice _) (rfl:kdOfT Ty _ = .slice _) rfl rfl rfl (h.pick 8 [0,5,1,2,3,4,6,7]) rfl (by simp [oneC]) (by show (_ + 1) * 8≤_; omega) (by omega)).mono ?_
    rintro _ w13 ⟨o',c',rfl,h⟩
    refine ⟨_,_,_,rfl,I (rdCel 4 h.l) (rdH 7 h.l),?_⟩
    show st1 w13 ((⟨k15,0,none⟩ : Addr).add 6) _ _
    rw [add_lit0]
    refine st1_i (h.pick 8 [4,0,2,5,6,7]) (by simp [FC]) fun w14 h=>⟨⟨by omega,by omega⟩,⟨j + 1,o',c',ps ++ [px],by simp,by omega,by simp [hps],?_⟩,msr hlt⟩
    have h:St w14 [cel k15 (FC x k14 (g.T + g.N) o' (j + 1) c'),own 1 o' (j + 1) c' (pv (ps.map bk) ++ [.pointer (some ⟨px,0,none⟩)]),setO (some ⟨px,0,none⟩) (ofB (x.tl:Int) [(j:Int)]),cel k14 (bv (List.replicate (g.T + g.N) false)),sta (setsA ps (initV g.T j)),has H]:=h
    have e1:pv (ps.map bk) ++ [.pointer (some ⟨px,0,none⟩)] = pv ((ps ++ [px]).map bk):=by simp [pv,bk]
    have lSv:(setsA ps (initV g.T j) ++ [setO (some ⟨px,0,none⟩) (ofB (x.tl:Int) [(j:Int)])]) = setsA (ps ++ [px]) (initV g.T (j + 1)):=by
      rw [initV_succ,hTe]; unfold setsA; rw [List.zipWith_append (by rw [initV_len]; exact hps)]; rfl
    rw [e1] at h
    have h:=St.snoc (A:=setO (some ⟨px,0,none⟩) (ofB (x.tl:Int) [(j:Int)])) (M:=setsA ps (initV g.T j)) (h.pick 6 [2,4,0,1,3,5])
    rw [lSv] at h
    exact h.pick 5 [1,3,2,0,4]
  have hlt:j = g.T + g.N:=by have:=of_decide_eq_false hlt; omega
  subst hlt
  obtain ⟨Q,hQ⟩:=name_it (fun (n:Int) (w:World) (m:Nat)=>∃ (nl:List Bool) (vs:List (List Bool)),MkF g nl vs∧0≤n∧(m:Int) = meas nl vs + (if 0 < n then 1 else 0)∧(n = 0→∀ p∈g.prods,ClP nl vs p) ∧
    St w [cel k15 (FC x k14 (g.T + g.N) o (g.T + g.N) c),cel k14 (bv nl),own 1 o (g.T + g.N) c (pv (ps.map bk)),sta (setsA ps vs),has H])
  obtain ⟨μ,mu1,mu2⟩:=least_fn (fun (y:Int × World) m=>Q y.1 y.2 m)
  refine ⟨fun n w'=>∃ m,Q n w' m,fun n w=>μ (n,w),⟨meas (List.replicate (g.T + g.N) false) (initV g.T (g.T + g.N)) + 1,?_⟩,?_⟩
  · rw [hQ]
    exact ⟨_,_,initV_mk bT,by decide,by simp,fun h=>absurd h (by decide),h⟩
  clear h
  intro _ n3 w15 hP
  have hP:=mu2 (n3,w15) hP
  dsimp only at hP
  generalize hμ : μ (n3,w15) = μ0 at *
  rw [hQ] at hP
  obtain ⟨nl0,vs0,mk0,hn3,hmu,hcl,h⟩:=hP
  refine br_intro (fun hpos=>?_) fun hpos=>?_
  rotate_left
  · have hpos:=of_decide_eq_false hpos
    have hcl:=hcl (by omega)
    refine ⟨k15,k14,o,c,nl0,ps,vs0,rfl,mk0.all iG hcl,by rw [hps,mk0.lv],?_⟩
    rw [hps]
    exact St.on (N:=[_,_,_,_]) h (has_i gs)
  have hpos:=of_decide_eq_true hpos
  rw [if_pos hpos] at hmu
  refine ⟨_,_,_,B.c4 (rdH 4 h.l),fun n4 n5 w'=>∃ (j:Nat) (nl:List Bool) (vs:List (List Bool)),n5 = j∧j≤x.pl∧0≤n4∧n4 + meas nl vs = meas nl0 vs0∧MkF g nl vs∧(n4 = 0→∀ p∈g.prods.take j,ClP nl vs p)∧St w' [cel k15 (FC x k14 (g.T + g.N) o (g.T + g.N) c),cel k14 (bv nl),own 1 o (g.T + g.N) c (pv (ps.map bk)),sta (setsA ps vs),has H],fun _ n5 _=>x.pl - n5.toNat,⟨0,nl0,vs0,rfl,by omega,by omega,by omega,mk0,by simp,h⟩,?_⟩
  clear h
  rintro _ n4 n5 w16 ⟨j,nl,vs,rfl,hj,hn4,hm4,mk,hcl4,h⟩
  refine br_intro (fun hlt=>?_) fun hlt=>?_
  rotate_left
  · have hlt:j = x.pl:=by have:=of_decide_eq_false hlt; omega
    subst hlt
    rw [List.take_of_length_le (by omega)] at hcl4
    have key:Q n4 w16 (meas nl vs + (if 0 < n4 then 1 else 0)):=by
      rw [hQ]; exact ⟨nl,vs,mk,hn4,by split <;> simp,hcl4,h⟩
    refine ⟨⟨_,key⟩,?_⟩
    have:=mu1 (n4,w16) _ key
    dsimp only
    rw [hμ]
    split at this <;> omega
  have hlt:j < x.pl:=by have:=of_decide_eq_true hlt; omega
  obtain ⟨p,ad,pvs,hp1,hpa,hp2,a,l,c3,rfl,hlc,hp3⟩:=hg.p.get hlt
  have hpm:=List.mem_of_getElem? hp1
  obtain ⟨hpl,hpr⟩:=iG p hpm
  have et:g.prods.take (j + 1) = g.prods.take j ++ [p]:=by rw [List.take_add_one,hp1]; rfl
  refine idx_n hpa hlt ⟨_,_,_,_,_,hp2.at (rdH 4 h.l) rfl,newC_i h fun k28 w17 h=>stR_i h rfl (by intro v hv; simp at hv; rcases hv with rfl | rfl | rfl <;> rfl) fun w18 h=>?_⟩
  intro w19 hd
  have h:=h.drawn hd
  obtain ⟨k,hk⟩ : ∃ k:Nat,p.left = k:=⟨p.left.toNat,by omega⟩
  rw [hk] at h
  have hkt:p.left.toNat = k:=by omega
  have hkN:k < g.T + g.N:=by omega
  obtain ⟨px,hpx⟩ : ∃ px,ps[k]? = some px:=⟨ps[k]'(by omega),List.getElem?_eq_getElem _⟩
  obtain ⟨v,hv⟩ : ∃ v,vs[k]? = some v:=⟨vs[k]'(by rw [mk.lv]; exact hkN),List.getElem?_eq_getElem _⟩
  have hvd:vs.getD k [] = v:=by rw [List.getD_eq_getElem?_getD,hv]; rfl
  have hpb:(ps.map bk)[k]? = some (bk px):=by rw [List.getElem?_map,hpx]; rfl
  have rp:rdS (hp w19) (ps.map bk) o (g.T + g.N):=rdPt 3 h.l rfl rfl (by simp [hps])
  obtain ⟨q,ad2,hq1,hqa,hq2⟩:=rp.get1 hkN
  rw [hpb] at hq1; cases hq1
  refine ⟨fun w=>rowH (hp w) ⟨k15,0,none⟩ (FC x k14 (g.T + g.N) o (g.T + g.N) c)∧rowH (hp w) ⟨k28,0,none⟩ [.int .i64 (k:Int),.slice a l c3,.int .i64 p.level]∧rdS (hp w) (ps.map bk) o (g.T + g.N),⟨rdCel 1 h.l,rdCel 0 h.l,rp⟩,_,_,_,fun w h=>h.1.cell (sub.refl _) (j:=6) rfl,_,fun w h=>h.2.1.cell0 (sub.refl _),?_⟩
  refine idx_i hqa hkN ⟨bk px,fun w h=>?_,_,_,_,fun w h=>h.2.1.cell (sub.refl _) (j:=1) rfl,?_⟩
  · obtain ⟨q',ad',e1,e2,e3⟩:=h.2.2.get1 hkN
    rw [hpb] at e1; cases e1
    rw [hqa] at e2; cases e2
    exact e3 _ (sub.refl _)
  have gS:(setsA ps vs)[k]? = some (setO (bk px) v):=by unfold setsA; rw [List.getElem?_zipWith,hpx,hv]
  have setS:∀ v',(setsA ps vs).set k (setO (bk px) v') = setsA ps (vs.set k v'):=fun v'=>zip_set (fun p v=>setO (bk p) v) hpx
  have h:=St.out (h.pick 6 [4,0,1,2,3,5]) gS
  refine (f_row (nulls:=nl) (os:=ps.map bk) (vss:=vs) (row:=p.right) (gs:=x.cells) h (fun h hh=>rdCel 2 hh) rfl (fun h hh=>rdB_of mk.ln (.inr ⟨_,rfl,rdCel 3 hh⟩)) (fun h hh=>rdPt 4 hh rfl rfl (by simp [hps])) (by simp [hps,mk.lv]) (by simp [hps,mk.ln]) (fun h hh i q v' hi hv'=>?_) (fun h hh=>rdV.mono (rdH 5 hh) ht) (fun h hh=>hp3.mono (rdH 5 hh)) (fun s hs=>⟨(hpr s hs).1,?_⟩) ?_).mono ?_
  · rw [List.getElem?_map] at hi
    cases hpi:ps[i]? with
    | none=>rw [hpi] at hi; cases hi
    | some pi =>
      rw [hpi] at hi; cases hi
      by_cases ek:i = k
      · subst ek
        rw [hpx] at hpi; cases hpi
        rw [hv] at hv'; cases hv'
        exact .inr ⟨rfl,rfl⟩
      · exact .inl (rdSE 0 hh hpi hv' ek)
  · have:=(hpr s hs).2; simp [hps]; omega
  · have:=hp3.1; have:=hb.2.2.2.2.2.2 p hpm; omega
  rintro _ w24 ⟨rfl,h⟩
  have mk':=mk.lay iG hpm
  rw [hkt,hvd] at mk'
  have hv'l:(rowB nl vs v p.right).length = v.length:=rowB_len _ _ _ _
  have hcv:=cntB_rowB nl vs p.right v
  have hms:=meas_set (nl:=nl) hv hv'l hcv
  have hsb:=fnB_rowB_sub nl vs p.right v
  have hml:=meas_le mk0
  have hmb:(g.T + g.N) + (g.T + g.N) * g.T≤100000:=by
    have:=Nat.mul_le_mul (show g.T + g.N≤130 by omega) bT; omega
  have hstay:(rowN nl p.right = true→fnB nl k = true)→n4 + ((cntB (rowB nl vs v p.right):Int) - cntB v) = 0→∀ r∈g.prods.take (j + 1),ClP nl (vs.set k (rowB nl vs v p.right)) r:=fun hnn h0 r hr=>by
    have e0:rowB nl vs v p.right = v:=cntB_inj hv'l hsb (by omega)
    have e1:vs.set k v = vs:=by
      apply List.ext_getElem?
      intro i
      rw [List.getElem?_set]
      split
      · rename_i e; subst e; rw [hv]; simp; rw [mk.lv]; exact hkN
      · rfl
    rw [e0,e1]
    rw [et] at hr
    rcases List.mem_append.1 hr with hr | hr
    · exact hcl4 (by omega) r hr
    · simp at hr; subst hr
      unfold ClP
      rw [hkt,hvd]
      exact ⟨hnn,e0⟩
  have h:=St.back h gS
  rw [setS] at h
  generalize rowB nl vs v p.right = v' at *
  refine ⟨_,_,rfl,⟨rdCel 2 h.l,rdCel 1 h.l,rdPt 4 h.l rfl rfl (by simp [hps])⟩,⟨by omega,by omega⟩,fun w25 hd=>?_⟩
  have h:=h.drawn hd
  have stay:∀ {w'},St w' [sta (setsA ps (vs.set k v')),cel k28 [.int .i64 (k:Int),.slice a l c3,.int .i64 p.level],cel k15 (FC x k14 (g.T + g.N) o (g.T + g.N) c),cel k14 (bv nl),own 1 o (g.T + g.N) c (pv (ps.map bk)),has H]→(rowN nl p.right = true→fnB nl k = true)→inI ((j:Int) + 1)∧(∃ (j' : Nat) (nl:List Bool) (vs:List (List Bool)),(j:Int) + 1 = j'∧j'≤x.pl∧0≤n4 + ((cntB v' : Int) - cntB v)∧n4 + ((cntB v' : Int) - cntB v) + meas nl vs = meas nl0 vs0∧MkF g nl vs∧(n4 + ((cntB v' : Int) - cntB v) = 0→∀ p∈g.prods.take j',ClP nl vs p)∧St w' [cel k15 (FC x k14 (g.T + g.N) o (g.T + g.N) c),cel k14 (bv nl),own 1 o (g.T + g.N) c (pv (ps.map bk)),sta (setsA ps vs),has H])∧x.pl - ((j:Int) + 1).toNat < x.pl - (j:Int).toNat:=fun {w'} h hnn=>by
    refine ⟨⟨by omega,by omega⟩,⟨j + 1,nl,vs.set k v',by simp,by omega,by omega,by omega,mk',hstay hnn,h.pick 6 [2,3,4,0,5]⟩,msr hlt⟩
  refine ⟨fun w=>sub (hp w25) (hp w),sub.refl _,br_intro (fun h1=>?_) fun h1=>stay h fun h2=>by rw [h1] at h2; cases h2⟩
  refine ⟨_,_,_,fun w s=>(rdCel (b:=k15) (vs:=FC x k14 (g.T + g.N) o (g.T + g.N) c) 2 h.l).cell s (j:=5) rfl,_,fun w s=>(rdCel (b:=k28) (vs:=[.int .i64 (k:Int),.slice a l c3,.int .i64 p.level]) 1 h.l).cell0 s,?_⟩
  have rn:rdS (hp w25) nl (some ⟨k14,0,none⟩) (g.T + g.N):=rdB_of mk.ln (.inr ⟨_,rfl,rdCel 3 h.l⟩)
  obtain ⟨z,ad3,hz1,hza,hz2⟩:=rn.get1 hkN
  have hzd:fnB nl k = z:=by unfold fnB; rw [List.getD_eq_getElem?_getD,hz1]; rfl
  cases hza
  refine idx_i rfl hkN ⟨z,fun w s=>hz2 _ s,br_intro (fun h2=>?_) fun h2=>stay h fun _=>by rw [hzd]; simpa using h2⟩
  have h2:z = false:=by simpa using h2
  subst h2
  intro w29 hd
  have h:=h.drawn hd
  refine ⟨fun w=>sub (hp w29) (hp w),sub.refl _,_,_,_,fun w s=>(rdCel (b:=k15) (vs:=FC x k14 (g.T + g.N) o (g.T + g.N) c) 2 h.l).cell s (j:=5) rfl,_,fun w s=>(rdCel (b:=k28) (vs:=[.int .i64 (k:Int),.slice a l c3,.int .i64 p.level]) 1 h.l).cell0 s,?_⟩
  refine idx_i rfl hkN ?_
  rw [add_lit0]
  refine st1_i (h.pick 6 [3,0,2,4,5]) (by simp [bv,mk.ln]; exact hkN) fun w32 h=>?_
  have eb:(bv nl).set k (.bool true) = bv (nl.set k true):=by unfold bv; rw [List.map_set]
  rw [eb] at h
  have ho:=opn_set (nl:=nl) (k:=k) (by rw [mk.ln]; exact hkN) hzd
  have mk2:=mk'.van iG hpm ((mk.row hpr).1 h1)
  rw [hkt] at mk2
  have hm2:meas (nl.set k true) (vs.set k v') + 1 = meas nl (vs.set k v'):=by unfold meas; omega
  exact ⟨⟨by omega,by omega⟩,⟨by omega,by omega⟩,⟨j + 1,nl.set k true,vs.set k v',by simp,by omega,by omega,by omega,mk2,fun h0=>by omega,h.pick 5 [2,0,3,1,4]⟩,msr hlt⟩
end
end Go.Proofs.YtndaepmjkbmjmaaGreatDoor
set_option linter.unusedVariables false
set_option maxRecDepth 4000
namespace Go.V
def NnP (g:GramT) (nn:List Bool):Prop:=nn.length = g.N∧∀ i:Nat,fnB nn i = true↔Nul g ((g.T + i:Nat):Int)
def BsP (g:GramT) (row:List Int) (bs:List Bool):Prop:=bs.length = g.T∧∀ t,fnB bs t = true↔FstR g row t
def SyP (g:GramT) (row:List Int):Prop:=∀ s∈row,0≤s∧s < (g.T:Int) + g.N
theorem fnB_dropL (l:List Bool) (k i:Nat):fnB (l.drop k) i = fnB l (k + i):=by
  unfold fnB; rw [List.getD_eq_getElem?_getD,List.getD_eq_getElem?_getD,List.getElem?_drop]
theorem BsP.inj {g:GramT} {row:List Int} {bs cs:List Bool} (h:BsP g row bs) (k:BsP g row cs):bs = cs :=
  fnB_inj (h.1.trans k.1.symm) fun i=>by rw [Bool.eq_iff_iff,h.2,k.2]
theorem NnP.inj {g:GramT} {bs cs:List Bool} (h:NnP g bs) (k:NnP g cs):bs = cs :=
  fnB_inj (h.1.trans k.1.symm) fun i=>by rw [Bool.eq_iff_iff,h.2,k.2]
end Go.V
namespace Go.Proofs.YtndaepmjkbmjmaaGreatDoor
open Go.V
section
variable {w:World} {L:List Asn} {g:GramT} {x:GA}
theorem f_either (hg:gR (hp w) g x) (hb:okG g):Run Tryz.prog n_first_either [.agg ⟨x.cells⟩] w fun v w'=>(∃ r:Bool,v = .bool r∧(r = true↔EitherP g))∧Gr w w':=by
  refine run_first_either _ _ _ _ _ _ _ _ _ _ _ _ _ w _ ?_
  refine gbox hg fun k1 w1 gw hg B=>?_
  refine ⟨_,_,_,_,_,_,_,_,_,_,_,_,_,B.row (sub.refl _),(g_Valid (x:=x) hg hb).mono ?_⟩
  rintro _ w2 ⟨⟨r1,rfl,e1⟩,g2⟩
  unfold EitherP
  rw [← e1]
  refine ⟨_,rfl,br_intro (fun h1=>⟨⟨true,rfl,by simp [h1]⟩,gw.trans g2⟩) fun h1=>⟨_,_,_,_,_,_,_,_,_,_,_,_,_,B.row g2,(g_Closed (x:=x) (hg.mono g2) hb).mono ?_⟩⟩
  rintro _ w3 ⟨⟨r2,rfl,e2⟩,g3⟩
  rw [← e2]
  exact ⟨_,rfl,⟨r2,rfl,by simp [h1]⟩,gw.trans (g2.trans g3)⟩
theorem f_Nullable (hg:gR (hp w) g x) (hb:okG g) (ht:tabA (hp w)):Run Tryz.prog n_first_Nullable [.agg ⟨x.cells⟩] w fun v w' =>
    (¬ EitherP g∧v = .tuple #[.slice none 0 0,.int .i64 1]∧Gr w w') ∨
    (EitherP g∧∃ (k:Nat) (nl nn:List Bool),nl.length = g.T∧NnP g nn∧v = .tuple #[.slice (some ⟨k,g.T,none⟩) g.N g.N,.int .i64 0]∧St w' (cel k (bv (nl ++ nn)) :: all w)):=by
  refine run_first_Nullable _ _ _ _ _ _ _ _ _ _ _ _ _ w _ ?_
  refine gbox hg fun k1 w1 gw hg B=>?_
  refine ⟨_,_,_,_,_,_,_,_,_,_,_,_,_,B.row (sub.refl _),(f_either (x:=x) hg hb).mono ?_⟩
  rintro _ w2 ⟨⟨r,rfl,e⟩,g2⟩
  refine ⟨_,rfl,br_intro (fun h1=>.inl ⟨fun he=>?_,rfl,gw.trans g2⟩) fun h1=>fun w3 hd=>?_⟩
  · rw [e.2 he] at h1; cases h1
  have he:=e.1 (by simpa using h1)
  have g3:Gr w1 w3:=g2.trans (Gr.drawn hd)
  obtain ⟨iG,bT,bN,pN,pT,bP⟩:=inG he
  have tl:g.T = x.tl:=hg.t.1
  refine ⟨fun w=>Gr w3 w,Gr.refl _,_,_,_,_,_,_,_,_,_,_,_,_,_,fun w s=>B.row (g3.trans s),_,_,_,fun w s=>B.c0 (g3.trans s),(f_of (x:=x) (hg.mono g3) hb he (rdV.mono (gw.trans g3) ht)).mono ?_⟩
  rintro _ w6 ⟨b,k14,o,c,nl,ps,vs,rfl,al,hps,h⟩
  have hs:sub (hp w3) (hp w6):=rdH 4 h.l
  have rb:rowH (hp w6) ⟨b,0,none⟩ (FC x k14 (g.T + g.N) o ps.length c):=rdCel 0 h.l
  refine ⟨_,rfl,fun w=>sub (hp w6) (hp w),sub.refl _,fun w s=>sub.trans hs s,_,_,_,fun w s=>rb.cell s (j:=5) rfl,slc_from (lo:=x.tl) (by omega) (Nat.le_refl _) (.inr ⟨he,k14,nl.take g.T,nl.drop g.T,by rw [List.length_take,al.ln]; omega,⟨by rw [List.length_drop,al.ln]; omega,fun i=>?_⟩,?_,?_⟩)⟩
  · rw [fnB_dropL]; exact al.nn _
  · rw [← tl,show g.T + g.N - g.T = g.N from by omega]
    have e:slP (some ⟨k14,0,none⟩) g.T (g.T + g.N) 1 = some ⟨k14,g.T,none⟩:=by
      unfold slP
      rw [if_neg (by omega),Option.map_some,show mulS g.T 1 = g.T from by rw [mulS_eq,Nat.mul_one],add_lit0]
    rw [e]
  · rw [List.take_append_drop]
    exact St.on (N:=[_]) (h0:=hp w3) (h.pick 5 [1,4]) (has_i (gw.trans g3))
end
end Go.Proofs.YtndaepmjkbmjmaaGreatDoor
set_option linter.unusedVariables false
set_option maxRecDepth 4000
namespace Go.V
def rowF (n:Nat) (f:Nat→Bool):List Int:=((List.range n).filter f).map Int.ofNat
def Rise (l:List Int):Prop:=l.Pairwise (· < ·)
theorem rise_eq:∀ {l m:List Int},Rise l→Rise m→(∀ z,z∈l↔z∈m)→l = m
  | [],[],_,_,_=>rfl
  | [],b :: m,_,_,h=>absurd ((h b).2 (by simp)) (by simp)
  | a :: l,[],_,_,h=>absurd ((h a).1 (by simp)) (by simp)
  | a :: l,b :: m,hl,hm,h=>by
    obtain ⟨l1,l2⟩:=List.pairwise_cons.1 hl
    obtain ⟨m1,m2⟩:=List.pairwise_cons.1 hm
    have e:a = b:=by
      rcases List.mem_cons.1 ((h a).1 (by simp)) with e | ha
      · exact e
      · rcases List.mem_cons.1 ((h b).2 (by simp)) with e | hb
        · exact e.symm
        · have:=m1 a ha; have:=l1 b hb; omega
    subst e
    rw [rise_eq l2 m2 fun z=>?_]
    have hz:=h z
    simp only [List.mem_cons] at hz
    constructor
    · intro hz1
      rcases hz.1 (.inr hz1) with rfl | h2
      · have:=l1 _ hz1; omega
      · exact h2
    · intro hz1
      rcases hz.2 (.inr hz1) with rfl | h2
      · have:=m1 _ hz1; omega
      · exact h2
theorem rowF_mem {n:Nat} {f:Nat→Bool} {z:Int}:z∈rowF n f↔∃ k:Nat,z = k∧k < n∧f k = true:=by
  unfold rowF
  rw [List.mem_map]
  constructor
  · rintro ⟨k,hk,rfl⟩
    obtain ⟨h1,h2⟩:=List.mem_filter.1 hk
    exact ⟨k,rfl,List.mem_range.1 h1,h2⟩
  · rintro ⟨k,rfl,h1,h2⟩
    exact ⟨k,List.mem_filter.2 ⟨List.mem_range.2 h1,h2⟩,rfl⟩
theorem rowF_rise (n:Nat) (f:Nat→Bool):Rise (rowF n f):=by
  unfold rowF Rise
  rw [List.pairwise_map]
  refine List.Pairwise.filter _ ?_
  exact List.pairwise_lt_range.imp fun h=>by show Int.ofNat _ < Int.ofNat _; simp; exact h
theorem rowF_len (n:Nat) (f:Nat→Bool):(rowF n f).length≤n:=by
  unfold rowF
  rw [List.length_map]
  have:=List.length_filter_le f (List.range n)
  rwa [List.length_range] at this
def dd:List Int→List Int
  | []=>[]
  | [a]=>[a]
  | a :: b :: l=>if a = b then dd (b :: l) else a :: dd (b :: l)
theorem dd_mem:∀ (l:List Int) (z:Int),z∈dd l↔z∈l
  | [],z=>by simp [dd]
  | [a],z=>by simp [dd]
  | a :: b :: l,z=>by
    unfold dd
    split
    · rename_i h; subst h
      rw [dd_mem (a :: l)]; simp
    · rw [List.mem_cons,dd_mem (b :: l),List.mem_cons,List.mem_cons,List.mem_cons]
theorem dd_rise:∀ {l:List Int},l.Pairwise (·≤·)→Rise (dd l)
  | [],_=>by simp [dd,Rise]
  | [a],_=>by simp [dd,Rise]
  | a :: b :: l,h=>by
    obtain ⟨h1,h2⟩:=List.pairwise_cons.1 h
    unfold dd
    split
    · exact dd_rise h2
    · rename_i hne
      refine List.pairwise_cons.2 ⟨fun z hz=>?_,dd_rise h2⟩
      rw [dd_mem] at hz
      have hb:=h1 b (by simp)
      rcases List.mem_cons.1 hz with rfl | hz
      · omega
      · have:=(List.pairwise_cons.1 h2).1 z hz
        omega
theorem dd_len:∀ l:List Int,(dd l).length≤l.length
  | []=>by simp [dd]
  | [a]=>by simp [dd]
  | a :: b :: l=>by
    unfold dd
    split
    · have:=dd_len (b :: l); simp at this ⊢; omega
    · have:=dd_len (b :: l); simp at this ⊢; omega
def numT (g:GramT) (ss:List SQ) (t:TransT):Int:=if t∈TrL g ss then ((TrL g ss).idxOf t:Int) + 1 else 0
def toK (ss:List SQ) (k:TransT):Int:=if k.st < 0 then 0 else match nxt ss k.st.toNat k.sym with
  | some j=>j + 1
  | none=>0
def vanB (g:GramT) (nn:List Bool) (s:Int):Bool:=decide ((g.T:Int)≤s) && fnB nn (s.toNat - g.T)
def vanR (g:GramT) (nn:List Bool) (row:List Int):Bool:=row.all (vanB g nn)
def readB (g:GramT) (nn:List Bool) (ss:List SQ) (i k:Nat):Bool:=match (TrL g ss)[i]?,(TrL g ss)[k]? with
  | some t,some u=>decide (nxt ss t.st.toNat t.sym = some u.st) && vanB g nn u.sym
  | _,_=>false
def incB (g:GramT) (nn:List Bool) (ss:List SQ) (n i:Nat):Bool:=match (TrL g ss)[i]? with
  | some t=>(List.range g.prods.length).any fun m=>decide (m≠0) && match g.prods[m]? with
    | some p=>decide (p.left = t.sym) && (List.range p.right.length).any fun k=>decide ((TrL g ss)[n]? = some ⟨wayN ss t.st (p.right.take k),p.right.getD k 0⟩) && vanR g nn (p.right.drop (k + 1))
    | none=>false
  | none=>false
def backB (g:GramT) (ss:List SQ) (q m i:Nat):Bool:=match (TrL g ss)[i]?,g.prods[m]? with
  | some t,some p=>decide (m≠0) && decide (p.left = t.sym) && decide (wayN ss t.st p.right = q)
  | _,_=>false
def RdsL (g:GramT) (nn:List Bool) (ss:List SQ):List (List Int):=(List.range (TrL g ss).length).map fun i=>rowF (TrL g ss).length (readB g nn ss i)
def IncL (g:GramT) (nn:List Bool) (ss:List SQ):List (List Int):=(List.range (TrL g ss).length).map fun n=>rowF (TrL g ss).length (incB g nn ss n)
structure BackT where
  st:Int
  prod:Int
  tr:List Int
deriving DecidableEq
instance:Inhabited BackT:=⟨⟨0,0,[]⟩⟩
def bkAt (g:GramT) (ss:List SQ) (q m:Nat):List BackT:=if rowF (TrL g ss).length (backB g ss q m) = [] then [] else [⟨q,m,rowF (TrL g ss).length (backB g ss q m)⟩]
def bkRow (g:GramT) (ss:List SQ) (q j:Nat):List BackT:=(List.range j).flatMap (bkAt g ss q)
def BksL (g:GramT) (ss:List SQ):List BackT:=(List.range ss.length).flatMap fun q=>bkRow g ss q g.prods.length
theorem bkRow_succ (g:GramT) (ss:List SQ) (q j:Nat):bkRow g ss q (j + 1) = bkRow g ss q j ++ bkAt g ss q j:=by unfold bkRow; rw [List.range_succ,List.flatMap_append]; simp
def byR (g:GramT) (j:Nat) (s:Int):List Nat:=(byN g j s).filter fun i=>decide (0 < i)
theorem byR_succ {g:GramT} {j:Nat} {p:ProdT} (h:g.prods[j]? = some p) (s:Int):byR g (j + 1) s = byR g j s ++ if s = p.left∧0 < j then [j] else []:=by
  unfold byR
  rw [byN_succ h,List.filter_append]
  congr 1
  by_cases e:s = p.left <;> by_cases e2:0 < j <;> simp [e,e2]
theorem byR_len (g:GramT) (j:Nat) (s:Int):(byR g j s).length≤j:=Nat.le_trans (List.length_filter_le _ _) (byN_len g j s)
theorem byR_mem {g:GramT} {s:Int} {i:Nat}:i∈byR g g.prods.length s↔0 < i∧∃ p,g.prods[i]? = some p∧p.left = s:=by
  unfold byR
  rw [List.mem_filter,show byN g g.prods.length s = byL g s from rfl,byL_mem,decide_eq_true_eq,and_comm]
section
variable {g:GramT} {ss:List SQ}
theorem TrN_nd (hA:AutI g ss):∀ n:Nat,(TrN g ss n).Nodup
  | 0=>by simp [TrN]
  | n + 1=>by
    cases hq:ss[n]? with
    | none=>simp only [TrN,hq,List.append_nil]; exact TrN_nd hA n
    | some q =>
      rw [TrN_succ hq,List.nodup_append]
      refine ⟨TrN_nd hA n,?_,fun x hx y hy e=>?_⟩
      · unfold trAt
        have h1:=aut_nd hA hq
        have h2:((q.2.2.filter fun e=>decide ((g.T:Int)≤e.sym)).map (·.sym)).Nodup:=h1.sublist (List.Sublist.map _ List.filter_sublist)
        rw [List.nodup_iff_pairwise_ne,List.pairwise_map] at h2 ⊢
        exact h2.imp fun h e=>h (congrArg TransT.sym e)
      · subst e
        obtain ⟨i,_,_,e,hi,_,_,_,rfl⟩:=TrN_mem hx
        unfold trAt at hy
        obtain ⟨e',_,h2⟩:=List.mem_map.1 hy
        have:=congrArg TransT.st h2
        simp at this; omega
theorem TrL_nd (hA:AutI g ss):(TrL g ss).Nodup:=TrN_nd hA _
theorem idx_at {α : Type} [DecidableEq α] {l:List α} (h:l.Nodup) {i:Nat} {x:α} (hx:l[i]? = some x):l.idxOf x = i:=by
  obtain ⟨h1,rfl⟩:=List.getElem?_eq_some_iff.1 hx
  exact h.idxOf_getElem i h1
theorem numT_at (hA:AutI g ss) {i:Nat} {t:TransT} (h:(TrL g ss)[i]? = some t):numT g ss t = (i:Int) + 1:=by
  unfold numT
  rw [if_pos (List.mem_of_getElem? h),idx_at (TrL_nd hA) h]
theorem numT_pos (hA:AutI g ss) {t:TransT} (h:0 < numT g ss t):∃ i:Nat,numT g ss t = (i:Int) + 1∧(TrL g ss)[i]? = some t:=by
  unfold numT at h ⊢
  by_cases ht:t∈TrL g ss
  · rw [if_pos ht]
    refine ⟨_,rfl,?_⟩
    rw [List.getElem?_eq_getElem (List.idxOf_lt_length_of_mem ht),List.getElem_idxOf]
  · rw [if_neg ht] at h; omega
end
end Go.V
set_option linter.unusedVariables false
namespace Go.Proofs.YtndaepmjkbmjmaaGreatDoor
open Go.V
abbrev n_relate_Lookback:FuncId:=58
def ann_relate_Lookback:Ann:={ rngs:=[],loops:=[(6,[(31,(.one (.int .i64)))]),(9,[(44,(.one (.int .i64)))]),(18,[(13,(.one .slice)),(77,(.one (.int .i64)))]),(21,[(13,(.one .slice)),(83,(.one (.int .i64)))])],joins:=[],blocks:=[] }
set_option maxRecDepth 100000 in
def vc_relate_Lookback (a:Option Addr) (b c:Nat) (d:Option Addr) (e f:Nat) (g:Option Addr) (i j:Nat) (k:Int) (l:Option Addr) (m n:Nat) (w:World) (R:Value→WP):Prop :=  new w (oC [vS a b c,vS d e f,vS g i j,iI k,vS l m n] 27) fun k1 w1=>∃ o1 k2 k3 o2 k4 k5 o3 k6 k7 n1 o4 k8 k9,V.rowAt w1 (aM k1) 0 5 = some [vS o1 k2 k3,vS o2 k4 k5,vS o3 k6 k7,iI n1,vS o4 k8 k9]∧RunE Proofs.Tryz.prog Ev 104 [vA (Array.mk [vS o1 k2 k3,vS o2 k4 k5,vS o3 k6 k7,iI n1,vS o4 k8 k9])] w1 fun v1 w2=>∃ o5 n2,v1 = vT (Array.mk [vP o5,iI n2])∧br (n2 != 0) (R (vT (Array.mk [vS none 0 0,iI n2])) w2) (new w2 (Obj.map (Array.mk []) 0) fun k10 w3=>nn o5 fun a1=>∃ o6 k11 k12,World.cell? w3 (Addr.add a1 8) = some (vS o6 k11 k12)∧∃ (x1:lP [(31,shI)]),∃ (x2:lN [(31,shI)]),x1 0 w3∧∀ (I1:Nat→Value) (n3:Int) (w4:World),x1 n3 w4→br (decide (n3 < (↑k11:Int))) (idx o6 k11 n3 2 fun a2=>∃ n4 n5,V.rowAt w4 a2 0 2 = some [iI n4,iI n5]∧new w4 (oC [iI 0,iI 0] 184) fun k13 w5=>stR w5 (aM k13) [iI n4,iI n5] fun w6=>∀ w7,drawn w6 w7→∃ (I2:World→Prop),I2 w7∧nn o5 fun a3=>∃ o7,(∀ w8,I2 w8→World.cell? w8 (Addr.add a3 12) = some (Value.map o7))∧∃ n6,(∀ w9,I2 w9→World.cell? w9 (Addr.add (aM k13) 1) = some (iI n6))∧RunS Proofs.Tryz.prog (Instr.lookup 160 (Value.map o7) (iI n6) false) w7 fun v2 w10=>∃ o8 k14 k15,v2 = vS o8 k14 k15∧I2 w10∧∃ (x3:lP [(44,shI)]),∃ (x4:lN [(44,shI)]),x3 0 w10∧∀ (I3:Nat→Value) (n7:Int) (w11:World),x3 n7 w11→br (decide (n7 < (↑k14:Int))) (idx o8 k14 n7 1 fun a4=>∃ n8,World.cell? w11 a4 = some (iI n8)∧∀ w12,drawn w11 w12→∃ (I4:World→Prop),I4 w12∧∃ n9,(∀ w13,I4 w13→World.cell? w13 (aM k13) = some (iI n9))∧∃ o9 k16 k17,(∀ w14,I4 w14→World.cell? w14 (Addr.add (aM k1) 4) = some (vS o9 k16 k17))∧idx o9 k16 n8 3 fun a5=>∃ o10 k18 k19,(∀ w15,I4 w15→World.cell? w15 (Addr.add a5 1) = some (vS o10 k18 k19))∧RunE Proofs.Tryz.prog Ev 105 [vP o5,iI n9,vS o10 k18 k19,Value.func (Fn.func 106) (Array.mk []) (Array.mk [])] w12 fun v3 w16=>∃ n10,v3 = iI n10∧I4 w16∧new w16 (oC [iI 0,iI 0] 184) fun k20 w17=>stR w17 (aM k20) [iI n10,iI n8] fun w18=>∃ n11 n12,V.rowAt w18 (aM k20) 0 2 = some [iI n11,iI n12]∧new w18 (oC [iI n3] 3) fun k21 w19=>RunS Proofs.Tryz.prog (Instr.mapEntry 178 (Value.map (some k10)) (vG [iI n11,iI n12])) w19 fun v4 w20=>∃ o11 k22 k23 n13,v4 = vT (Array.mk [vS o11 k22 k23,iI n13])∧RunS Proofs.Tryz.prog (apB 24 (Array.mk [vS o11 k22 k23,vS (some (aM k21)) 1 1])) w20 fun v5 w21=>∃ o12 k24 k25,v5 = vS o12 k24 k25∧RunS Proofs.Tryz.prog (Instr.entryStore 178 (Value.map (some k10)) (iI n13) (vS o12 k24 k25)) w21 fun (x5:Unit) (w22:World)=>inI (n7 + 1)∧x3 (n7 + 1) w22∧x4 (n7 + 1) w22 < x4 n7 w11) (inI (n3 + 1)∧x1 (n3 + 1) w11∧x2 (n3 + 1) w11 < x2 n3 w4)) (nn o5 fun a6=>∃ o13 k26 k27,World.cell? w4 (Addr.add a6 5) = some (vS o13 k26 k27)∧∃ (x6:lP [(13,shS),(77,shI)]),∃ (x7:lN [(13,shS),(77,shI)]),x6 none 0 0 0 w4∧∀ (I5:Nat→Value) (o14:Option Addr) (k28 k29:Nat) (n14:Int) (w23:World),x6 o14 k28 k29 n14 w23→br (decide (n14 < (↑k26:Int))) (∃ o15 k30 k31,World.cell? w23 (Addr.add (aM k1) 4) = some (vS o15 k30 k31)∧∃ (x8:lP [(13,shS),(83,shI)]),∃ (x9:lN [(13,shS),(83,shI)]),x8 o14 k28 k29 0 w23∧∀ (I6:Nat→Value) (o16:Option Addr) (k32 k33:Nat) (n15:Int) (w24:World),x8 o16 k32 k33 n15 w24→br (decide (n15 < (↑k30:Int))) (RunS Proofs.Tryz.prog (Instr.lookup 178 (Value.map (some k10)) (vG [iI n14,iI n15]) false) w24 fun v6 w25=>∃ o17 k34 k35,v6 = vS o17 k34 k35∧br (decide (0 < (↑k34:Int))) (RunE Proofs.Tryz.prog Ev 107 [vS o17 k34 k35] w25 fun v7 w26=>∃ o18 k36 k37,v7 = vS o18 k36 k37∧new w26 (oC [iI n14,iI n15,vS o18 k36 k37] 117) fun k38 w27=>RunS Proofs.Tryz.prog (apB 113 (Array.mk [vS o16 k32 k33,vS (some (aM k38)) 1 1])) w27 fun v8 w28=>∃ o19 k39 k40,v8 = vS o19 k39 k40∧inI (n15 + 1)∧x8 o19 k39 k40 (n15 + 1) w28∧x9 o19 k39 k40 (n15 + 1) w28 < x9 o16 k32 k33 n15 w24) (inI (n15 + 1)∧x8 o16 k32 k33 (n15 + 1) w25∧x9 o16 k32 k33 (n15 + 1) w25 < x9 o16 k32 k33 n15 w24)) (inI (n14 + 1)∧x6 o16 k32 k33 (n14 + 1) w24∧x7 o16 k32 k33 (n14 + 1) w24 < x7 o14 k28 k29 n14 w23)) (RunE Proofs.Tryz.prog Ev 108 [vS o14 k28 k29] w23 fun v9 w29=>∃ o20 k41 k42,v9 = vS o20 k41 k42∧R (vT (Array.mk [vS o20 k41 k42,iI 0])) w29)))
set_option maxRecDepth 100000 in
theorem run_relate_Lookback (a:Option Addr) (b c:Nat) (d:Option Addr) (e f:Nat) (g:Option Addr) (i j:Nat) (k:Int) (l:Option Addr) (m n:Nat) (w:World) (R:Value→WP) (h:vc_relate_Lookback a b c d e f g i j k l m n w R):Run Tryz.prog 58 [(.agg #[(.slice a b c),(.slice d e f),(.slice g i j),(.int .i64 k),(.slice l m n)])] w R:=rv Tryz.func58 ann_relate_Lookback (by kernel_rfl) h

abbrev n_relate_of:FuncId:=104
def ann_relate_of:Ann:={ rngs:=[],loops:=[(8,[(51,(.one (.int .i64)))]),(13,[(67,(.one (.int .i64)))]),(16,[(75,(.one (.int .i64)))]),(22,[(95,(.one (.int .i64)))])],joins:=[],blocks:=[] }
set_option maxRecDepth 100000 in
def vc_relate_of (a:Option Addr) (b c:Nat) (d:Option Addr) (e f:Nat) (g:Option Addr) (i j:Nat) (k:Int) (l:Option Addr) (m n:Nat) (w:World) (R:Value→WP):Prop :=  new w (oC [vS a b c,vS d e f,vS g i j,iI k,vS l m n] 27) fun k1 w1=>∃ o1 k2 k3 o2 k4 k5 o3 k6 k7 n1 o4 k8 k9,V.rowAt w1 (aM k1) 0 5 = some [vS o1 k2 k3,vS o2 k4 k5,vS o3 k6 k7,iI n1,vS o4 k8 k9]∧RunE Proofs.Tryz.prog Ev 26 [vA (Array.mk [vS o1 k2 k3,vS o2 k4 k5,vS o3 k6 k7,iI n1,vS o4 k8 k9])] w1 fun v1 w2=>∃ o5 k10 k11 n2 n3 n4,v1 = vT (Array.mk [vA (Array.mk [vS o5 k10 k11,iI n2,iI n3]),iI n4])∧new w2 (oC [vS none 0 0,iI 0,iI 0] 45) fun k12 w3=>stR w3 (aM k12) [vS o5 k10 k11,iI n2,iI n3] fun w4=>br (n4 != 0) (R (vT (Array.mk [vP none,iI n4])) w4) (∃ o6 k13 k14 o7 k15 k16 o8 k17 k18 n5 o9 k19 k20,V.rowAt w4 (aM k1) 0 5 = some [vS o6 k13 k14,vS o7 k15 k16,vS o8 k17 k18,iI n5,vS o9 k19 k20]∧∃ o10 k21 k22 n6 n7,V.rowAt w4 (aM k12) 0 3 = some [vS o10 k21 k22,iI n6,iI n7]∧new w4 (Obj.map (Array.mk []) 0) fun k23 w5=>new w5 (Obj.map (Array.mk []) 0) fun k24 w6=>new w6 (Obj.map (Array.mk []) 0) fun k25 w7=>new w7 (oC [vS o6 k13 k14,vS o7 k15 k16,vS o8 k17 k18,iI n5,vS o9 k19 k20,vS o10 k21 k22,iI n6,iI n7,vS none 0 0,Value.map (some k23),Value.map (some k24),vS none 0 0,Value.map (some k25)] 182) fun k26 w8=>∃ o11 k27 k28 o12 k29 k30 o13 k31 k32 n8 o14 k33 k34,V.rowAt w8 (aM k1) 0 5 = some [vS o11 k27 k28,vS o12 k29 k30,vS o13 k31 k32,iI n8,vS o14 k33 k34]∧RunE Proofs.Tryz.prog Ev 163 [vA (Array.mk [vS o11 k27 k28,vS o12 k29 k30,vS o13 k31 k32,iI n8,vS o14 k33 k34])] w8 fun v2 w9=>∃ o15 k35 k36 n9,v2 = vT (Array.mk [vS o15 k35 k36,iI n9])∧st1 w9 (Addr.add (aM k26) 8) (vS o15 k35 k36) fun w10=>∃ o16 k37 k38 o17 k39 k40 o18 k41 k42 n10 o19 k43 k44,V.rowAt w10 (aM k1) 0 5 = some [vS o16 k37 k38,vS o17 k39 k40,vS o18 k41 k42,iI n10,vS o19 k43 k44]∧RunE Proofs.Tryz.prog Ev 164 [vA (Array.mk [vS o16 k37 k38,vS o17 k39 k40,vS o18 k41 k42,iI n10,vS o19 k43 k44])] w10 fun v3 w11=>∃ o20 k45 k46 n11,v3 = vT (Array.mk [vS o20 k45 k46,iI n11])∧st1 w11 (Addr.add (aM k26) 11) (vS o20 k45 k46) fun w12=>∃ o21 k47 k48,World.cell? w12 (Addr.add (aM k26) 8) = some (vS o21 k47 k48)∧∃ (x1:lP [(51,shI)]),∃ (x2:lN [(51,shI)]),x1 0 w12∧∀ (I1:Nat→Value) (n12:Int) (w13:World),x1 n12 w13→br (decide (n12 < (↑k47:Int))) (idx o21 k47 n12 2 fun a1=>∃ n13 n14,V.rowAt w13 a1 0 2 = some [iI n13,iI n14]∧new w13 (oC [iI 0,iI 0] 184) fun k49 w14=>stR w14 (aM k49) [iI n13,iI n14] fun w15=>∀ w16,drawn w15 w16→∃ (I2:World→Prop),I2 w16∧∃ o22,(∀ w17,I2 w17→World.cell? w17 (Addr.add (aM k26) 9) = some (Value.map o22))∧∃ n15 n16,(∀ w18,I2 w18→V.rowAt w18 (aM k49) 0 2 = some [iI n15,iI n16])∧inI (n12 + 1)∧RunS Proofs.Tryz.prog (Instr.mapUpdate 180 (Value.map o22) (vG [iI n15,iI n16]) (iI (n12 + 1))) w16 fun (x3:Unit) (w19:World)=>inI (n12 + 1)∧x1 (n12 + 1) w19∧x2 (n12 + 1) w19 < x2 n12 w13) (∃ o23 k50 k51,World.cell? w13 (aM k12) = some (vS o23 k50 k51)∧∃ (x4:lP [(67,shI)]),∃ (x5:lN [(67,shI)]),x4 0 w13∧∀ (I3:Nat→Value) (n17:Int) (w20:World),x4 n17 w20→br (decide (n17 < (↑k50:Int))) (idx o23 k50 n17 2 fun a2=>∃ o24 k52 k53 o25 k54 k55,V.rowAt w20 a2 0 2 = some [vS o24 k52 k53,vS o25 k54 k55]∧new w20 (oC [vS none 0 0,vS none 0 0] 54) fun k56 w21=>stR w21 (aM k56) [vS o24 k52 k53,vS o25 k54 k55] fun w22=>∃ o26 k57 k58,World.cell? w22 (Addr.add (aM k56) 1) = some (vS o26 k57 k58)∧∃ (x6:lP [(75,shI)]),∃ (x7:lN [(75,shI)]),x6 0 w22∧∀ (I4:Nat→Value) (n18:Int) (w23:World),x6 n18 w23→br (decide (n18 < (↑k57:Int))) (idx o26 k57 n18 2 fun a3=>∃ n19 n20,V.rowAt w23 a3 0 2 = some [iI n19,iI n20]∧new w23 (oC [iI 0,iI 0] 56) fun k59 w24=>stR w24 (aM k59) [iI n19,iI n20] fun w25=>∀ w26,drawn w25 w26→∃ (I5:World→Prop),I5 w26∧∃ o27,(∀ w27,I5 w27→World.cell? w27 (Addr.add (aM k26) 10) = some (Value.map o27))∧∃ n21,(∀ w28,I5 w28→World.cell? w28 (aM k59) = some (iI n21))∧∃ n22,(∀ w29,I5 w29→World.cell? w29 (Addr.add (aM k59) 1) = some (iI n22))∧inI (n22 + 1)∧RunS Proofs.Tryz.prog (Instr.mapUpdate 180 (Value.map o27) (vG [iI n17,iI n21]) (iI (n22 + 1))) w26 fun (x8:Unit) (w30:World)=>inI (n18 + 1)∧x6 (n18 + 1) w30∧x7 (n18 + 1) w30 < x7 n18 w23) (inI (n17 + 1)∧x4 (n17 + 1) w23∧x5 (n17 + 1) w23 < x5 n17 w20)) (∃ o28 k60 k61,World.cell? w20 (Addr.add (aM k1) 4) = some (vS o28 k60 k61)∧∃ (x9:lP [(95,shI)]),∃ (x10:lN [(95,shI)]),x9 0 w20∧∀ (I6:Nat→Value) (n23:Int) (w31:World),x9 n23 w31→br (decide (n23 < (↑k60:Int))) (idx o28 k60 n23 3 fun a4=>∃ n24 o29 k62 k63 n25,V.rowAt w31 a4 0 3 = some [iI n24,vS o29 k62 k63,iI n25]∧new w31 (oC [iI 0,vS none 0 0,iI 0] 81) fun k64 w32=>stR w32 (aM k64) [iI n24,vS o29 k62 k63,iI n25] fun w33=>br (decide (0 < n23)) (∀ w34,drawn w33 w34→∃ (I7:World→Prop),I7 w34∧∃ o30,(∀ w35,I7 w35→World.cell? w35 (Addr.add (aM k26) 12) = some (Value.map o30))∧∃ n26,(∀ w36,I7 w36→World.cell? w36 (aM k64) = some (iI n26))∧∃ o31,(∀ w37,I7 w37→World.cell? w37 (Addr.add (aM k26) 12) = some (Value.map o31))∧∃ n27,(∀ w38,I7 w38→World.cell? w38 (aM k64) = some (iI n27))∧(RunS Proofs.Tryz.prog (Instr.lookup 160 (Value.map o31) (iI n27) false) w34 fun v4 w39=>∃ o32 k65 k66,v4 = vS o32 k65 k66∧I7 w39∧new w39 (oC [iI n23] 3) fun k67 w40=>I7 w40∧RunS Proofs.Tryz.prog (apB 24 (Array.mk [vS o32 k65 k66,vS (some (aM k67)) 1 1])) w40 fun v5 w41=>∃ o33 k68 k69,v5 = vS o33 k68 k69∧I7 w41∧RunS Proofs.Tryz.prog (Instr.mapUpdate 160 (Value.map o30) (iI n26) (vS o33 k68 k69)) w41 fun (x11:Unit) (w42:World)=>inI (n23 + 1)∧x9 (n23 + 1) w42∧x10 (n23 + 1) w42 < x10 n23 w31)∧new w34 (oC [iI n23] 3) fun k70 w43=>I7 w43∧RunS Proofs.Tryz.prog (Instr.lookup 160 (Value.map o31) (iI n27) false) w43 fun v6 w44=>∃ o34 k71 k72,v6 = vS o34 k71 k72∧I7 w44∧RunS Proofs.Tryz.prog (apB 24 (Array.mk [vS o34 k71 k72,vS (some (aM k70)) 1 1])) w44 fun v7 w45=>∃ o35 k73 k74,v7 = vS o35 k73 k74∧I7 w45∧RunS Proofs.Tryz.prog (Instr.mapUpdate 160 (Value.map o30) (iI n26) (vS o35 k73 k74)) w45 fun (x12:Unit) (w46:World)=>inI (n23 + 1)∧x9 (n23 + 1) w46∧x10 (n23 + 1) w46 < x10 n23 w31) (inI (n23 + 1)∧x9 (n23 + 1) w33∧x10 (n23 + 1) w33 < x10 n23 w31)) (R (vT (Array.mk [vP (some (aM k26)),iI 0])) w31))))
set_option maxRecDepth 100000 in
theorem run_relate_of (a:Option Addr) (b c:Nat) (d:Option Addr) (e f:Nat) (g:Option Addr) (i j:Nat) (k:Int) (l:Option Addr) (m n:Nat) (w:World) (R:Value→WP) (h:vc_relate_of a b c d e f g i j k l m n w R):Run Tryz.prog 104 [(.agg #[(.slice a b c),(.slice d e f),(.slice g i j),(.int .i64 k),(.slice l m n)])] w R:=rv Tryz.func104 ann_relate_of (by kernel_rfl) h

abbrev n_relate_world_along:FuncId:=105
def ann_relate_world_along:Ann:={ rngs:=[],loops:=[(2,[(1,(.one (.int .i64))),(13,(.one (.int .i64)))])],joins:=[],blocks:=[] }
set_option maxRecDepth 100000 in
def vc_relate_world_along (a:Option Addr) (b:Int) (c:Option Addr) (d e:Nat) (f:FuncId) (g:List Value) (w:World) (R:Value→WP):Prop :=  ∃ (x1:lP [(1,shI),(13,shI)]),∃ (x2:lN [(1,shI),(13,shI)]),x1 b 0 w∧∀ (I1:Nat→Value) (n1 n2:Int) (w1:World),x1 n1 n2 w1→br (decide (n2 < (↑d:Int))) (idx c d n2 1 fun a1=>∃ n3,World.cell? w1 a1 = some (iI n3)∧ifT (Proofs.YtndaepmjkbmjmaaGreatDoor.Fn f) (RunE Proofs.Tryz.prog Ev f (iI n1 :: iI n2 :: g) w1 fun v1 w2=>v1 = vT (Array.mk [])∧nn a fun a2=>∃ o1,World.cell? w2 (Addr.add a2 10) = some (Value.map o1)∧RunS Proofs.Tryz.prog (Instr.lookup 180 (Value.map o1) (vG [iI n1,iI n3]) false) w2 fun v2 w3=>∃ n4,v2 = iI n4∧inI (n4 - 1)∧inI (n2 + 1)∧x1 (n4 - 1) (n2 + 1) w3∧x2 (n4 - 1) (n2 + 1) w3 < x2 n1 n2 w1)) (R (iI n1) w1)
set_option maxRecDepth 100000 in
theorem run_relate_world_along (a:Option Addr) (b:Int) (c:Option Addr) (d e:Nat) (f:FuncId) (g:List Value) (w:World) (R:Value→WP) (h:vc_relate_world_along a b c d e f g w R):Run Tryz.prog 105 [(.pointer a),(.int .i64 b),(.slice c d e),(.func (.func f) #[] ⟨g⟩)] w R:=rv Tryz.func105 ann_relate_world_along (by kernel_rfl) h

def ann_relate_Lookback_S1:Ann:={ rngs:=[],loops:=[],joins:=[],blocks:=[] }
set_option maxRecDepth 100000 in
def vc_relate_Lookback_S1 (a b:Int) (w:World) (R:Value→WP):Prop :=  R (vT (Array.mk [])) w
set_option maxRecDepth 100000 in
theorem run_relate_Lookback_S1 (a b:Int) (w:World) (R:Value→WP) (h:vc_relate_Lookback_S1 a b w R):Run Tryz.prog 106 [(.int .i64 a),(.int .i64 b)] w R:=rv Tryz.func106 ann_relate_Lookback_S1 (by kernel_rfl) h

abbrev n_relate_Reads:FuncId:=159
def ann_relate_Reads:Ann:={ rngs:=[],loops:=[],joins:=[],blocks:=[] }
set_option maxRecDepth 100000 in
def vc_relate_Reads (a:Option Addr) (b c:Nat) (d:Option Addr) (e f:Nat) (g:Option Addr) (i j:Nat) (k:Int) (l:Option Addr) (m n:Nat) (w:World) (R:Value→WP):Prop :=  new w (oC [vS a b c,vS d e f,vS g i j,iI k,vS l m n] 27) fun k1 w1=>∃ o1 k2 k3 o2 k4 k5 o3 k6 k7 n1 o4 k8 k9,V.rowAt w1 (aM k1) 0 5 = some [vS o1 k2 k3,vS o2 k4 k5,vS o3 k6 k7,iI n1,vS o4 k8 k9]∧RunE Proofs.Tryz.prog Ev 104 [vA (Array.mk [vS o1 k2 k3,vS o2 k4 k5,vS o3 k6 k7,iI n1,vS o4 k8 k9])] w1 fun v1 w2=>∃ o5 n2,v1 = vT (Array.mk [vP o5,iI n2])∧new w2 (oC [vP none] 175) fun k10 w3=>st1 w3 (aM k10) (vP o5) fun w4=>br (n2 != 0) (R (vT (Array.mk [vS none 0 0,iI n2])) w4) (∃ o6,World.cell? w4 (aM k10) = some (vP o6)∧RunE Proofs.Tryz.prog Ev 203 [vP o6,Value.func (Fn.func 204) (Array.mk []) (Array.mk [vP (some (aM k10)),vP (some (aM k1))])] w4 fun v2 w5=>∃ o7 k11 k12,v2 = vS o7 k11 k12∧R (vT (Array.mk [vS o7 k11 k12,iI 0])) w5)
set_option maxRecDepth 100000 in
theorem run_relate_Reads (a:Option Addr) (b c:Nat) (d:Option Addr) (e f:Nat) (g:Option Addr) (i j:Nat) (k:Int) (l:Option Addr) (m n:Nat) (w:World) (R:Value→WP) (h:vc_relate_Reads a b c d e f g i j k l m n w R):Run Tryz.prog 159 [(.agg #[(.slice a b c),(.slice d e f),(.slice g i j),(.int .i64 k),(.slice l m n)])] w R:=rv Tryz.func159 ann_relate_Reads (by kernel_rfl) h

abbrev n_relate_Includes:FuncId:=161
def ann_relate_Includes:Ann:={ rngs:=[],loops:=[],joins:=[],blocks:=[] }
set_option maxRecDepth 100000 in
def vc_relate_Includes (a:Option Addr) (b c:Nat) (d:Option Addr) (e f:Nat) (g:Option Addr) (i j:Nat) (k:Int) (l:Option Addr) (m n:Nat) (w:World) (R:Value→WP):Prop :=  new w (oC [vS a b c,vS d e f,vS g i j,iI k,vS l m n] 27) fun k1 w1=>∃ o1 k2 k3 o2 k4 k5 o3 k6 k7 n1 o4 k8 k9,V.rowAt w1 (aM k1) 0 5 = some [vS o1 k2 k3,vS o2 k4 k5,vS o3 k6 k7,iI n1,vS o4 k8 k9]∧RunE Proofs.Tryz.prog Ev 104 [vA (Array.mk [vS o1 k2 k3,vS o2 k4 k5,vS o3 k6 k7,iI n1,vS o4 k8 k9])] w1 fun v1 w2=>∃ o5 n2,v1 = vT (Array.mk [vP o5,iI n2])∧new w2 (oC [vP none] 175) fun k10 w3=>st1 w3 (aM k10) (vP o5) fun w4=>br (n2 != 0) (R (vT (Array.mk [vS none 0 0,iI n2])) w4) (∃ o6,World.cell? w4 (aM k10) = some (vP o6)∧RunE Proofs.Tryz.prog Ev 203 [vP o6,Value.func (Fn.func 205) (Array.mk []) (Array.mk [vP (some (aM k10)),vP (some (aM k1))])] w4 fun v2 w5=>∃ o7 k11 k12,v2 = vS o7 k11 k12∧R (vT (Array.mk [vS o7 k11 k12,iI 0])) w5)
set_option maxRecDepth 100000 in
theorem run_relate_Includes (a:Option Addr) (b c:Nat) (d:Option Addr) (e f:Nat) (g:Option Addr) (i j:Nat) (k:Int) (l:Option Addr) (m n:Nat) (w:World) (R:Value→WP) (h:vc_relate_Includes a b c d e f g i j k l m n w R):Run Tryz.prog 161 [(.agg #[(.slice a b c),(.slice d e f),(.slice g i j),(.int .i64 k),(.slice l m n)])] w R:=rv Tryz.func161 ann_relate_Includes (by kernel_rfl) h

abbrev n_relate_world_laid:FuncId:=203
def ann_relate_world_laid:Ann:={ rngs:=[],loops:=[(4,[(18,(.one (.int .i64)))])],joins:=[],blocks:=[] }
set_option maxRecDepth 100000 in
def vc_relate_world_laid (a:Option Addr) (b:FuncId) (c:List Value) (w:World) (R:Value→WP):Prop :=  nn a fun a1=>∃ o1 k1 k2,World.cell? w (Addr.add a1 8) = some (vS o1 k1 k2)∧mkOk (↑k1:Int) (↑k1:Int) 24∧new w (Obj.cells (Array.mk (reps (Int.toNat (↑k1:Int)) [vS none 0 0])) 24) fun k3 w1=>new w1 (oC [vS none 0 0] 71) fun k4 w2=>st1 w2 (aM k4) (vS (some (aM k3)) (Int.toNat (↑k1:Int)) (Int.toNat (↑k1:Int))) fun w3=>ifT (Proofs.YtndaepmjkbmjmaaGreatDoor.Fn b) (RunE Proofs.Tryz.prog Ev b (Value.func (Fn.func 239) (Array.mk []) (Array.mk [vP (some (aM k4))]) :: c) w3 fun v1 w4=>v1 = vT (Array.mk [])∧∃ o2 k5 k6,World.cell? w4 (aM k4) = some (vS o2 k5 k6)∧∃ (x1:lP [(18,shI)]),∃ (x2:lN [(18,shI)]),x1 0 w4∧∀ (I1:Nat→Value) (n1:Int) (w5:World),x1 n1 w5→br (decide (n1 < (↑k5:Int))) (∃ o3 k7 k8,World.cell? w5 (aM k4) = some (vS o3 k7 k8)∧idx o3 k7 n1 1 fun a2=>∃ o4 k9 k10,World.cell? w5 a2 = some (vS o4 k9 k10)∧RunE Proofs.Tryz.prog Ev 53 [vS o4 k9 k10] w5 fun v2 w6=>v2 = vT (Array.mk [])∧∀ w7,drawn w6 w7→∃ (I2:World→Prop),I2 w7∧∃ o5 k11 k12,(∀ w8,I2 w8→World.cell? w8 (aM k4) = some (vS o5 k11 k12))∧∃ o6 k13 k14,(∀ w9,I2 w9→World.cell? w9 (aM k4) = some (vS o6 k13 k14))∧idx o6 k13 n1 1 fun a3=>∃ o7 k15 k16,(∀ w10,I2 w10→World.cell? w10 a3 = some (vS o7 k15 k16))∧RunE Proofs.Tryz.prog Ev 240 [vS o7 k15 k16] w7 fun v3 w11=>∃ o8 k17 k18,v3 = vS o8 k17 k18∧I2 w11∧RunE Proofs.Tryz.prog Ev 107 [vS o8 k17 k18] w11 fun v4 w12=>∃ o9 k19 k20,v4 = vS o9 k19 k20∧I2 w12∧idx o5 k11 n1 1 fun a4=>st1 w12 a4 (vS o9 k19 k20) fun w13=>inI (n1 + 1)∧x1 (n1 + 1) w13∧x2 (n1 + 1) w13 < x2 n1 w5) (∃ o10 k21 k22,World.cell? w5 (aM k4) = some (vS o10 k21 k22)∧R (vS o10 k21 k22) w5))
set_option maxRecDepth 100000 in
theorem run_relate_world_laid (a:Option Addr) (b:FuncId) (c:List Value) (w:World) (R:Value→WP) (h:vc_relate_world_laid a b c w R):Run Tryz.prog 203 [(.pointer a),(.func (.func b) #[] ⟨c⟩)] w R:=rv Tryz.func203 ann_relate_world_laid (by kernel_rfl) h

abbrev n_relate_Reads_S1:FuncId:=204
def ann_relate_Reads_S1:Ann:={ rngs:=[],loops:=[(1,[(14,(.one (.int .i64)))]),(5,[(36,(.one (.int .i64)))])],joins:=[],blocks:=[] }
set_option maxRecDepth 100000 in
def vc_relate_Reads_S1 (a:FuncId) (b:List Value) (c d:Addr) (w:World) (R:Value→WP):Prop :=  ∃ o1,World.cell? w c = some (vP o1)∧nn o1 fun a1=>∃ o2 k1 k2,World.cell? w (Addr.add a1 8) = some (vS o2 k1 k2)∧∃ (x1:lP [(14,shI)]),∃ (x2:lN [(14,shI)]),x1 0 w∧∀ (I1:Nat→Value) (n1:Int) (w1:World),x1 n1 w1→br (decide (n1 < (↑k1:Int))) (idx o2 k1 n1 2 fun a2=>∃ n2 n3,V.rowAt w1 a2 0 2 = some [iI n2,iI n3]∧new w1 (oC [iI 0,iI 0] 184) fun k3 w2=>stR w2 (aM k3) [iI n2,iI n3] fun w3=>∀ w4,drawn w3 w4→∃ (I2:World→Prop),I2 w4∧∃ o3,(∀ w5,I2 w5→World.cell? w5 c = some (vP o3))∧nn o3 fun a3=>∃ o4,(∀ w6,I2 w6→World.cell? w6 (Addr.add a3 10) = some (Value.map o4))∧∃ n4 n5,(∀ w7,I2 w7→V.rowAt w7 (aM k3) 0 2 = some [iI n4,iI n5])∧RunS Proofs.Tryz.prog (Instr.lookup 180 (Value.map o4) (vG [iI n4,iI n5]) false) w4 fun v1 w8=>∃ n6,v1 = iI n6∧I2 w8∧inI (n6 - 1)∧∃ o5,World.cell? w8 c = some (vP o5)∧nn o5 fun a4=>∃ o6 k4 k5,World.cell? w8 (Addr.add a4 5) = some (vS o6 k4 k5)∧idx o6 k4 (n6 - 1) 2 fun a5=>∃ o7 k6 k7,World.cell? w8 (Addr.add a5 1) = some (vS o7 k6 k7)∧∃ (x3:lP [(36,shI)]),∃ (x4:lN [(36,shI)]),x3 0 w8∧∀ (I3:Nat→Value) (n7:Int) (w9:World),x3 n7 w9→br (decide (n7 < (↑k6:Int))) (idx o7 k6 n7 2 fun a6=>∃ n8 n9,V.rowAt w9 a6 0 2 = some [iI n8,iI n9]∧new w9 (oC [iI 0,iI 0] 56) fun k8 w10=>stR w10 (aM k8) [iI n8,iI n9] fun w11=>∀ w12,drawn w11 w12→∃ (I4:World→Prop),I4 w12∧∃ n10,(∀ w13,I4 w13→World.cell? w13 (aM k8) = some (iI n10))∧∃ o8 k9 k10,(∀ w14,I4 w14→World.cell? w14 d = some (vS o8 k9 k10))∧br (decide ((↑k9:Int)≤n10)) (∃ o9,(∀ w15,I4 w15→World.cell? w15 c = some (vP o9))∧nn o9 fun a7=>∃ o10 k11 k12,(∀ w16,I4 w16→World.cell? w16 (Addr.add a7 11) = some (vS o10 k11 k12))∧∃ n11,(∀ w17,I4 w17→World.cell? w17 (aM k8) = some (iI n11))∧∃ o11 k13 k14,(∀ w18,I4 w18→World.cell? w18 d = some (vS o11 k13 k14))∧inI (n11 - (↑k13:Int))∧idx o10 k11 (n11 - (↑k13:Int)) 1 fun a8=>∃ b1,(∀ w19,I4 w19→World.cell? w19 a8 = some (vB b1))∧br b1 (∀ w20,drawn w12 w20→∃ (I5:World→Prop),I5 w20∧∃ o12,(∀ w21,I5 w21→World.cell? w21 c = some (vP o12))∧nn o12 fun a9=>∃ o13,(∀ w22,I5 w22→World.cell? w22 (Addr.add a9 9) = some (Value.map o13))∧∃ n12,(∀ w23,I5 w23→World.cell? w23 (aM k8) = some (iI n12))∧RunS Proofs.Tryz.prog (Instr.lookup 180 (Value.map o13) (vG [iI (n6 - 1),iI n12]) false) w20 fun v2 w24=>∃ n13,v2 = iI n13∧I5 w24∧inI (n13 - 1)∧ifT (Proofs.YtndaepmjkbmjmaaGreatDoor.Fn a) (RunE Proofs.Tryz.prog Ev a (iI n1 :: iI (n13 - 1) :: b) w24 fun v3 w25=>v3 = vT (Array.mk [])∧inI (n7 + 1)∧x3 (n7 + 1) w25∧x4 (n7 + 1) w25 < x4 n7 w9)) (inI (n7 + 1)∧x3 (n7 + 1) w12∧x4 (n7 + 1) w12 < x4 n7 w9)) (inI (n7 + 1)∧x3 (n7 + 1) w12∧x4 (n7 + 1) w12 < x4 n7 w9)) (inI (n1 + 1)∧x1 (n1 + 1) w9∧x2 (n1 + 1) w9 < x2 n1 w1)) (R (vT (Array.mk [])) w1)
set_option maxRecDepth 100000 in
theorem run_relate_Reads_S1 (a:FuncId) (b:List Value) (c d:Addr) (w:World) (R:Value→WP) (h:vc_relate_Reads_S1 a b c d w R):Run Tryz.prog 204 [(.func (.func a) #[] ⟨b⟩),(.pointer (some c)),(.pointer (some d))] w R:=rv Tryz.func204 ann_relate_Reads_S1 (by kernel_rfl) h

abbrev n_relate_Includes_S1:FuncId:=205
def ann_relate_Includes_S1:Ann:={ rngs:=[],loops:=[(2,[(14,(.one (.int .i64)))]),(5,[(27,(.one (.int .i64)))])],joins:=[],blocks:=[] }
set_option maxRecDepth 100000 in
def vc_relate_Includes_S1 (a:FuncId) (b:List Value) (c d:Addr) (w:World) (R:Value→WP):Prop :=  new w (oC [Value.func (Fn.func a) (Array.mk []) (Array.mk b)] 186) fun k1 w1=>∃ o1,World.cell? w1 c = some (vP o1)∧nn o1 fun a1=>∃ o2 k2 k3,World.cell? w1 (Addr.add a1 8) = some (vS o2 k2 k3)∧∃ (x1:lP [(14,shI)]),∃ (x2:lN [(14,shI)]),x1 0 w1∧∀ (I1:Nat→Value) (n1:Int) (w2:World),x1 n1 w2→br (decide (n1 < (↑k2:Int))) (idx o2 k2 n1 2 fun a2=>∃ n2 n3,V.rowAt w2 a2 0 2 = some [iI n2,iI n3]∧new w2 (oC [iI 0] 3) fun k4 w3=>new w3 (oC [iI 0,iI 0] 184) fun k5 w4=>st1 w4 (aM k4) (iI n1) fun w5=>stR w5 (aM k5) [iI n2,iI n3] fun w6=>∀ w7,drawn w6 w7→∃ (I2:World→Prop),I2 w7∧∃ o3,(∀ w8,I2 w8→World.cell? w8 c = some (vP o3))∧nn o3 fun a3=>∃ o4,(∀ w9,I2 w9→World.cell? w9 (Addr.add a3 12) = some (Value.map o4))∧∃ n4,(∀ w10,I2 w10→World.cell? w10 (Addr.add (aM k5) 1) = some (iI n4))∧RunS Proofs.Tryz.prog (Instr.lookup 160 (Value.map o4) (iI n4) false) w7 fun v1 w11=>∃ o5 k6 k7,v1 = vS o5 k6 k7∧I2 w11∧∃ (x3:lP [(27,shI)]),∃ (x4:lN [(27,shI)]),x3 0 w11∧∀ (I3:Nat→Value) (n5:Int) (w12:World),x3 n5 w12→br (decide (n5 < (↑k6:Int))) (idx o5 k6 n5 1 fun a4=>∃ n6,World.cell? w12 a4 = some (iI n6)∧∃ o6 k8 k9,World.cell? w12 (Addr.add d 4) = some (vS o6 k8 k9)∧idx o6 k8 n6 3 fun a5=>∃ o7 k10 k11,World.cell? w12 (Addr.add a5 1) = some (vS o7 k10 k11)∧new w12 (oC [vS none 0 0] 24) fun k12 w13=>st1 w13 (aM k12) (vS o7 k10 k11) fun w14=>∃ o8,World.cell? w14 c = some (vP o8)∧∃ n7,World.cell? w14 (aM k5) = some (iI n7)∧∃ o9 k13 k14,World.cell? w14 (aM k12) = some (vS o9 k13 k14)∧RunE Proofs.Tryz.prog Ev 105 [vP o8,iI n7,vS o9 k13 k14,Value.func (Fn.func 206) (Array.mk []) (Array.mk [vP (some c),vP (some (aM k12)),vP (some (aM k1)),vP (some (aM k4))])] w14 fun v2 w15=>∃ n8,v2 = iI n8∧inI (n5 + 1)∧x3 (n5 + 1) w15∧x4 (n5 + 1) w15 < x4 n5 w12) (inI (n1 + 1)∧x1 (n1 + 1) w12∧x2 (n1 + 1) w12 < x2 n1 w2)) (R (vT (Array.mk [])) w2)
set_option maxRecDepth 100000 in
theorem run_relate_Includes_S1 (a:FuncId) (b:List Value) (c d:Addr) (w:World) (R:Value→WP) (h:vc_relate_Includes_S1 a b c d w R):Run Tryz.prog 205 [(.func (.func a) #[] ⟨b⟩),(.pointer (some c)),(.pointer (some d))] w R:=rv Tryz.func205 ann_relate_Includes_S1 (by kernel_rfl) h

abbrev n_relate_Includes_S1_S1:FuncId:=206
def ann_relate_Includes_S1_S1:Ann:={ rngs:=[],loops:=[],joins:=[],blocks:=[] }
set_option maxRecDepth 100000 in
def vc_relate_Includes_S1_S1 (a b:Int) (c d e f:Addr) (w:World) (R:Value→WP):Prop :=  ∀ w1,drawn w w1→∃ (I1:World→Prop),I1 w1∧∃ o1,(∀ w2,I1 w2→World.cell? w2 c = some (vP o1))∧nn o1 fun a1=>∃ o2,(∀ w3,I1 w3→World.cell? w3 (Addr.add a1 9) = some (Value.map o2))∧∃ o3 k1 k2,(∀ w4,I1 w4→World.cell? w4 d = some (vS o3 k1 k2))∧idx o3 k1 b 1 fun a2=>∃ n1,(∀ w5,I1 w5→World.cell? w5 a2 = some (iI n1))∧RunS Proofs.Tryz.prog (Instr.lookup 180 (Value.map o2) (vG [iI a,iI n1]) false) w1 fun v1 w6=>∃ n2,v1 = iI n2∧I1 w6∧∀ w7,drawn w6 w7→∃ (I2:World→Prop),I2 w7∧br (decide (0 < n2)) (∃ o4,(∀ w8,I2 w8→World.cell? w8 c = some (vP o4))∧∃ o5 k3 k4,(∀ w9,I2 w9→World.cell? w9 d = some (vS o5 k3 k4))∧inI (b + 1)∧slc o5 k3 k4 (some (b + 1)) none none 1 fun (o6:Option Addr) (k5 k6:Nat)=>RunE Proofs.Tryz.prog Ev 207 [vP o4,vS o6 k5 k6] w7 fun v2 w10=>∃ b1,v2 = vB b1∧I2 w10∧br b1 (∃ g1 x1,World.cell? w10 e = some (Value.func (Fn.func g1) (Array.mk []) (Array.mk x1))∧inI (n2 - 1)∧∃ n3,World.cell? w10 f = some (iI n3)∧ifT (Proofs.YtndaepmjkbmjmaaGreatDoor.Fn g1) (RunE Proofs.Tryz.prog Ev g1 (iI (n2 - 1) :: iI n3 :: x1) w10 fun v3 w11=>v3 = vT (Array.mk [])∧R (vT (Array.mk [])) w11)) (R (vT (Array.mk [])) w10)) (R (vT (Array.mk [])) w7)
set_option maxRecDepth 100000 in
theorem run_relate_Includes_S1_S1 (a b:Int) (c d e f:Addr) (w:World) (R:Value→WP) (h:vc_relate_Includes_S1_S1 a b c d e f w R):Run Tryz.prog 206 [(.int .i64 a),(.int .i64 b),(.pointer (some c)),(.pointer (some d)),(.pointer (some e)),(.pointer (some f))] w R:=rv Tryz.func206 ann_relate_Includes_S1_S1 (by kernel_rfl) h

abbrev n_relate_world_vanishes:FuncId:=207
def ann_relate_world_vanishes:Ann:={ rngs:=[],loops:=[],joins:=[],blocks:=[] }
set_option maxRecDepth 100000 in
def vc_relate_world_vanishes (a b:Option Addr) (c d:Nat) (w:World) (R:Value→WP):Prop :=  new w (oC [vP a] 175) fun k1 w1=>RunE Proofs.Tryz.prog Ev 209 [vS b c d,Value.func (Fn.func 241) (Array.mk []) (Array.mk [vP (some (aM k1))])] w1 fun v1 w2=>∃ b1,v1 = vB b1∧R (vB !b1) w2
set_option maxRecDepth 100000 in
theorem run_relate_world_vanishes (a b:Option Addr) (c d:Nat) (w:World) (R:Value→WP) (h:vc_relate_world_vanishes a b c d w R):Run Tryz.prog 207 [(.pointer a),(.slice b c d)] w R:=rv Tryz.func207 ann_relate_world_vanishes (by kernel_rfl) h

abbrev n_relate_world_laid_S1:FuncId:=239
def ann_relate_world_laid_S1:Ann:={ rngs:=[],loops:=[],joins:=[],blocks:=[] }
set_option maxRecDepth 100000 in
def vc_relate_world_laid_S1 (a b:Int) (c:Addr) (w:World) (R:Value→WP):Prop :=  ∀ w1,drawn w w1→∃ (I1:World→Prop),I1 w1∧∃ o1 k1 k2,(∀ w2,I1 w2→World.cell? w2 c = some (vS o1 k1 k2))∧∃ o2 k3 k4,(∀ w3,I1 w3→World.cell? w3 c = some (vS o2 k3 k4))∧idx o2 k3 a 1 fun a1=>∃ o3 k5 k6,(∀ w4,I1 w4→World.cell? w4 a1 = some (vS o3 k5 k6))∧new w1 (oC [iI b] 3) fun k7 w5=>I1 w5∧RunS Proofs.Tryz.prog (apB 24 (Array.mk [vS o3 k5 k6,vS (some (aM k7)) 1 1])) w5 fun v1 w6=>∃ o4 k8 k9,v1 = vS o4 k8 k9∧I1 w6∧idx o1 k1 a 1 fun a2=>st1 w6 a2 (vS o4 k8 k9) fun w7=>R (vT (Array.mk [])) w7
set_option maxRecDepth 100000 in
theorem run_relate_world_laid_S1 (a b:Int) (c:Addr) (w:World) (R:Value→WP) (h:vc_relate_world_laid_S1 a b c w R):Run Tryz.prog 239 [(.int .i64 a),(.int .i64 b),(.pointer (some c))] w R:=rv Tryz.func239 ann_relate_world_laid_S1 (by kernel_rfl) h

abbrev n_relate_world_vanishes_S1:FuncId:=241
def ann_relate_world_vanishes_S1:Ann:={ rngs:=[],loops:=[],joins:=[],blocks:=[] }
set_option maxRecDepth 100000 in
def vc_relate_world_vanishes_S1 (a:Int) (b:Addr) (w:World) (R:Value→WP):Prop :=  ∀ w1,drawn w w1→∃ (I1:World→Prop),I1 w1∧∃ o1,(∀ w2,I1 w2→World.cell? w2 b = some (vP o1))∧nn o1 fun a1=>∃ o2 k1 k2,(∀ w3,I1 w3→World.cell? w3 a1 = some (vS o2 k1 k2))∧br (decide (a < (↑k1:Int))) (R (vB true) w1) (∃ o3,(∀ w4,I1 w4→World.cell? w4 b = some (vP o3))∧nn o3 fun a2=>∃ o4 k3 k4,(∀ w5,I1 w5→World.cell? w5 (Addr.add a2 11) = some (vS o4 k3 k4))∧∃ o5,(∀ w6,I1 w6→World.cell? w6 b = some (vP o5))∧nn o5 fun a3=>∃ o6 k5 k6,(∀ w7,I1 w7→World.cell? w7 a3 = some (vS o6 k5 k6))∧inI (a - (↑k5:Int))∧idx o4 k3 (a - (↑k5:Int)) 1 fun a4=>∃ b1,(∀ w8,I1 w8→World.cell? w8 a4 = some (vB b1))∧R (vB !b1) w1)
set_option maxRecDepth 100000 in
theorem run_relate_world_vanishes_S1 (a:Int) (b:Addr) (w:World) (R:Value→WP) (h:vc_relate_world_vanishes_S1 a b w R):Run Tryz.prog 241 [(.int .i64 a),(.pointer (some b))] w R:=rv Tryz.func241 ann_relate_world_vanishes_S1 (by kernel_rfl) h

end Go.Proofs.YtndaepmjkbmjmaaGreatDoor
set_option linter.unusedVariables false
set_option maxRecDepth 4000
namespace Go.V
theorem dd_snoc:∀ (l:List Int) (a b:Int),dd (l ++ [a,b]) = if a = b then dd (l ++ [a]) else dd (l ++ [a]) ++ [b]
  | [],a,b=>by
    by_cases h:a = b
    · subst h; simp [dd]
    · simp [dd,h]
  | [x],a,b=>by
    have:=dd_snoc [] a b
    simp only [List.nil_append] at this
    by_cases h:a = b
    · subst h; simp [dd]
    · by_cases h2:x = a
      · subst h2; simp [dd,h]
      · simp [dd,h,h2]
  | x :: y :: l,a,b=>by
    have ih:=dd_snoc (y :: l) a b
    have e1:dd (x :: y :: l ++ [a,b]) = if x = y then dd (y :: l ++ [a,b]) else x :: dd (y :: l ++ [a,b]):=rfl
    have e2:dd (x :: y :: l ++ [a]) = if x = y then dd (y :: l ++ [a]) else x :: dd (y :: l ++ [a]):=rfl
    rw [e1,e2,ih]
    by_cases h:a = b <;> by_cases h2:x = y <;> simp [h,h2]
theorem dd_take {xs:List Int} {m:Nat} {a b:Int} (ha:xs[m]? = some a) (hb:xs[m + 1]? = some b):dd (xs.take (m + 2)) = if a = b then dd (xs.take (m + 1)) else dd (xs.take (m + 1)) ++ [b]:=by
  have e1:xs.take (m + 1) = xs.take m ++ [a]:=by rw [List.take_add_one,ha]; rfl
  have e2:xs.take (m + 2) = xs.take m ++ [a,b]:=by rw [List.take_add_one,hb,e1]; simp
  rw [e2,e1,dd_snoc]
theorem dd_one {xs:List Int} {n:Nat} (h:n≤1):dd (xs.take n) = xs.take n:=by
  match n,h with
  | 0,_=>simp [dd]
  | 1,_=>cases xs <;> simp [dd]
end Go.V
namespace Go.Proofs.YtndaepmjkbmjmaaGreatDoor
open Go.V Go.Sort Go.Shelf
variable {w:World} {L:List Asn} {a:Option Addr} {l c:Nat} {xs:List Int}
theorem y_compactI (h:St w (own 1 a l c (iv xs) :: L)) (hb:l < 4611686018427387904) :
    Run Tryz.prog n_slices_Compact_int_int_ [.slice a l c] w fun v w'=>∃ a' c',v = .slice a' (dd xs).length c'∧St w' (own 1 a' (dd xs).length c' (iv (dd xs)) :: L):=by
  have hln:=own_len h
  rw [iv_len] at hln
  have hlc:=own_le h
  have hl:xs.length = l:=by omega
  refine run_slices_Compact_int_int_ _ _ _ w _ (br_intro (fun h1=>?_) fun h1=>?_)
  · have h1:l < 2:=by have:=of_decide_eq_true h1; omega
    have e:dd xs = xs:=by have:=dd_one (xs:=xs) (n:=l) (by omega); rwa [List.take_of_length_le (by omega)] at this
    rw [e,hl]; exact ⟨a,c,rfl,h⟩
  have h1:2≤l:=by have:=of_decide_eq_false h1; omega
  refine ⟨fun z w'=>∃ n:Nat,z = ((n + 1:Nat):Int)∧n + 1≤l∧dd (xs.take (n + 1)) = xs.take (n + 1)∧St w' (own 1 a l c (iv xs) :: L),fun z _=>l - z.toNat,⟨0,rfl,by omega,dd_one (Nat.le_refl _),h⟩,?_⟩
  clear h
  rintro _ z w1 ⟨n,rfl,hn,hS,h⟩
  refine br_intro (fun h2=>?_) fun h2=>?_
  rotate_left
  · have h2:l = n + 1:=by have:=of_decide_eq_false h2; omega
    have e:dd xs = xs:=by rwa [List.take_of_length_le (by omega)] at hS
    rw [e,hl]; exact ⟨a,c,rfl,h⟩
  have h2:n + 1 < l:=by have:=of_decide_eq_true h2; omega
  intro w2 hd
  have h:=h.eq (drawn_hp hd)
  have hr:rdS (hp w2) xs a l:=rdI_of hl (rdOv 0 h.l)
  obtain ⟨x,ad,hx,rfl,cx⟩:=hr.get1 h2
  obtain ⟨z,ad2,hz,e2,cz⟩:=hr.get1 (by omega:n < l)
  cases e2
  have e1:((n + 1:Nat):Int) - 1 = (n:Int):=by omega
  rw [e1]
  refine ⟨fun u=>Gr w2 u,Gr.refl _,idx_i rfl h2 ⟨x,fun u s=>cx u s,⟨by omega,by omega⟩,idx_i rfl (by omega) ⟨z,fun u s=>cz u s,br_intro (fun h3=>?_) fun h3=>?_⟩⟩⟩
  rotate_left
  · have h3:x≠z:=by simpa using h3
    refine ⟨⟨by omega,by omega⟩,⟨n + 1,by simp,h2,?_,h⟩,msr h2⟩
    rw [dd_take hz hx,if_neg (Ne.symm h3),hS,List.take_add_one (i:=n + 1),hx]; rfl
  have h3:x = z:=by simpa using h3
  subst h3
  refine slc_from (by omega) hlc ?_
  refine ⟨fun z y w'=>∃ (k t:Nat) (us:List Int),z = (k:Int)∧y = ((t + 1:Nat):Int)∧n + 1≤k∧k≤n + 1 + t∧n + 1 + t + 1≤l∧us.length = l∧us.drop k = xs.drop k∧us.take k = dd (xs.take (n + 1 + t + 1))∧St w' (own 1 (some ad) l c (iv us) :: L),fun _ y _=>l - y.toNat,
    ⟨n + 1,0,xs,rfl,rfl,Nat.le_refl _,Nat.le_refl _,by omega,hl,rfl,?_,h⟩,?_⟩
  · rw [show n + 1 + 0 + 1 = n + 2 by omega,dd_take hz hx,if_pos rfl,hS]
  clear h hr cx cz
  rintro _ _ _ w3 ⟨k,t,us,rfl,rfl,hk1,hk2,ht,hul,hud,hut,h⟩
  have hul2:(iv us).length = l:=by rw [iv_len,hul]
  refine br_intro (fun h3=>?_) fun h3=>?_
  rotate_left
  · have h3:l = n + 1 + t + 1:=by have:=of_decide_eq_false h3; omega
    rw [← h3,List.take_of_length_le (show xs.length≤l by omega)] at hut
    have hkl:(dd xs).length = k:=by rw [← hut,List.length_take]; omega
    have hc:=clear_own (ty:=0) (c2:=c - k) tyOk (rfl:kdOfT Ty ty_s_int = .slice _) (rfl:Ty ty_int = some _) rfl rfl (fun v hv=>by rcases List.mem_cons.1 hv with rfl | hv; rfl; cases hv) (by show 0 < 1; decide) h (show k≤l by omega)
    refine slc_from (by omega) hlc (hc.mono ?_)
    rintro _ w4 ⟨vs,hv,h⟩
    refine slc_hiN (by omega) ?_
    have h:=own_cut h (k:=k) (by omega)
    have e:vs.take (k * 1) = iv (dd xs):=hv.trans (by rw [← hut]; show (iv us).take (k * 1) = _; rw [Nat.mul_one]; unfold iv; rw [List.map_take])
    rw [hkl]
    exact ⟨_,_,rfl,by rw [← e]; exact h⟩
  have h3:t + 1 < l - (n + 1):=by have:=of_decide_eq_true h3; omega
  intro w4 hd
  have h:=h.eq (drawn_hp hd)
  have hr:=(rdI_of hul (rdOv 0 h.l):rdS (hp w4) us (some ad) l).drop (k:=n + 1) (m:=c) (by omega) hlc
  have same:∀ j,k≤j→us[j]? = xs[j]?:=fun j hj=>by
    have:=congrArg (fun l=>l[j - k]?) hud
    simp only [List.getElem?_drop] at this
    rwa [show k + (j - k) = j by omega] at this
  obtain ⟨x2,ad3,hx2,e3,cx⟩:=hr.get1 h3
  obtain ⟨z2,ad4,hz2,e4,cz⟩:=hr.get1 (by omega:t < l - (n + 1))
  rw [e3] at e4
  cases e4
  rw [List.getElem?_drop,same _ (by omega)] at hx2 hz2
  have e1:((t + 1:Nat):Int) - 1 = (t:Int):=by omega
  have hx3:xs[n + 1 + t + 1]? = some x2:=by rw [← hx2]; congr 1
  have hz3:xs[n + 1 + t]? = some z2:=by rw [← hz2]
  rw [e1]
  refine ⟨fun u=>Gr w4 u,Gr.refl _,idx_i e3 h3 ⟨x2,fun u s=>cx u s,⟨by omega,by omega⟩,idx_i e3 (by omega) ⟨z2,fun u s=>cz u s,br_intro (fun h4=>?_) fun h4=>?_⟩⟩⟩
  rotate_left
  · have h4:x2 = z2:=by simpa using h4
    subst h4
    refine ⟨⟨by omega,by omega⟩,⟨k,t + 1,us,rfl,by simp,hk1,by omega,by omega,hul,hud,?_,h⟩,msr (by omega)⟩
    rw [hut,show n + 1 + (t + 1) + 1 = n + 1 + t + 2 by omega,dd_take hz3 hx3,if_pos rfl]
  have h4:x2≠z2:=by simpa using h4
  refine idx_i e3 h3 ⟨x2,cx _ (Gr.refl _),idx_i rfl (by omega) ?_⟩
  refine own_st1 h rfl (by rw [hul2]; omega) fun w5 h=>?_
  rw [iv_setL] at h
  refine ⟨⟨by omega,by omega⟩,⟨by omega,by omega⟩,⟨k + 1,t + 1,us.set k x2,by simp,by simp,by omega,by omega,by omega,by rw [List.length_set,hul],?_,?_,h⟩,msr (by omega)⟩
  · rw [List.drop_set_of_lt (by omega),← List.drop_drop (i:=1),hud,List.drop_drop]
  · have hku:k < us.length:=by omega
    rw [show n + 1 + (t + 1) + 1 = n + 1 + t + 2 by omega,dd_take hz3 hx3,if_neg (Ne.symm h4),← hut,List.take_add_one,List.getElem?_set_self hku,List.take_set_of_le (Nat.le_refl _)]
    rfl
end Go.Proofs.YtndaepmjkbmjmaaGreatDoor
set_option linter.unusedVariables false
set_option maxRecDepth 4000
set_option linter.unusedSectionVars false
namespace Go.V
open MapKept
section
variable {κ : Type} [DecidableEq κ] [MVal κ] {P:Program} {w:World} {L:List Asn} {Ty:TypeId→Option TyI}
theorem aput_aput (k:κ) (u v:Value):∀ m:List (κ × Value),aput k v (aput k u m) = aput k v m
  | []=>by simp [aput]
  | (a,x) :: m=>by
    unfold aput
    by_cases h:k = a
    · subst h; simp [aput]
    · have e:aput k u ((a,x) :: m) = (a,x) :: aput k u m:=by show (if k = a then _ else _) = _; rw [if_neg h]
      rw [e,if_neg h]
      show (if k = a then _ else (a,x) :: aput k v (aput k u m)) = _
      rw [if_neg h,aput_aput k u v m]
theorem at_of {k:κ} {u:Value}:∀ {m:List (κ × Value)} {j:Nat},assoc k m = some u→(m[j]?).map (·.1) = some k→(∀ v,aput k v m = m.set j (k,v))→m[j]? = some (k,u)
  | [],j,h,_,_=>by cases h
  | (a,x) :: m,0,h,hk,hp=>by
    simp at hk; subst hk
    simp [assoc] at h; subst h
    rfl
  | (a,x) :: m,j + 1,h,hk,hp=>by
    by_cases e:k = a
    · subst e
      have h1:=hp (.bool true)
      have h2:=hp (.bool false)
      simp [aput] at h1 h2
      have h3:=h1.1.trans h2.1.symm
      cases h3
    · have e1:assoc k ((a,x) :: m) = assoc k m:=by show (if k = a then _ else _) = _; rw [if_neg e]
      rw [e1] at h
      rw [List.getElem?_cons_succ] at hk ⊢
      refine at_of h hk fun v=>?_
      have h1:=hp v
      simpa [aput,e] using h1
def mapE (b:Nat) (m:List (κ × Value)) (k:κ) (n:Int):Asn:=fun h=>∃ es clock i,h b = some (.map es clock)∧MapOk es clock m∧i < m.length∧(∀ u,aput k u m = m.set i (k,u))∧(m[i]?).map (·.1) = some k∧(es[i]?).map (fun e=>(e.born:Int)) = some n
theorem mapE_ex {b:Nat} {m:List (κ × Value)} {k:κ} {n:Int}:St w (mapE b m k n :: L)↔∃ es clock i,MapOk es clock m∧i < m.length∧(∀ u,aput k u m = m.set i (k,u))∧(m[i]?).map (·.1) = some k∧(es[i]?).map (fun e=>(e.born:Int)) = some n∧St w (blk b (.map es clock) :: L) :=
  ⟨fun ⟨h1,h2,d,s1,s2,⟨es,cl,i,ha,q1,q2,q3,q4,q5⟩,hl⟩=>⟨es,cl,i,q1,q2,q3,q4,q5,h1,h2,d,s1,s2,ha,hl⟩,fun ⟨es,cl,i,q1,q2,q3,q4,q5,h1,h2,d,s1,s2,ha,hl⟩=>⟨h1,h2,d,s1,s2,⟨es,cl,i,ha,q1,q2,q3,q4,q5⟩,hl⟩⟩
theorem ev_map {b:Nat} {es:Array MapEntry} {cl:Nat} (hg:w.heap[b]? = some (.map es cl)) (o:Array MapEntry × Nat):Ev w { w with heap:=w.heap.setIfInBounds b (.map o.1 o.2) }:=by
  refine ⟨rfl,rfl,rfl,by simp,?_,?_⟩ <;>
  · intro x d hx
    rw [Array.getElem?_setIfInBounds_ne]; exact hx
    intro e; subst e; rw [hg] at hx; cases hx
theorem map_take (hT:TyOk P Ty) {t kt et:TypeId} {i:TyI} {z:Value} (hk:kdOfT Ty t = .map kt et) (hkt:KeyP P kt κ) (hi:Ty et = some i) (hz:i.zero = some z) {b:Nat} {m:List (κ × Value)} (h:St w (mapA b m :: L)) (k:κ) :
    RunS P (Instr.mapEntry t (.map (some b)) (MVal.val k)) w fun v w'=>∃ n:Int,v = .tuple #[(assoc k m).getD z,.int .i64 n]∧St w' (mapE b (aput k ((assoc k m).getD z) m) k n :: L):=by
  obtain ⟨d,hd,hd'⟩:=undOf hT hk (by simp)
  rw [kd_map' hd'] at hd
  obtain ⟨es,cl,⟨he,hnd,hlt⟩,h⟩:=mapA_ex.1 h
  obtain ⟨r,hf,q2,q3,q4⟩:=hkt.find w k es.toList m he
  obtain ⟨info,d2,ha⟩:=tyAt hT hi
  have hzz:(zeroValue et).run P w = .ok z w:=run_zero ha.inf (by rw [← ha.zero,hz])
  have hg:=h.get
  have hc:=fun e=>hkt.check w e k
  have hlen:es.size = m.length:=by have:=congrArg List.length he; simpa using this
  cases r with
  | none =>
    have e0:assoc k m = none:=by rw [← q2]; rfl
    rw [e0]
    refine ⟨_,_,?_,ev_map hg (es.push { key:=MVal.val k,val:=z,born:=cl },cl + 1),cl,rfl,mapE_ex.2 ⟨_,_,m.length,?_,?_,?_,?_,?_,h.setObj _⟩⟩
    · unfold Instr.mapEntry
      simp only [Sem.run_bind,run_und hd,Result.andThen_ok,run_getObj_map w b es cl hg,hc,hf,hzz]
      rw [run_setObj_map _ hg]
      rfl
    · refine ⟨by rw [q4 rfl]; simp [he],?_,?_⟩
      · rw [Array.toList_push,List.map_append,List.nodup_append]
        refine ⟨hnd,by simp,fun a ha b hb e=>?_⟩
        obtain ⟨x,hx,rfl⟩:=List.mem_map.1 ha
        have:=hlt x hx
        simp at hb; omega
      · intro e he'
        rw [Array.toList_push,List.mem_append,List.mem_singleton] at he'
        rcases he' with he' | rfl
        · have:=hlt e he'; omega
        · exact Nat.lt_succ_self _
    · show _ < (aput k z m).length
      rw [q4 rfl]; simp
    · intro u
      show aput k u (aput k z m) = (aput k z m).set _ _
      rw [aput_aput,q4 rfl u,q4 rfl z]
      simp
    · show ((aput k z m)[m.length]?).map _ = _
      rw [q4 rfl]; simp
    · rw [← hlen]; simp
  | some x =>
    obtain ⟨j,u⟩:=x
    obtain ⟨p2,p3,p4⟩:=q3 j u rfl
    have hj:j < es.size:=by omega
    have e0:assoc k m = some u:=by rw [← q2]; rfl
    have hmj:m[j]? = some (k,u):=at_of e0 p3 p4
    have hput:aput k u m = m:=by
      rw [p4 u]
      exact set_same hmj
    have hkey:(es[j]?).map (fun e=>(e.key,e.val)) = some (MVal.val k,u):=by
      have h1:=congrArg (fun l=>l[j]?) he
      simp only [List.getElem?_map,hmj,Option.map_some] at h1
      rw [← h1]; simp
    obtain ⟨e,hej,hek⟩:=Option.map_eq_some_iff.1 hkey
    have hek1:e.key = MVal.val k:=congrArg Prod.fst hek
    have hk1:((es[j]?).map (·.key)).getD (MVal.val k) = MVal.val k:=by rw [hej]; exact hek1
    have hmod:(es.modify j fun e=>{ e with key:=MVal.val k }) = es:=by
      apply Array.ext_getElem?
      intro i
      rw [Array.getElem?_modify]
      split
      · rename_i hji; subst hji
        rw [hej,← hek1]; rfl
      · rfl
    rw [e0]
    refine ⟨_,_,?_,ev_map hg (es,cl),(e.born:Int),rfl,mapE_ex.2 ⟨_,_,j,?_,?_,?_,?_,?_,h.setObj _⟩⟩
    · unfold Instr.mapEntry
      simp only [Sem.run_bind,run_und hd,Result.andThen_ok,run_getObj_map w b es cl hg,hc,hf,hk1,Instr.keyThatStays,hkt.bits,if_true,Sem.run_pure,hmod]
      rw [run_setObj_map _ hg]
      simp [hej,goInt]
    · show MapOk _ _ (aput k u m)
      rw [hput]; exact ⟨he,hnd,hlt⟩
    · show _ < (aput k u m).length
      rw [hput]; exact p2
    · intro v
      show aput k v (aput k u m) = (aput k u m).set _ _
      rw [hput,p4 v]
    · show ((aput k u m)[j]?).map _ = _
      rw [hput,hmj]; rfl
    · rw [hej]; rfl
theorem map_back {t:TypeId} {b:Nat} {m:List (κ × Value)} {k:κ} {n:Int} (h:St w (mapE b m k n :: L)) (x:Value) :
    RunS P (Instr.entryStore t (.map (some b)) (.int .i64 n) x) w fun _ w'=>St w' (mapA b (aput k x m) :: L):=by
  obtain ⟨es,cl,i,⟨he,hnd,hlt⟩,hi,hput,hm,hb,h⟩:=mapE_ex.1 h
  have hg:=h.get
  have hlen:es.size = m.length:=by have:=congrArg List.length he; simpa using this
  obtain ⟨e,hei,heb⟩:=Option.map_eq_some_iff.1 hb
  have hidx:es.findIdx? (fun e=>(e.born:Int) == n) = some i:=by
    rw [Array.findIdx?_eq_some_iff_getElem]
    refine ⟨by omega,?_,fun j hj=>?_⟩
    · have:=(Array.getElem?_eq_some_iff.1 hei).2
      rw [this,heb]; simp
    · intro hne
      have hne:(es[j].born:Int) = n:=by simpa using hne
      have h1:(es.toList.map (·.born))[j]? = some es[j].born:=by simp [show j < es.size by omega]
      have h2:(es.toList.map (·.born))[i]? = some e.born:=by rw [List.getElem?_map,Array.getElem?_toList,hei]; rfl
      have e3:es[j].born = e.born:=by omega
      rw [e3] at h1
      have:=hnd
      have h4:=(List.getElem?_inj (i:=j) (j:=i) (by simp; omega) hnd).1 (by rw [h1,h2])
      omega
  refine ⟨(),_,?_,ev_map hg (es.modify i fun e=>{ e with val:=x },cl),mapA_ex.2 ⟨_,_,?_,h.setObj _⟩⟩
  · unfold Instr.entryStore
    simp only [Sem.run_bind,run_getObj_map w b es cl hg,Result.andThen_ok]
    show ((asInt (.int .i64 n)).run P w).andThen _ = _
    have ha:(asInt (.int .i64 n)).run P w = .ok n w:=rfl
    rw [ha,Result.andThen_ok]
    simp only [hidx]
    exact run_setObj_map _ hg
  · refine ⟨?_,?_,?_⟩
    rotate_left
    · have:(es.modify i fun e=>{ e with val:=x }).toList.map (·.born) = es.toList.map (·.born):=by
        apply List.ext_getElem?
        intro i
        simp only [List.getElem?_map,Array.getElem?_toList,Array.getElem?_modify]
        split
        · cases es[i]? <;> rfl
        · rfl
      rw [this]; exact hnd
    · intro e he'
      obtain ⟨i,hi⟩:=List.getElem?_of_mem he'
      rw [Array.getElem?_toList,Array.getElem?_modify] at hi
      split at hi
      · cases hx:es[i]? with
        | none=>rw [hx] at hi; cases hi
        | some x=>rw [hx] at hi; cases hi; exact hlt x (by rw [← Array.getElem?_toList] at hx; exact List.mem_of_getElem? hx)
      · rw [← Array.getElem?_toList] at hi; exact hlt e (List.mem_of_getElem? hi)
    rw [hput x]
    apply List.ext_getElem?
    intro j
    have h1:=congrArg (fun l=>l[j]?) he
    simp only [List.getElem?_map,Array.getElem?_toList] at h1
    simp only [List.getElem?_map,Array.getElem?_toList,Array.getElem?_modify,List.getElem?_set]
    by_cases hij:i = j
    · subst hij
      rw [hei] at h1 ⊢
      cases hmi:m[i]? with
      | none=>rw [hmi] at hm; cases hm
      | some y =>
        rw [hmi] at h1 hm
        simp only [Option.map_some,Option.some.injEq,Prod.mk.injEq] at h1 hm
        simp [hi,h1.1,hm]
    · simp [hij,h1]
end
end Go.V
set_option linter.unusedVariables false
set_option maxRecDepth 4000
namespace Go.V
def SsP (g:GramT) (bss:List (List Bool)):Prop:=bss.length = g.N∧∀ (i:Nat) bs,bss[i]? = some bs→bs.length = g.T∧∀ t,fnB bs t = true↔Fst g ((g.T + i:Nat):Int) t
theorem SsP.inj {g:GramT} {bs cs:List (List Bool)} (h:SsP g bs) (k:SsP g cs):bs = cs:=by
  apply List.ext_getElem?
  intro i
  cases h1:bs[i]? with
  | none =>
    have:=List.getElem?_eq_none_iff.1 h1
    exact (List.getElem?_eq_none (by rw [k.1,← h.1]; exact this)).symm
  | some b =>
    have hl:=(List.getElem?_eq_some_iff.1 h1).1
    obtain ⟨c,h2⟩ : ∃ c,cs[i]? = some c:=⟨cs[i]'(by rw [k.1,← h.1]; exact hl),List.getElem?_eq_getElem _⟩
    rw [h2]
    obtain ⟨a1,a2⟩:=h.2 i b h1
    obtain ⟨b1,b2⟩:=k.2 i c h2
    exact congrArg some (fnB_inj (a1.trans b1.symm) fun t=>by rw [Bool.eq_iff_iff,a2,b2])
end Go.V
namespace Go.Proofs.YtndaepmjkbmjmaaGreatDoor
open Go.V
section
variable {w:World} {L:List Asn} {g:GramT} {x:GA}
end
end Go.Proofs.YtndaepmjkbmjmaaGreatDoor
set_option linter.unusedVariables false
set_option maxRecDepth 4000
namespace Go.V
end Go.V
namespace Go.Proofs.YtndaepmjkbmjmaaGreatDoor
open Go.V
section
variable {w:World} {L:List Asn} {a a2:Option Addr} {l l2 c c2:Nat} {xs ys:List Int}
end
end Go.Proofs.YtndaepmjkbmjmaaGreatDoor
set_option linter.unusedVariables false
set_option maxRecDepth 4000
namespace Go.V
theorem rowH.part {h:Hp} {b:Nat} {vs:List Value} (r:rowH h ⟨b,0,none⟩ vs) (i n:Nat):rowH h ((⟨b,0,none⟩ : Addr).add (mulS i n)) ((vs.drop (i * n)).take n):=fun j v hj=>by
  rw [List.getElem?_take] at hj
  split at hj
  · rw [List.getElem?_drop] at hj
    rw [add_add,mulS_eq]
    exact r _ v hj
  · cases hj
end Go.V
set_option linter.unusedVariables false
set_option maxRecDepth 4000
namespace Go.V
end Go.V
namespace Go.Proofs.YtndaepmjkbmjmaaGreatDoor
open Go.V
section
variable {w:World} {L:List Asn}
end
end Go.Proofs.YtndaepmjkbmjmaaGreatDoor
set_option linter.unusedVariables false
set_option maxRecDepth 4000
namespace Go.V
end Go.V
namespace Go.Proofs.YtndaepmjkbmjmaaGreatDoor
open Go.V
section
variable {w:World} {L:List Asn}
end
end Go.Proofs.YtndaepmjkbmjmaaGreatDoor
set_option linter.unusedVariables false
set_option maxRecDepth 4000
namespace Go.V
end Go.V

set_option linter.unusedVariables false
set_option maxRecDepth 4000
namespace Go.Proofs.YtndaepmjkbmjmaaGreatDoor
open Go.V
section
variable {w:World} {L:List Asn} {g:GramT} {x:GA} {a a2:Option Addr} {l l2 c c2:Nat} {xs ys:List Int}
end
end Go.Proofs.YtndaepmjkbmjmaaGreatDoor
set_option linter.unusedVariables false
set_option maxRecDepth 4000
namespace Go.V
end Go.V
namespace Go.Proofs.YtndaepmjkbmjmaaGreatDoor
open Go.V
section
variable {w:World} {L:List Asn} {g:GramT} {x:GA}
end
end Go.Proofs.YtndaepmjkbmjmaaGreatDoor
set_option linter.unusedVariables false
set_option maxRecDepth 4000
namespace Go.V
def Hop (g:GramT) (s y:Int):Prop:=∃ p∈g.prods,p.left = s∧∃ n:Nat,p.right[n]? = some y∧∀ x∈p.right.take n,Nul g x
theorem Fst.hop {g:GramT} {s0:Int} {ms:List Bool} (h0:(g.T:Int)≤s0) (iG:InG g) (hc:∀ s y,(s = s0∨(0≤s∧fnB ms s.toNat = true))→Hop g s y→fnB ms y.toNat = true) {s:Int} {t:Nat} (h:Fst g s t):(s = s0∨(0≤s∧fnB ms s.toNat = true))→fnB ms t = true:=by
  induction h with
  | tm t ht =>
    rintro (h | ⟨_,h⟩)
    · omega
    · simpa using h
  | pr p i s' t hp h1 h2 h3 ih =>
    intro hR
    exact ih (.inr ⟨((iG p hp).2 s' (List.mem_of_getElem? h1)).1,hc _ _ hR ⟨p,hp,rfl,i,h1,h2⟩⟩)
structure Srch (g:GramT) (s0:Int) (ms:List Bool) (xs:List Int) (D:Int→Prop):Prop where
  ln:ms.length = g.T + g.N
  rg:∀ y∈xs,0≤y∧y < (g.T:Int) + g.N
  cl:∀ s,(s = s0∨(0≤s∧fnB ms s.toNat = true))→s∈xs∨D s∨∀ y,Hop g s y→fnB ms y.toNat = true
theorem Srch.pop {g:GramT} {s0:Int} {ms:List Bool} {xs:List Int} {s1:Int} (h:Srch g s0 ms (s1 :: xs) fun _=>False):Srch g s0 ms xs (· = s1) :=
  ⟨h.ln,fun y hy=>h.rg y (List.mem_cons_of_mem _ hy),fun s hs=>by
    rcases h.cl s hs with h | h | h
    · rcases List.mem_cons.1 h with h | h
      · exact .inr (.inl h)
      · exact .inl h
    · exact absurd h id
    · exact .inr (.inr h)⟩
theorem Srch.push {g:GramT} {s0:Int} {ms:List Bool} {xs:List Int} {D:Int→Prop} {y:Int} (h:Srch g s0 ms xs D) (hy:0≤y∧y < (g.T:Int) + g.N):Srch g s0 (ms.set y.toNat true) (xs ++ [y]) D:=by
  have hk:y.toNat < ms.length:=by rw [h.ln]; omega
  refine ⟨by rw [List.length_set]; exact h.ln,fun z hz=>?_,fun s hs=>?_⟩
  · rcases List.mem_append.1 hz with hz | hz
    · exact h.rg z hz
    · simp at hz; subst hz; exact hy
  · have mono:∀ k,fnB ms k = true→fnB (ms.set y.toNat true) k = true:=fun k hk'=>by rw [fnB_setT hk,hk']; rfl
    by_cases e:s = y
    · exact .inl (by simp [e])
    · have:s = s0∨(0≤s∧fnB ms s.toNat = true):=by
        rcases hs with hs | ⟨h1,h2⟩
        · exact .inl hs
        · rw [fnB_setT hk,Bool.or_eq_true,beq_iff_eq] at h2
          rcases h2 with h2 | h2
          · exact .inr ⟨h1,h2⟩
          · omega
      rcases h.cl s this with h | h | h
      · exact .inl (List.mem_append.2 (.inl h))
      · exact .inr (.inl h)
      · exact .inr (.inr fun z hz=>mono _ (h z hz))
theorem Srch.done {g:GramT} {s0:Int} {ms:List Bool} {xs:List Int} {s1:Int} (h:Srch g s0 ms xs (· = s1)) (hd:∀ y,Hop g s1 y→fnB ms y.toNat = true):Srch g s0 ms xs fun _=>False :=
  ⟨h.ln,h.rg,fun s hs=>by
    rcases h.cl s hs with h | rfl | h
    · exact .inl h
    · exact .inr (.inr hd)
    · exact .inr (.inr h)⟩
end Go.V
namespace Go.Proofs.YtndaepmjkbmjmaaGreatDoor
open Go.V
section
variable {w:World} {L:List Asn} {g:GramT} {x:GA}
end
end Go.Proofs.YtndaepmjkbmjmaaGreatDoor
set_option linter.unusedVariables false
set_option maxRecDepth 4000
namespace Go.V
def GramT.more (g:GramT) (q:ProdT):GramT:={ g with prods:=g.prods ++ [q] }
theorem Nul.more {g:GramT} {q:ProdT} {s:Int} (h:Nul g s):Nul (g.more q) s:=by
  induction h with
  | mk p hp _ ih=>exact .mk p (List.mem_append.2 (.inl hp)) ih
theorem Fst.more {g:GramT} {q:ProdT} {s:Int} {t:Nat} (h:Fst g s t):Fst (g.more q) s t:=by
  induction h with
  | tm t ht=>exact .tm t ht
  | pr p i s t hp h1 h2 _ ih=>exact .pr p i s t (List.mem_append.2 (.inl hp)) h1 (fun x hx=>(h2 x hx).more) ih
end Go.V
namespace Go.Proofs.YtndaepmjkbmjmaaGreatDoor
open Go.V
section
variable {w:World} {L:List Asn} {g:GramT} {x:GA}
end
end Go.Proofs.YtndaepmjkbmjmaaGreatDoor
set_option linter.unusedVariables false
set_option maxRecDepth 4000
namespace Go.V
def VanP (g:GramT) (nn:List Bool) (row:List Int):Prop:=∀ s∈row,(g.T:Int)≤s∧fnB nn (s.toNat - g.T) = true
theorem NnP.van {g:GramT} {nn:List Bool} (h:NnP g nn) (iG:InG g) {row:List Int}:VanP g nn row↔NulR g row:=by
  refine forall_congr' fun s=>imp_congr Iff.rfl ?_
  constructor
  · rintro ⟨h1,h2⟩
    have:=(h.2 _).1 h2
    rwa [show ((g.T + (s.toNat - g.T):Nat):Int) = s from by omega] at this
  · intro hN
    have hl:=hN.left iG
    refine ⟨hl.1,(h.2 _).2 ?_⟩
    rwa [show ((g.T + (s.toNat - g.T):Nat):Int) = s from by omega]
end Go.V
namespace Go.Proofs.YtndaepmjkbmjmaaGreatDoor
open Go.V
section
variable {w:World} {L:List Asn} {g:GramT} {x:GA} {a an:Option Addr} {l c nl cn:Nat} {row:List Int} {nn:List Bool}
end
end Go.Proofs.YtndaepmjkbmjmaaGreatDoor
set_option linter.unusedVariables false
set_option maxRecDepth 4000
namespace Go.V
def symN (T:Nat) (nn:List Bool):List Bool:=List.replicate T false ++ nn
theorem fnB_symN {T:Nat} {nn:List Bool} (i:Nat):fnB (symN T nn) i = (decide (T≤i) && fnB nn (i - T)):=by
  unfold symN fnB
  rw [List.getD_eq_getElem?_getD,List.getD_eq_getElem?_getD]
  by_cases h:T≤i
  · rw [List.getElem?_append_right (by simpa using h),List.length_replicate]; simp [h]
  · rw [List.getElem?_append_left (by simp; omega),List.getElem?_replicate,if_pos (by omega)]
    simp [h]
def slT (T p:Nat):Value:=.slice (some ⟨p,0,none⟩) T T
end Go.V
namespace Go.Proofs.YtndaepmjkbmjmaaGreatDoor
open Go.V
section
variable {w:World} {L:List Asn} {T ks q:Nat} {x:GA} {a an ao:Option Addr} {l c nl cn ol co:Nat} {row:List Int} {nn bs:List Bool} {ps:List Nat} {vs:List (List Bool)}
end
end Go.Proofs.YtndaepmjkbmjmaaGreatDoor
set_option linter.unusedVariables false
set_option maxRecDepth 4000
namespace Go.V
theorem NnP.sym {g:GramT} {nn:List Bool} (h:NnP g nn) (iG:InG g) (i:Nat):fnB (symN g.T nn) i = true↔Nul g (i:Int):=by
  rw [fnB_symN,Bool.and_eq_true,decide_eq_true_eq]
  constructor
  · rintro ⟨h1,h2⟩
    have:=(h.2 _).1 h2
    rwa [show ((g.T + (i - g.T):Nat):Int) = i from by omega] at this
  · intro hN
    have hl:=hN.left iG
    refine ⟨by omega,(h.2 _).2 ?_⟩
    rwa [show ((g.T + (i - g.T):Nat):Int) = i from by omega]
theorem NnP.rowN {g:GramT} {nn:List Bool} (h:NnP g nn) (iG:InG g) {p:ProdT} (hp:p∈g.prods):rowN (symN g.T nn) p.right = true→fnB (symN g.T nn) p.left.toNat = true:=fun hr=>by
  obtain ⟨h1,h2⟩:=iG p hp
  rw [h.sym iG,toNat_back (by omega)]
  refine .mk p hp fun s hs=>?_
  have:=(h.sym iG _).1 (rowN_iff.1 hr s hs)
  rwa [toNat_back (h2 s hs).1] at this
end Go.V
namespace Go.Proofs.YtndaepmjkbmjmaaGreatDoor
open Go.V
section
variable {w:World} {L:List Asn} {g:GramT} {x:GA}
end
end Go.Proofs.YtndaepmjkbmjmaaGreatDoor
set_option linter.unusedVariables false
set_option maxRecDepth 4000
namespace Go.V
structure TabR (h:Hp) (g:GramT) (x:GA) (b k4:Nat) (o:Option Addr) (c:Nat) (nn:List Bool) (ps:List Nat) (vs:List (List Bool)):Prop where
  f:rowH h ⟨b,0,none⟩ (FC x k4 g.N o (g.T + g.N) c)
  n:rowH h ⟨k4,0,none⟩ (bv nn)
  p:∃ ad,o = some ad∧rowH h ad (ps.map (slT g.T))
  v:∀ (i:Nat) p v,ps[i]? = some p→vs[i]? = some v→rowH h ⟨p,0,none⟩ (bv v)
theorem TabR.mono {h h' : Hp} {g:GramT} {x:GA} {b k4:Nat} {o:Option Addr} {c:Nat} {nn:List Bool} {ps:List Nat} {vs:List (List Bool)} (s:sub h h') (t:TabR h g x b k4 o c nn ps vs):TabR h' g x b k4 o c nn ps vs :=
  ⟨t.f.mono s,t.n.mono s,by obtain ⟨ad,e,r⟩:=t.p; exact ⟨ad,e,r.mono s⟩,fun i p v h1 h2=>(t.v i p v h1 h2).mono s⟩
end Go.V
namespace Go.Proofs.YtndaepmjkbmjmaaGreatDoor
open Go.V
section
variable {w:World} {L:List Asn} {g:GramT} {x:GA} {b k4:Nat} {o a:Option Addr} {c l cl:Nat} {nn:List Bool} {ps:List Nat} {vs:List (List Bool)} {row:List Int}
end
end Go.Proofs.YtndaepmjkbmjmaaGreatDoor
set_option linter.unusedVariables false
set_option maxRecDepth 4000
namespace Go.V
def NulRes (g:GramT) (e:Int) (nn:List Bool):Prop:=(¬ EitherP g∧e = 1∧nn = [])∨(EitherP g∧e = 0∧NnP g nn)
def SetRes (g:GramT) (e:Int) (bss:List (List Bool)):Prop:=(¬ EitherP g∧e = 1∧bss = [])∨(EitherP g∧e = 0∧SsP g bss)
def RowRes (g:GramT) (row:List Int) (e:Int) (b:Bool) (xs:List Int):Prop:=(¬ (EitherP g∧SyP g row)∧e = 1∧b = false∧xs = [])∨((EitherP g∧SyP g row)∧e = 0∧(b = true↔NulR g row)∧∃ bs,BsP g row bs∧xs = mbI bs)
theorem NulRes.inj {g:GramT} {e e' : Int} {nn nn' : List Bool} (h:NulRes g e nn) (k:NulRes g e' nn'):e = e'∧nn = nn':=by
  rcases h with ⟨h1,rfl,rfl⟩ | ⟨h1,rfl,h2⟩ <;> rcases k with ⟨k1,rfl,rfl⟩ | ⟨k1,rfl,k2⟩
  · exact ⟨rfl,rfl⟩
  · exact absurd k1 h1
  · exact absurd h1 k1
  · exact ⟨rfl,h2.inj k2⟩
theorem SetRes.inj {g:GramT} {e e' : Int} {nn nn' : List (List Bool)} (h:SetRes g e nn) (k:SetRes g e' nn'):e = e'∧nn = nn':=by
  rcases h with ⟨h1,rfl,rfl⟩ | ⟨h1,rfl,h2⟩ <;> rcases k with ⟨k1,rfl,rfl⟩ | ⟨k1,rfl,k2⟩
  · exact ⟨rfl,rfl⟩
  · exact absurd k1 h1
  · exact absurd h1 k1
  · exact ⟨rfl,h2.inj k2⟩
theorem RowRes.inj {g:GramT} {row:List Int} {e e' : Int} {b b' : Bool} {xs xs' : List Int} (h:RowRes g row e b xs) (k:RowRes g row e' b' xs'):e = e'∧b = b'∧xs = xs':=by
  rcases h with ⟨h1,rfl,rfl,rfl⟩ | ⟨h1,rfl,h2,bs,h3,rfl⟩ <;> rcases k with ⟨k1,rfl,rfl,rfl⟩ | ⟨k1,rfl,k2,bs',k3,rfl⟩
  · exact ⟨rfl,rfl,rfl⟩
  · exact absurd k1 h1
  · exact absurd h1 k1
  · exact ⟨rfl,by rw [Bool.eq_iff_iff,h2,k2],by rw [h3.inj k3]⟩
theorem SetRes.le {g:GramT} {e:Int} {bss:List (List Bool)} (h:SetRes g e bss):bss.length≤65∧∀ bs∈bss,bs.length≤65:=by
  rcases h with ⟨_,_,rfl⟩ | ⟨he,_,h1,h2⟩
  · simp
  · obtain ⟨iG,bT,bN,pN,pT,bP⟩:=inG he
    refine ⟨by omega,fun bs hb=>?_⟩
    obtain ⟨i,hi,e⟩:=List.mem_iff_getElem.1 hb
    have:=(h2 i bs (by rw [← e]; exact List.getElem?_eq_getElem hi)).1
    omega
theorem RowRes.le {g:GramT} {row:List Int} {e:Int} {b:Bool} {xs:List Int} (h:RowRes g row e b xs):xs.length≤65:=by
  rcases h with ⟨_,_,_,rfl⟩ | ⟨he,_,_,bs,h1,rfl⟩
  · simp
  · obtain ⟨iG,bT,bN,pN,pT,bP⟩:=inG he.1
    have:=cntB_le bs
    rw [mbI_len,]
    have:=h1.1
    omega
theorem NulRes.le {g:GramT} {e:Int} {nn:List Bool} (h:NulRes g e nn):nn.length≤65:=by
  rcases h with ⟨_,_,rfl⟩ | ⟨he,_,h1,h2⟩
  · simp
  · obtain ⟨iG,bT,bN,pN,pT,bP⟩:=inG he
    omega
end Go.V
namespace Go.Proofs.YtndaepmjkbmjmaaGreatDoor
open Go.V
section
variable {w:World} {L:List Asn} {g:GramT} {x:GA} {a a2:Option Addr} {l l2 c c2:Nat} {bs:List Bool} {row:List Int}
theorem f_Nullable2 (hg:gR (hp w) g x) (hb:okG g) (ht:tabA (hp w)):Run Tryz.prog n_first_Nullable [.agg ⟨x.cells⟩] w fun v w'=>∃ (o:Option Addr) (n c:Nat) (e:Int) (nn:List Bool),v = .tuple #[.slice o n c,.int .i64 e]∧nn.length = n∧NulRes g e nn∧St w' (own 1 o n c (bv nn) :: all w):=by
  refine (f_Nullable hg hb ht).mono ?_
  rintro _ w' (⟨h1,rfl,h2⟩ | ⟨h1,k,nl,nn,h2,h3,rfl,h4⟩)
  · exact ⟨_,_,_,_,[],rfl,rfl,.inl ⟨h1,rfl,rfl⟩,own_nil 1 (has_i h2)⟩
  · refine ⟨_,_,_,_,nn,rfl,h3.1,.inr ⟨h1,rfl,h3⟩,?_⟩
    have e:bv (nl ++ nn) = bv nl ++ (bv nn ++ ([] ++ [])):=by simp [bv]
    rw [e] at h4
    have:=own_some' (pre:=bv nl) (vs:=bv nn) (cs:=[]) (post:=[]) (l:=g.N) (c:=g.N) (sz:=1) h4 (by rw [bv_len,h3.1,Nat.mul_one]) (by rw [List.append_nil,bv_len,h3.1,Nat.mul_one]) (Nat.le_refl _)
    rw [bv_len,h2] at this
    exact this
end
end Go.Proofs.YtndaepmjkbmjmaaGreatDoor
set_option linter.unusedVariables false
set_option maxRecDepth 4000
namespace Go.V
def NumI (g:GramT) (ss:List SQ) (m:List (TransT × Value)) (i:Nat):Prop:=∀ t:TransT,assoc t m = if t∈(TrL g ss).take i then some (.int .i64 (((TrL g ss).idxOf t:Int) + 1)) else none
def ToI (ss:List SQ) (m:List (TransT × Value)) (i:Nat) (es:List EdgeT):Prop:=∀ k:TransT,assoc k m =
  if k.st < 0 then none else if k.st.toNat < i then (nxt ss k.st.toNat k.sym).map (fun j=>Value.int .i64 (j + 1)) else if k.st.toNat = i then (es.find? fun e=>decide (e.sym = k.sym)).map (fun e=>Value.int .i64 (e.to + 1)) else none
section
variable {g:GramT} {ss:List SQ} {m:List (TransT × Value)} {i:Nat}
theorem NumI.start:NumI g ss [] 0:=fun t=>by simp [assoc]
theorem NumI.step (hA:AutI g ss) (h:NumI g ss m i) {t:TransT} (ht:(TrL g ss)[i]? = some t):NumI g ss (aput t (.int .i64 ((i:Int) + 1)) m) (i + 1):=fun u=>by
  rw [assoc_put,h u,List.take_add_one,ht]
  by_cases e:u = t
  · subst e
    rw [if_pos rfl,if_pos (by simp),idx_at (TrL_nd hA) ht]
  · rw [if_neg e]; simp [e]
theorem NumI.all (h:NumI g ss m (TrL g ss).length) (t:TransT):(assoc t m).getD (.int .i64 0) = .int .i64 (numT g ss t):=by
  rw [h t,List.take_length]
  unfold numT
  split <;> rfl
theorem ToI.start:ToI ss [] 0 []:=fun k=>by simp [assoc]
theorem ToI.step {es:List EdgeT} (h:ToI ss m i es) {e:EdgeT} (hn:e.sym∉es.map (·.sym)):ToI ss (aput ⟨(i:Int),e.sym⟩ (.int .i64 (e.to + 1)) m) i (es ++ [e]):=fun k=>by
  rw [assoc_put,h k,find_snoc hn]
  by_cases hk:k = ⟨(i:Int),e.sym⟩
  · subst hk
    simp
  · rw [if_neg hk]
    split
    · rfl
    · split
      · rfl
      · split
        · have:k.sym≠e.sym:=fun h=>hk (by cases k; simp at *; omega)
          rw [if_neg this]
        · rfl
theorem ToI.next {q:SQ} (hq:ss[i]? = some q) (h:ToI ss m i q.2.2):ToI ss m (i + 1) []:=fun k=>by
  rw [h k]
  split
  · rfl
  · by_cases h1:k.st.toNat < i
    · rw [if_pos h1,if_pos (by omega)]
    · rw [if_neg h1]
      by_cases h2:k.st.toNat = i
      · rw [if_pos h2,if_pos (by omega),h2,nxt_some hq,Option.map_map]; rfl
      · rw [if_neg h2,if_neg (by omega)]; simp
theorem ToI.all (h:ToI ss m ss.length []) (k:TransT):(assoc k m).getD (.int .i64 0) = .int .i64 (toK ss k):=by
  rw [h k]
  unfold toK
  by_cases h0:k.st < 0
  · rw [if_pos h0,if_pos h0]; rfl
  · rw [if_neg h0,if_neg h0]
    split
    · cases nxt ss k.st.toNat k.sym <;> rfl
    · have:nxt ss k.st.toNat k.sym = none:=by unfold nxt; rw [List.getElem?_eq_none (by omega)]
      rw [this]; simp
end
abbrev wrC (x:GA) (o:Option Addr) (n c:Nat) (a int:Int) (ol:Option Addr) (nl cl ka kt:Nat) (on:Option Addr) (nn cn kp:Nat):List Value:=x.cells ++ [.slice o n c,.int .i64 a,.int .i64 int,.slice ol nl cl,.map (some ka),.map (some kt),.slice on nn cn,.map (some kp)]
structure WrR (h:Hp) (g:GramT) (ss:List SQ) (nn:List Bool) (k:Nat):Prop where
  ex:∃ (x:GA) (o:Option Addr) (c:Nat) (a int:Int) (ol:Option Addr) (cl ka kt:Nat) (on:Option Addr) (cn kp:Nat) (ma mt:List (TransT × Value)) (mp:List (Int × Value)),
    rowH h (aM k) (wrC x o ss.length c a int ol (TrL g ss).length cl ka kt on g.N cn kp)∧gR h g x∧stRd h ss o∧rdS h (TrL g ss) ol (TrL g ss).length∧mapA ka ma h∧NumI g ss ma (TrL g ss).length∧mapA kt mt h∧ToI ss mt ss.length []∧rdS h nn on g.N∧mapA kp mp h ∧
    ∀ s:Int,∃ (a:Option Addr) (c:Nat),(assoc s mp).getD (.slice none 0 0) = .slice a (byR g g.prods.length s).length c∧rdS h ((byR g g.prods.length s).map Int.ofNat) a (byR g g.prods.length s).length
theorem WrR.mono {h h' : Hp} {g:GramT} {ss:List SQ} {nn:List Bool} {k:Nat} (s:sub h h') (r:WrR h g ss nn k):WrR h' g ss nn k:=by
  obtain ⟨x,o,c,a,int,ol,cl,ka,kt,on,cn,kp,ma,mt,mp,h1,h2,h3,h4,h5,h6,h7,h8,h9,h10,h11⟩:=r.ex
  exact ⟨x,o,c,a,int,ol,cl,ka,kt,on,cn,kp,ma,mt,mp,h1.mono s,h2.mono s,h3.mono s,h4.mono s,mapA_mono s h5,h6,mapA_mono s h7,h8,h9.mono s,mapA_mono s h10,fun z=>by obtain ⟨a,c,e,r⟩:=h11 z; exact ⟨a,c,e,r.mono s⟩⟩
end Go.V
namespace Go.Proofs.YtndaepmjkbmjmaaGreatDoor
open Go.V
variable {w:World} {L:List Asn} {g:GramT} {x:GA}
set_option maxHeartbeats 4000000 in
theorem y_reof (hg:gR (hp w) g x) (hb:okG g) (ht:tabA (hp w)):Run Tryz.prog n_relate_of [.agg ⟨x.cells⟩] w fun v w'=>∃ (ss:List SQ) (ask int f:Int) (p:Option Addr),v = .tuple #[.pointer p,.int .i64 f]∧Res g ss ask int f∧Gr w w'∧(f = 0→∃ (k:Nat) (nn:List Bool),p = some (aM k)∧NnP g nn∧WrR (hp w') g ss nn k)∧(f≠0→p = none):=by
  refine run_relate_of _ _ _ _ _ _ _ _ _ _ _ _ _ w _ (gbox hg fun k1 w1 gw hg B=>?_)
  refine ⟨_,_,_,_,_,_,_,_,_,_,_,_,_,B.row (sub.refl _),(y_BuildR hg hb).mono ?_⟩
  rintro _ w2 ⟨o,c,ss,ask,int,f,rfl,hR,h⟩
  have g12:Gr w1 w2:=rdH 3 h.l
  have hs:=stRd_of h.l
  clear h
  refine ⟨_,_,_,_,_,_,rfl,newC_i (St.all w2) fun k12 w3 h=>stR_i h rfl (by simp [oneC]) fun w4 h=>br_intro (fun h1=>?_) fun h1=>?_⟩
  · have h1:f≠0:=by simpa using h1
    exact ⟨ss,ask,int,f,none,rfl,hR,gw.trans (g12.trans h.gone1),fun h=>absurd h h1,fun _=>rfl⟩
  have h1:f = 0:=by simpa using h1
  subst h1
  obtain ⟨hc,hA⟩:=hR.aut rfl
  have hkl:=hA.klen hc
  have h256:=hA.dn.2.1
  have hTn:=TrN_len (g:=g) (fun q hq=>(hkl q hq).2) ss.length
  have g24:Gr w2 w4:=h.gone1
  have r12:rowH (hp w4) (aM k12) [.slice o ss.length c,.int .i64 ask,.int .i64 int]:=rdCel 0 h.l
  clear h
  have g14:=g12.trans g24
  have hg4:=hg.mono g14
  have ht4:tabA (hp w4):=rdV.mono (gw.trans g14) ht
  have hs:=hs.mono g24
  have B4:∀ {u:World},sub (hp w4) (hp u)→V.rowAt u ⟨k1,0,none⟩ 0 5 = some x.cells:=fun s=>B.row (sub.trans g14 s)
  have pl:=hg.p.1
  have hgw:=hg
  obtain ⟨_,_,_,b4,_,_,_⟩:=id hb
  refine ⟨_,_,_,_,_,_,_,_,_,_,_,_,_,B4 (sub.refl _),_,_,_,_,_,r12.at (sub.refl _) rfl,?_⟩
  refine new_i (St.all w4) fun ka w5 h=>?_
  have h:=mapA_new (κ:=TransT) h
  refine new_i h fun kt w6 h=>?_
  have h:=mapA_new (κ:=TransT) h
  refine new_i h fun kp w7 h=>?_
  have h:=mapA_new (κ:=Int) h
  refine newC_i (vs:=wrC x o ss.length c ask int none 0 0 ka kt none 0 0 kp) h fun km w8 h=>?_
  have g48:Gr w4 w8:=rdH 4 h.l
  refine ⟨_,_,_,_,_,_,_,_,_,_,_,_,_,B4 g48,(y_trList (hg4.mono g48) hb).mono ?_⟩
  rintro _ w9 ⟨ss2,ask2,int2,f2,ol,cl,rfl,hR2,h2⟩
  obtain ⟨_,hes,_,_,rfl,_⟩:=hR.one hR2
  rw [← TrL_es hes] at h2 ⊢
  have h:=St.on1 h2 h.l
  clear h2
  have rL:rdS (hp w9) (TrL g ss) ol (TrL g ss).length:=rdTr_of rfl (rdOv 0 h.l)
  have h:St w9 (cel km (wrC x o ss.length c ask int none 0 0 ka kt none 0 0 kp) :: own 2 ol (TrL g ss).length cl (trv (TrL g ss)) :: mapA kp ([] : List (Int × Value)) :: mapA kt ([] : List (TransT × Value)) :: mapA ka ([] : List (TransT × Value)) :: all w4):=h.pick 2 [1,0]
  refine ⟨_,_,_,_,rfl,st1_i h (show 8 < 13 by decide) fun w10 ha=>?_⟩
  have h:St w10 (cel km (wrC x o ss.length c ask int ol (TrL g ss).length cl ka kt none 0 0 kp) :: own 2 ol (TrL g ss).length cl (trv (TrL g ss)) :: mapA kp ([] : List (Int × Value)) :: mapA kt ([] : List (TransT × Value)) :: mapA ka ([] : List (TransT × Value)) :: all w4):=ha
  clear ha
  have g410:Gr w4 w10:=rdH 5 h.l
  refine ⟨_,_,_,_,_,_,_,_,_,_,_,_,_,B4 g410,(f_Nullable2 (hg4.mono g410) hb (rdV.mono g410 ht4)).mono ?_⟩
  rintro _ w11 ⟨on,n1,cn,e1,nn,rfl,hnl,hNR,h2⟩
  have h:=St.on1 h2 h.l
  clear h2
  have hnn:NnP g nn:=by
    rcases hNR with ⟨h1,_⟩ | ⟨_,_,h1⟩
    · exact absurd (.inr hc) h1
    · exact h1
  have hnN:n1 = g.N:=by rw [← hnl]; exact hnn.1
  subst hnN
  refine ⟨_,_,_,_,rfl,st1_i (h.pick 2 [1,0]) (show 11 < 13 by decide) fun w12 ha=>?_⟩
  obtain ⟨C,hC⟩ : ∃ C,C = wrC x o ss.length c ask int ol (TrL g ss).length cl ka kt on g.N cn kp:=⟨_,rfl⟩
  have h:St w12 (cel km C :: own 1 on g.N cn (bv nn) :: own 2 ol (TrL g ss).length cl (trv (TrL g ss)) :: mapA kp ([] : List (Int × Value)) :: mapA kt ([] : List (TransT × Value)) :: mapA ka ([] : List (TransT × Value)) :: all w4):=by rw [hC]; exact ha
  clear ha
  have c8:C[8]? = some (.slice ol (TrL g ss).length cl):=by rw [hC]; rfl
  have c9:C[9]? = some (.map (some ka)):=by rw [hC]; rfl
  have c10:C[10]? = some (.map (some kt)):=by rw [hC]; rfl
  have c12:C[12]? = some (.map (some kp)):=by rw [hC]; rfl
  have hTL:(TrL g ss).length≤ss.length * 130:=hTn
  refine ⟨_,_,_,(rdCel 0 h.l).cell (sub.refl _) (j:=8) c8,fun z w'=>∃ (i:Nat) (ma:List (TransT × Value)),z = i∧i≤(TrL g ss).length∧NumI g ss ma i∧St w' (mapA ka ma :: cel km C :: own 1 on g.N cn (bv nn) :: own 2 ol (TrL g ss).length cl (trv (TrL g ss)) :: mapA kp ([] : List (Int × Value)) :: mapA kt ([] : List (TransT × Value)) :: all w4),fun z _=>(TrL g ss).length - z.toNat,
    ⟨0,[],rfl,Nat.zero_le _,.start,h.pick 6 [5,0,1,2,3,4]⟩,?_⟩
  clear h
  rintro _ _ w13 ⟨i,ma,rfl,hi,hN,h⟩
  refine br_intro (fun h1=>?_) fun h1=>?_
  · have h1:i < (TrL g ss).length:=by have:=of_decide_eq_true h1; omega
    have rT:rdS (hp w13) (TrL g ss) ol (TrL g ss).length:=rdTr_of rfl (rdOv 3 h.l)
    obtain ⟨t,tad,ht,hta,rt⟩:=rdTr_get rT h1
    refine idx_n hta h1 ⟨_,_,rt.at (sub.refl _) rfl,newC_i h fun k49 w14 h=>stR_i h rfl (by simp [oneC]) fun w15 h=>?_⟩
    intro w16 hd
    have h:=h.eq (drawn_hp hd)
    have r49:rowH (hp w16) (aM k49) [.int .i64 t.st,.int .i64 t.sym]:=rdCel 0 h.l
    have rk:rowH (hp w16) (aM km) C:=rdCel 2 h.l
    refine ⟨fun u=>Gr w16 u,Gr.refl _,_,fun u s=>rk.cell s (j:=9) c9,_,_,fun u s=>r49.at s rfl,⟨by omega,by omega⟩,(map_updateP (κ:=TransT) tyOk (rfl:kdOfT Ty _ = .map _ _) key_Trans (h.pick 2 [1]) t _).mono ?_⟩
    rintro _ w19 h
    exact ⟨⟨by omega,by omega⟩,⟨i + 1,_,by simp,h1,hN.step hA ht,h⟩,msr h1⟩
  have h1:i = (TrL g ss).length:=by have:=of_decide_eq_false h1; omega
  subst h1
  have s13:sub (hp w4) (hp w13):=rdH 6 h.l
  refine ⟨_,_,_,r12.cell0 s13,fun z w'=>∃ (i:Nat) (mt:List (TransT × Value)),z = i∧i≤ss.length∧ToI ss mt i []∧St w' (mapA kt mt :: mapA ka ma :: cel km C :: own 1 on g.N cn (bv nn) :: own 2 ol (TrL g ss).length cl (trv (TrL g ss)) :: mapA kp ([] : List (Int × Value)) :: all w4),fun z _=>ss.length - z.toNat,
    ⟨0,[],rfl,Nat.zero_le _,.start,h.pick 6 [5,0,1,2,3,4]⟩,?_⟩
  clear h s13
  rintro _ _ w20 ⟨i,mt,rfl,hi,hW,h⟩
  have s20:sub (hp w4) (hp w20):=rdH 6 h.l
  refine br_intro (fun h1=>?_) fun h1=>?_
  · have h1:i < ss.length:=by have:=of_decide_eq_true h1; omega
    obtain ⟨q,hq⟩ : ∃ q,ss[i]? = some q:=⟨_,List.getElem?_eq_getElem h1⟩
    obtain ⟨ad,eo,rs,_,re⟩:=hs i q hq
    have hql:=(hkl q (List.mem_of_getElem? hq)).2
    have hnd:=aut_nd hA hq
    refine idx_n eo h1 ⟨_,_,_,_,_,_,rs.at s20 rfl,newC_i h fun k56 w21 h=>stR_i h rfl (by simp [oneC]) fun w22 h=>?_⟩
    have r56:rowH (hp w22) (aM k56) (stV q):=rdCel 0 h.l
    refine ⟨_,_,_,r56.cell (sub.refl _) (j:=1) rfl,fun z w'=>∃ (k:Nat) (mt:List (TransT × Value)),z = k∧k≤q.2.2.length∧ToI ss mt i (q.2.2.take k)∧St w' (mapA kt mt :: mapA ka ma :: cel km C :: own 1 on g.N cn (bv nn) :: own 2 ol (TrL g ss).length cl (trv (TrL g ss)) :: mapA kp ([] : List (Int × Value)) :: all w4),fun z _=>q.2.2.length - z.toNat,
      ⟨0,mt,rfl,Nat.zero_le _,hW,h.pick 7 [1,2,3,4,5,6]⟩,?_⟩
    clear h hW
    rintro _ _ w23 ⟨k,mt,rfl,hk,hW,h⟩
    have s23:sub (hp w4) (hp w23):=rdH 6 h.l
    refine br_intro (fun h2=>?_) fun h2=>?_
    rotate_left
    · have h2:k = q.2.2.length:=by have:=of_decide_eq_false h2; omega
      subst h2
      rw [List.take_length] at hW
      exact ⟨⟨by omega,by omega⟩,⟨i + 1,mt,by simp,h1,hW.next hq,h⟩,msr h1⟩
    have h2:k < q.2.2.length:=by have:=of_decide_eq_true h2; omega
    obtain ⟨e,ead,he,hea,red⟩:=rdEd_get re h2
    obtain ⟨_,_,j,r',hj,hj1,hr',_⟩:=aut_edge hc hA hq he
    have hjl:=(List.getElem?_eq_some_iff.1 hr').1
    refine idx_n hea h2 ⟨_,_,red.at s23 rfl,newC_i h fun k34 w11 h=>stR_i h rfl (by simp [oneC]) fun w12 h=>?_⟩
    intro w26 hd
    have h:=h.eq (drawn_hp hd)
    have r34:rowH (hp w26) (aM k34) [.int .i64 e.sym,.int .i64 e.to]:=rdCel 0 h.l
    have rk:rowH (hp w26) (aM km) C:=rdCel 3 h.l
    refine ⟨fun u=>Gr w26 u,Gr.refl _,_,fun u s=>rk.cell s (j:=10) c10,_,fun u s=>r34.cell0 s,_,fun u s=>r34.cell s (j:=1) rfl,⟨by omega,by omega⟩,(map_updateP (κ:=TransT) tyOk (rfl:kdOfT Ty _ = .map _ _) key_Trans (h.pick 2 [1]) ⟨(i:Int),e.sym⟩ _).mono ?_⟩
    rintro _ w30 h
    have ht:q.2.2.take (k + 1) = q.2.2.take k ++ [e]:=by rw [List.take_add_one,he]; rfl
    have hn:e.sym∉(q.2.2.take k).map (·.sym):=fun hm=>by
      have e1:q.2.2.map (·.sym) = (q.2.2.take k).map (·.sym) ++ e.sym :: (q.2.2.drop (k + 1)).map (·.sym):=by
        rw [← List.map_cons,← List.map_append]
        congr 1
        have:=List.take_append_drop (k + 1) q.2.2
        rw [ht] at this
        simpa using this.symm
      rw [e1,List.nodup_append] at hnd
      exact hnd.2.2 _ hm _ (by simp) rfl
    have hW:=hW.step hn
    rw [← ht] at hW
    exact ⟨⟨by omega,by omega⟩,⟨k + 1,_,by simp,h2,hW,h⟩,msr h2⟩
  have h1:i = ss.length:=by have:=of_decide_eq_false h1; omega
  subst h1
  have h:=h.pick 6 [5,0,1,2,3,4]
  refine ⟨_,_,_,B.c4 (sub.trans g14 s20),fun z w'=>∃ (j:Nat) (ps:List (Int × Lq Int)),z = j∧j≤x.pl∧(∀ s,getK s ps = (byR g j s).map Int.ofNat)∧St w' (cel km C :: mapA kp (mV ps) :: sta (mO 1 iv ps) :: mapA kt mt :: mapA ka ma :: own 1 on g.N cn (bv nn) :: own 2 ol (TrL g ss).length cl (trv (TrL g ss)) :: all w4),fun z _=>x.pl - z.toNat,
    ⟨0,[],rfl,Nat.zero_le _,fun s=>rfl,?_⟩,?_⟩
  · have h:=(St.flat (M:=[])).2 h
    exact h.pick 7 [4,1,0,2,3,5,6]
  clear h
  rintro _ _ w31 ⟨j,ps,rfl,hj,hps,h⟩
  have s31:sub (hp w4) (hp w31):=rdH 7 h.l
  refine br_intro (fun h1=>?_) fun h1=>?_
  rotate_left
  · have h1:j = x.pl:=by have:=of_decide_eq_false h1; omega
    subst h1
    rw [← pl] at hps
    refine ⟨ss,ask,int,0,some (aM km),rfl,hR,gw.trans (g14.trans s31),fun _=>⟨km,nn,rfl,hnn,x,o,c,ask,int,ol,cl,ka,kt,on,cn,kp,ma,mt,mV ps,by rw [← hC]; exact rdCel 0 h.l,hg4.mono s31,hs.mono s31,rdTr_of rfl (rdOv 6 h.l),?_,hN,?_,hW,rdB_of hnl (rdOv 5 h.l),?_,fun s=>?_⟩,fun h=>absurd rfl h⟩
    · obtain ⟨hm,sm,hA2⟩:=rdA 4 h.l; exact mapA_mono sm hA2
    · obtain ⟨hm,sm,hA2⟩:=rdA 3 h.l; exact mapA_mono sm hA2
    · obtain ⟨hm,sm,hA2⟩:=rdA 1 h.l; exact mapA_mono sm hA2
    have e:=hps s
    cases hq:getQ s ps with
    | none =>
      have e0:getK s ps = []:=by unfold getK; rw [hq]
      rw [e0] at e
      have e1:byR g g.prods.length s = []:=List.map_eq_nil_iff.1 e.symm
      rw [assoc_mV,hq,e1]
      exact ⟨none,0,rfl,rdS.nil⟩
    | some q =>
      have e0:getK s ps = q.2:=by unfold getK; rw [hq]
      rw [e0] at e
      obtain ⟨hq1,sq,ho⟩:=mS_read (starL_tail (starL_tail h.l)) hq
      have hl:q.2.length = (byR g g.prods.length s).length:=by rw [e,List.length_map]
      refine ⟨q.1.1,q.1.2,by rw [assoc_mV,hq]; show slQ q = _; unfold slQ; rw [hl],?_⟩
      rw [← e,← hl]
      exact (rdI_of rfl (own_rdVh ho)).mono sq
  have h1:j < x.pl:=by have:=of_decide_eq_true h1; omega
  obtain ⟨p,ad,vs,hp1,hpa,hp2,ra,rl,rc,rfl,hrc,hp3⟩:=hgw.p.get h1
  refine idx_n hpa h1 ⟨_,_,_,_,_,hp2.at (sub.trans g14 s31) rfl,newC_i h fun k64 w32 h=>stR_i h rfl (by simp [oneC]) fun w33 h=>br_intro (fun h3=>?_) fun h3=>?_⟩
  rotate_left
  · have h3:¬0 < j:=by have:=of_decide_eq_false h3; omega
    exact ⟨⟨by omega,by omega⟩,⟨j + 1,ps,by simp,h1,fun s=>by rw [byR_succ hp1,if_neg (fun h=>h3 h.2),List.append_nil]; exact hps s,h.pick 8 [1,2,3,4,5,6,7]⟩,msr h1⟩
  have h3:0 < j:=by have:=of_decide_eq_true h3; omega
  intro w34 hd
  have h:=h.eq (drawn_hp hd)
  have cm:∀ {u:World} {L' : List Asn},St u (cel km C :: L')→u.cell? ((aM km).add 12) = some (.map (some kp)):=fun h=>(rdCel 0 h.l).cell (sub.refl _) (j:=12) c12
  have cp:∀ {u:World} {L' : List Asn},St u (cel k64 [.int .i64 p.left,.slice ra rl rc,.int .i64 p.level] :: L')→u.cell? (aM k64) = some (.int .i64 p.left):=fun h=>(rdCel 0 h.l).cell0 (sub.refl _)
  refine ⟨fun u=>u.cell? ((aM km).add 12) = some (.map (some kp))∧u.cell? (aM k64) = some (.int .i64 p.left),⟨cm (h.pick 2 [1]),cp h⟩,_,fun u hu=>hu.1,_,fun u hu=>hu.2,_,fun u hu=>hu.1,_,fun u hu=>hu.2,?_,?_⟩
  · refine (map_lookup (κ:=Int) tyOk (rfl:kdOfT Ty _ = .map _ _) und_int rfl rfl (h.pick 3 [2]) p.left).mono ?_
    rintro _ _ ⟨rfl,rfl⟩
    obtain ⟨q,M,e1,e2,hq,back⟩:=mS_take rfl (h.pick 4 [3,0,1,2]) p.left
    have hql:q.2.length≤j:=by rw [e2,hps,List.length_map]; exact byR_len _ _ _
    refine ⟨_,_,_,e1,⟨cm (hq.pick 4 [3]),cp (hq.pick 3 [2])⟩,newC_i hq fun k19 w13 h=>⟨⟨cm (h.pick 5 [4]),cp (h.pick 4 [3])⟩,?_⟩⟩
    refine (app_one (us:=iv q.2) tyOk (rfl:kdOfT Ty _ = .slice _) (rfl:kdOfT Ty _ = .slice _) rfl rfl rfl h rfl (by simp [oneC]) (by show (q.2.length + 1) * 8≤_; omega) (by omega)).mono ?_
    rintro _ w14 ⟨o,c',rfl,h⟩
    refine ⟨_,_,_,rfl,⟨cm (h.pick 5 [4]),cp (h.pick 4 [3])⟩,(map_update (κ:=Int) tyOk (rfl:kdOfT Ty _ = .map _ _) und_int (h.pick 6 [5,0,2,4]) p.left _).mono ?_⟩
    rintro _ w15 h
    have h:=mS_put back (q.2 ++ [(j:Int)]) (by simp) (by simp [iv]) h
    exact ⟨⟨by omega,by omega⟩,⟨j + 1,_,by simp,h1,fun s=>by rw [getK_put,byR_succ hp1,e2,hps]; by_cases e:s = p.left <;> simp [e,hps,h3],h.pick 3 [2,0,1]⟩,msr h1⟩
  · refine newC_i h fun k22 w16 h=>⟨⟨cm (h.pick 3 [2]),cp (h.pick 2 [1])⟩,(map_lookup (κ:=Int) tyOk (rfl:kdOfT Ty _ = .map _ _) und_int rfl rfl (h.pick 4 [3]) p.left).mono ?_⟩
    rintro _ _ ⟨rfl,rfl⟩
    obtain ⟨q,M,e1,e2,hq,back⟩:=mS_take rfl (h.pick 5 [4,0,1,2,3]) p.left
    have hql:q.2.length≤j:=by rw [e2,hps,List.length_map]; exact byR_len _ _ _
    refine ⟨_,_,_,e1,⟨cm (hq.pick 5 [4]),cp (hq.pick 4 [3])⟩,?_⟩
    refine (app_one (us:=iv q.2) tyOk (rfl:kdOfT Ty _ = .slice _) (rfl:kdOfT Ty _ = .slice _) rfl rfl rfl (hq.pick 3 [2,0,1]) rfl (by simp [oneC]) (by show (q.2.length + 1) * 8≤_; omega) (by omega)).mono ?_
    rintro _ w14 ⟨o,c',rfl,h⟩
    refine ⟨_,_,_,rfl,⟨cm (h.pick 5 [4]),cp (h.pick 4 [3])⟩,(map_update (κ:=Int) tyOk (rfl:kdOfT Ty _ = .map _ _) und_int (h.pick 6 [5,0,2,4]) p.left _).mono ?_⟩
    rintro _ w15 h
    have h:=mS_put back (q.2 ++ [(j:Int)]) (by simp) (by simp [iv]) h
    exact ⟨⟨by omega,by omega⟩,⟨j + 1,_,by simp,h1,fun s=>by rw [getK_put,byR_succ hp1,e2,hps]; by_cases e:s = p.left <;> simp [e,hps,h3],h.pick 3 [2,0,1]⟩,msr h1⟩
end Go.Proofs.YtndaepmjkbmjmaaGreatDoor
set_option linter.unusedVariables false
set_option maxRecDepth 4000
namespace Go.V
def RowsS (n:Nat) (P:Nat→Int→Prop) (B k:Nat) (L:List Asn) (w:World):Prop:=∃ (o:Option Addr) (c:Nat) (es:List (Lq Int)),es.length = n∧(∀ i q,es[i]? = some q→(∀ z,z∈q.2↔P i z)∧q.2.length≤B)∧St w (cel k [.slice o n c] :: own 1 o n c (es.map slQ) :: sta (es.map (owQ 1 iv)) :: L)
theorem RowsS.iff {n B k:Nat} {P Q:Nat→Int→Prop} {L:List Asn} {w:World} (h:RowsS n P B k L w) (hpq:∀ i z,i < n→(P i z↔Q i z)):RowsS n Q B k L w:=by
  obtain ⟨o,c,es,h1,h2,h3⟩:=h
  refine ⟨o,c,es,h1,fun i q hq=>⟨fun z=>?_,(h2 i q hq).2⟩,h3⟩
  rw [(h2 i q hq).1 z,hpq i z (by rw [← h1]; exact (List.getElem?_eq_some_iff.1 hq).1)]
theorem RowsS.gr {n B k:Nat} {P:Nat→Int→Prop} {L:List Asn} {w w' : World} (h:RowsS n P B k L w) (g:Gr w w'):RowsS n P B k L w':=by
  obtain ⟨o,c,es,h1,h2,h3⟩:=h
  exact ⟨o,c,es,h1,h2,h3.gr g⟩
theorem RowsS.gw {n B k:Nat} {P:Nat→Int→Prop} {w0 w:World} (h:RowsS n P B k (all w0) w):Gr w0 w:=by
  obtain ⟨o,c,es,h1,h2,h3⟩:=h
  exact rdH 3 h3.l
def RiseS (n:Nat) (P:Nat→Int→Prop) (ds:List (Lq Int)):Prop:=ds.length = n∧∀ i q,ds[i]? = some q→Rise q.2∧∀ z,z∈q.2↔P i z
end Go.V
namespace Go.Proofs.YtndaepmjkbmjmaaGreatDoor
open Go.V
variable {w:World} {L:List Asn} {g:GramT} {x:GA}
theorem y_edge {n a B k:Nat} {b:Int} {P:Nat→Int→Prop} (h:RowsS n P B k L w) (ha:a < n) (hB:(B + 1) * 8≤140737488355328):Run Tryz.prog n_relate_world_laid_S1 [.int .i64 (a:Int),.int .i64 b,.pointer (some (aM k))] w fun v w'=>v = .tuple (Array.mk [])∧RowsS n (fun i z=>P i z∨i = a∧z = b) (B + 1) k L w':=by
  refine run_relate_world_laid_S1 _ _ _ w _ ?_
  intro w1 hd
  have h:=h.gr (Gr.drawn hd)
  obtain ⟨o,c,es,hes,hrow,h⟩:=h
  obtain ⟨q,hq⟩ : ∃ q,es[a]? = some q:=⟨_,List.getElem?_eq_getElem (by omega)⟩
  have hqB:=(hrow a q hq).2
  have hA:(es.map (owQ 1 iv))[a]? = some (owQ 1 iv q):=by rw [List.getElem?_map,hq]; rfl
  have hV:(es.map slQ)[a]? = some (slQ q):=by rw [List.getElem?_map,hq]; rfl
  have h:=St.out (h.pick 3 [2,0,1]) hA
  have h:St w1 (own 1 q.1.1 q.2.length q.1.2 (iv q.2) :: sta ((es.map (owQ 1 iv)).eraseIdx a) :: cel k [.slice o n c] :: own 1 o n c (es.map slQ) :: L):=h
  obtain ⟨ad,rfl,hco⟩:=own_cell (h.pick 4 [3]) hV
  refine ⟨fun u=>u.cell? (aM k) = some (.slice (some ad) n c)∧u.cell? (ad.add a) = some (slQ q),⟨(rdCel 2 h.l).cell0 (sub.refl _),hco⟩,_,_,_,fun u hu=>hu.1,_,_,_,fun u hu=>hu.1,idx_i rfl ha ⟨_,_,_,fun u hu=>hu.2,newC_i h fun k7 w5 h=>?_⟩⟩
  have cc:∀ {u:World} {L' : List Asn},St u (own 1 (some ad) n c (es.map slQ) :: L')→u.cell? (ad.add a) = some (slQ q):=fun h=>by
    obtain ⟨ad',e,hc⟩:=own_cell h hV
    cases e; exact hc
  refine ⟨⟨(rdCel 3 h.l).cell0 (sub.refl _),cc (h.pick 5 [4])⟩,?_⟩
  refine (app_one (us:=iv q.2) tyOk (rfl:kdOfT Ty _ = .slice _) (rfl:kdOfT Ty _ = .slice _) rfl rfl rfl h rfl (by simp [oneC]) (by show (q.2.length + 1) * 8≤_; omega) (by omega)).mono ?_
  rintro _ w6 ⟨o',c',rfl,h⟩
  refine ⟨_,_,_,rfl,⟨(rdCel 3 h.l).cell0 (sub.refl _),cc (h.pick 5 [4])⟩,idx_i rfl ha (own_st1 (h.pick 5 [4,0,2,3]) rfl (by rw [List.length_map]; omega) fun w7 h=>?_)⟩
  refine ⟨rfl,some ad,c,es.set a ((o',c'),q.2 ++ [b]),by rw [List.length_set]; exact hes,fun i r hr=>?_,?_⟩
  · by_cases e:a = i
    · subst e
      rw [List.getElem?_set_self (by omega)] at hr
      cases hr
      refine ⟨fun z=>?_,by simp; omega⟩
      show z∈q.2 ++ [b]↔_
      rw [List.mem_append,(hrow a q hq).1 z,List.mem_singleton]
      simp
    · rw [List.getElem?_set_ne e] at hr
      obtain ⟨r1,r2⟩:=hrow i r hr
      refine ⟨fun z=>?_,by omega⟩
      rw [r1 z]
      exact ⟨.inl,fun h=>h.resolve_right fun h=>e h.1.symm⟩
  · have e1:(.slice o' (q.2.length + 1) c' : Value) = slQ (((o',c'),q.2 ++ [b]):Lq Int):=by simp [slQ]
    have e2:own 1 o' (q.2.length + 1) c' (iv q.2 ++ [.int .i64 b]) = owQ 1 iv (((o',c'),q.2 ++ [b]):Lq Int):=by simp [owQ,iv]
    have h:St w7 (own 1 (some ad) n c ((es.map slQ).set a (.slice o' (q.2.length + 1) c')) :: own 1 o' (q.2.length + 1) c' (iv q.2 ++ [.int .i64 b]) :: sta ((es.map (owQ 1 iv)).eraseIdx a) :: cel k [.slice (some ad) n c] :: L):=h
    rw [e1,← List.map_set] at h
    have h:=St.back (B:=own 1 o' (q.2.length + 1) c' (iv q.2 ++ [.int .i64 b])) (h.pick 4 [1,2,0,3]) hA
    rw [e2,← List.map_set] at h
    exact h.pick 3 [2,1,0]
set_option maxHeartbeats 1000000 in
theorem y_laidE {n k:Nat} {ss:List SQ} {nn:List Bool} {fg:FuncId} {fc:List Value} {P:Nat→Int→Prop} (hw:WrR (hp w) g ss nn k) (hn:(TrL g ss).length = n) (hn2:n≤33280) (hF:Fn fg = true)
    (hE:∀ (k4:Nat) (w0:World),RowsS n (fun _ _=>False) 0 k4 (all w) w0→Run Tryz.prog fg (.func (.func n_relate_world_laid_S1) (Array.mk []) (Array.mk [.pointer (some (aM k4))]) :: fc) w0 fun v w'=>v = .tuple (Array.mk [])∧∃ B,B≤4611686018427387∧RowsS n P B k4 (all w) w') :
    Run Tryz.prog n_relate_world_laid [.pointer (some (aM k)),.func (.func fg) (Array.mk []) (Array.mk fc)] w fun v w'=>∃ (o:Option Addr) (c:Nat) (ds:List (Lq Int)),v = .slice o n c∧RiseS n P ds∧St w' (own 1 o n c (ds.map slQ) :: sta (ds.map (owQ 1 iv)) :: all w):=by
  obtain ⟨x,o,c,a,int,ol,cl,ka,kt,on,cn,kp,ma,mt,mp,rk,hg,hs,rT,_,_,_,_,_,_,_⟩:=hw.ex
  rw [hn] at rk
  refine run_relate_world_laid _ _ _ w _ ⟨_,_,_,rk.cell (sub.refl _) (j:=8) rfl,⟨by omega,rfl,by omega⟩,?_⟩
  rw [Int.toNat_natCast]
  have e0:reps n [(Value.slice none 0 0:Value)] = (List.replicate n (((none,0),[]):Lq Int)).map slQ:=by rw [reps_one]; simp [slQ]
  rw [e0]
  refine newC_i (St.all w) fun k3 w1 h=>newC_i h fun k4 w2 h=>st1_i h (by simp) fun w3 h=>ifT_iff.2 ⟨hF,?_⟩
  have h:St w3 (cel k4 [.slice (some (aM k3)) n n] :: cel k3 ((List.replicate n (((none,0),[]):Lq Int)).map slQ) :: all w):=h
  have h:St w3 (own 1 (some (aM k3)) n n ((List.replicate n (((none,0),[]):Lq Int)).map slQ) :: cel k4 [.slice (some (aM k3)) n n] :: all w):=own_some (cs:=[]) (show St w3 (cel k3 ((List.replicate n (((none,0),[]):Lq Int)).map slQ ++ []) :: cel k4 [.slice (some (aM k3)) n n] :: all w) by rw [List.append_nil]; exact h.pick 2 [1,0]) (by simp) (by simp) (Nat.le_refl _)
  have h:=sta_reps (A:=owQ 1 iv ((none,0),[])) (fun w L h=>own_nil 1 h) n h
  rw [← List.map_replicate] at h
  have hR0:RowsS n (fun _ _=>False) 0 k4 (all w) w3:=by
    refine ⟨_,_,List.replicate n (((none,0),[]):Lq Int),by simp,fun i q hq=>?_,h.pick 3 [2,1,0]⟩
    rw [List.getElem?_replicate] at hq
    split at hq
    · cases hq; simp
    · cases hq
  clear h
  refine (hE k4 w3 hR0).mono ?_
  rintro _ w4 ⟨rfl,B,hB,o4,c4,es,hes,hrow,h⟩
  refine ⟨rfl,_,_,_,(rdCel 0 h.l).cell0 (sub.refl _),fun z w'=>∃ (i:Nat) (es:List (Lq Int)),z = i∧i≤n∧es.length = n∧(∀ j q,es[j]? = some q→(∀ z,z∈q.2↔P j z)∧q.2.length≤B∧(j < i→Rise q.2))∧St w' (cel k4 [.slice o4 n c4] :: own 1 o4 n c4 (es.map slQ) :: sta (es.map (owQ 1 iv)) :: all w),fun z _=>n - z.toNat,
    ⟨0,es,rfl,Nat.zero_le _,hes,fun j q hq=>⟨(hrow j q hq).1,(hrow j q hq).2,fun h=>absurd h (by omega)⟩,h⟩,?_⟩
  clear h hrow hes
  rintro _ _ w5 ⟨i,es,rfl,hi,hes,hrow,h⟩
  refine br_intro (fun h1=>?_) fun h1=>?_
  rotate_left
  · have h1:i = n:=by have:=of_decide_eq_false h1; omega
    refine ⟨_,_,_,(rdCel 0 h.l).cell0 (sub.refl _),o4,c4,es,rfl,⟨hes,fun j q hq=>?_⟩,h.pick 3 [1,2]⟩
    obtain ⟨q1,q2,q3⟩:=hrow j q hq
    exact ⟨q3 (by have:=(List.getElem?_eq_some_iff.1 hq).1; omega),q1⟩
  have h1:i < n:=by have:=of_decide_eq_true h1; omega
  obtain ⟨q,hq⟩ : ∃ q,es[i]? = some q:=⟨_,List.getElem?_eq_getElem (by omega)⟩
  obtain ⟨hqP,hqB,_⟩:=hrow i q hq
  have hA:(es.map (owQ 1 iv))[i]? = some (owQ 1 iv q):=by rw [List.getElem?_map,hq]; rfl
  have hV:(es.map slQ)[i]? = some (slQ q):=by rw [List.getElem?_map,hq]; rfl
  have h:=St.out (h.pick 3 [2,0,1]) hA
  have h:St w5 (own 1 q.1.1 q.2.length q.1.2 (iv q.2) :: sta ((es.map (owQ 1 iv)).eraseIdx i) :: cel k4 [.slice o4 n c4] :: own 1 o4 n c4 (es.map slQ) :: all w):=h
  obtain ⟨ad,rfl,hco⟩:=own_cell (h.pick 4 [3]) hV
  have cc:∀ {u:World} {L' : List Asn},St u (own 1 (some ad) n c4 (es.map slQ) :: L')→u.cell? (ad.add i) = some (slQ q):=fun h=>by
    obtain ⟨ad',e,hc⟩:=own_cell h hV
    cases e; exact hc
  refine ⟨_,_,_,(rdCel 2 h.l).cell0 (sub.refl _),idx_i rfl h1 ⟨_,_,_,hco,(y_sortI h (by omega)).mono ?_⟩⟩
  rintro _ w6 ⟨rfl,h⟩
  refine ⟨rfl,?_⟩
  intro w7 hd
  have h:=h.eq (drawn_hp hd)
  generalize hso:(q.2.mergeSort fun x y=>decide (x≤y)) = so at h
  have hsm:∀ z,z∈so↔z∈q.2:=fun z=>by rw [← hso]; exact List.mem_mergeSort
  have hsr:so.Pairwise (·≤·):=by
    have:=List.pairwise_mergeSort (le:=fun x y:Int=>decide (x≤y)) (fun a b c h1 h2=>by simp at *; omega) (fun a b=>by simp; omega) q.2
    rw [hso] at this
    exact this.imp fun h=>of_decide_eq_true h
  have hsl:so.length = q.2.length:=by rw [← hso]; exact List.length_mergeSort _
  refine ⟨fun u=>u.cell? (aM k4) = some (.slice (some ad) n c4)∧u.cell? (ad.add i) = some (slQ q),⟨(rdCel 2 h.l).cell0 (sub.refl _),cc (h.pick 4 [3])⟩,_,_,_,fun u hu=>hu.1,_,_,_,fun u hu=>hu.1,idx_i rfl h1 ⟨_,_,_,fun u hu=>hu.2,(y_compactI h (by omega)).mono ?_⟩⟩
  rintro _ w11 ⟨a',c',rfl,h⟩
  refine ⟨_,_,_,rfl,⟨(rdCel 2 h.l).cell0 (sub.refl _),cc (h.pick 4 [3])⟩,run_slices_Clip_int_int_ _ _ _ w11 _ (slc_clip (own_le h) ?_)⟩
  have h:=own_clip h
  refine ⟨_,_,_,rfl,⟨(rdCel 2 h.l).cell0 (sub.refl _),cc (h.pick 4 [3])⟩,idx_i rfl h1 (own_st1 (h.pick 4 [3,0,1,2]) rfl (by rw [List.length_map]; omega) fun w13 h=>?_)⟩
  have hdl:=dd_len so
  refine ⟨⟨by omega,by omega⟩,⟨i + 1,es.set i ((slP a' 0 (dd so).length 1,(dd so).length),dd so),by simp,h1,by rw [List.length_set]; exact hes,fun j r hr=>?_,?_⟩,msr h1⟩
  · by_cases e:i = j
    · subst e
      rw [List.getElem?_set_self (by omega)] at hr
      cases hr
      refine ⟨fun z=>?_,by show (dd so).length≤B; omega,fun _=>dd_rise hsr⟩
      show z∈dd so↔_
      rw [dd_mem,hsm,hqP z]
    · rw [List.getElem?_set_ne e] at hr
      obtain ⟨r1,r2,r3⟩:=hrow j r hr
      exact ⟨r1,r2,fun h=>r3 (by omega)⟩
  · have e1:(.slice (slP a' 0 (dd so).length 1) (dd so).length (dd so).length:Value) = slQ (((slP a' 0 (dd so).length 1,(dd so).length),dd so):Lq Int):=rfl
    have h:St w13 (own 1 (some ad) n c4 ((es.map slQ).set i (.slice (slP a' 0 (dd so).length 1) (dd so).length (dd so).length)) :: own 1 (slP a' 0 (dd so).length 1) (dd so).length (dd so).length (iv (dd so)) :: sta ((es.map (owQ 1 iv)).eraseIdx i) :: cel k4 [.slice (some ad) n c4] :: all w):=h
    rw [e1,← List.map_set] at h
    have h:=St.back (B:=own 1 (slP a' 0 (dd so).length 1) (dd so).length (dd so).length (iv (dd so))) (h.pick 4 [1,2,0,3]) hA
    rw [show own 1 (slP a' 0 (dd so).length 1) (dd so).length (dd so).length (iv (dd so)) = owQ 1 iv (((slP a' 0 (dd so).length 1,(dd so).length),dd so):Lq Int) from rfl,← List.map_set] at h
    exact h.pick 3 [2,1,0]
end Go.Proofs.YtndaepmjkbmjmaaGreatDoor
set_option linter.unusedVariables false
set_option maxRecDepth 4000
namespace Go.V
section
variable {g:GramT} {ss:List SQ} {nn:List Bool}
theorem vanB_ge {s:Int} (h:vanB g nn s = true):(g.T:Int)≤s:=by
  unfold vanB at h
  rw [Bool.and_eq_true] at h
  exact of_decide_eq_true h.1
def RdE (g:GramT) (nn:List Bool) (ss:List SQ) (j0:Nat) (es:List EdgeT) (z:Int):Prop:=∃ e∈es,vanB g nn e.sym = true∧numT g ss ⟨(j0:Int),e.sym⟩ = z + 1
theorem RdE.snoc {j0:Nat} {es:List EdgeT} {e:EdgeT} {z:Int}:RdE g nn ss j0 (es ++ [e]) z↔RdE g nn ss j0 es z∨(vanB g nn e.sym = true∧numT g ss ⟨(j0:Int),e.sym⟩ = z + 1):=by
  unfold RdE
  constructor
  · rintro ⟨e',he',h⟩
    rw [List.mem_append,List.mem_singleton] at he'
    rcases he' with he' | rfl
    · exact .inl ⟨e',he',h⟩
    · exact .inr h
  · rintro (⟨e',he',h⟩ | h)
    · exact ⟨e',by simp [he'],h⟩
    · exact ⟨e,by simp,h⟩
theorem RdE.all (hc:ClosedP g) (hA:AutI g ss) {i j0:Nat} {t:TransT} {r:SQ} (ht:(TrL g ss)[i]? = some t) (hnx:nxt ss t.st.toNat t.sym = some (j0:Int)) (hr:ss[j0]? = some r) (z:Int):RdE g nn ss j0 r.2.2 z↔z∈rowF (TrL g ss).length (readB g nn ss i):=by
  rw [rowF_mem]
  constructor
  · rintro ⟨e,he,h1,h2⟩
    have hpos:0 < numT g ss ⟨(j0:Int),e.sym⟩:=by
      obtain ⟨k,hk⟩:=List.getElem?_of_mem he
      have:=TrL_at hr hk (vanB_ge h1)
      rw [numT_at hA this]; omega
    obtain ⟨u,hu,hu2⟩:=numT_pos hA hpos
    refine ⟨u,by omega,(List.getElem?_eq_some_iff.1 hu2).1,?_⟩
    unfold readB
    rw [ht,hu2]
    simp [hnx,h1]
  · rintro ⟨u,rfl,hu,h⟩
    unfold readB at h
    rw [ht,List.getElem?_eq_getElem hu] at h
    simp only [Bool.and_eq_true,decide_eq_true_eq] at h
    obtain ⟨h1,h2⟩:=h
    have hu2:(TrL g ss)[u]? = some (TrL g ss)[u]:=List.getElem?_eq_getElem hu
    obtain ⟨i',q',k',e',hi',hq',he',hge,hte⟩:=TrN_mem (List.mem_of_getElem? hu2)
    have e1:(i' : Int) = j0:=by
      rw [hnx] at h1
      have:=Option.some.inj h1
      rw [hte] at this
      exact this.symm
    have e1:i' = j0:=by omega
    subst e1
    rw [hr] at hq'; cases hq'
    refine ⟨e',List.mem_of_getElem? he',by rw [hte] at h2; exact h2,?_⟩
    rw [← hte,numT_at hA hu2]
end
end Go.V
namespace Go.Proofs.YtndaepmjkbmjmaaGreatDoor
open Go.V
variable {w:World} {L:List Asn} {g:GramT} {x:GA} {ss:List SQ} {nn:List Bool}
theorem toK_at {t:TransT} {j0:Nat} (h0:0≤t.st) (h:nxt ss t.st.toNat t.sym = some (j0:Int)):toK ss t = (j0:Int) + 1:=by
  unfold toK; rw [if_neg (by omega),h]
set_option maxHeartbeats 4000000 in
theorem y_ReadsS1 {n kw kc k1 k4:Nat} {w0:World} (hw:WrR (hp w) g ss nn kw) (hcl:ClosedP g) (hA:AutI g ss) (hnn:NnP g nn) (hkc:rowH (hp w) (aM kc) [.pointer (some (aM kw))]) (B:GB (hp w) k1 x) (hTl:g.T = x.tl) (hn:(TrL g ss).length = n) (hn2:n≤33280)
    (hR:RowsS n (fun _ _=>False) 0 k4 (all w) w0) :
    Run Tryz.prog n_relate_Reads_S1 [.func (.func n_relate_world_laid_S1) (Array.mk []) (Array.mk [.pointer (some (aM k4))]),.pointer (some (aM kc)),.pointer (some (aM k1))] w0 fun v w'=>v = .tuple (Array.mk [])∧∃ B,B≤4611686018427387∧RowsS n (fun i z=>z∈rowF n (readB g nn ss i)) B k4 (all w) w':=by
  obtain ⟨x',o,c,a,int,ol,cl,ka,kt,on,cn,kp,ma,mt,mp,rk,hg,hs,rT,hma,hN,hmt,hTo,rN,_,_⟩:=hw.ex
  rw [hn] at rk rT
  have hkl:=hA.klen hcl
  obtain ⟨sT,sN,sP,_,_,_⟩:=hcl.sizes
  have h256:=hA.dn.2.1
  have g0:Gr w w0:=hR.gw
  refine run_relate_Reads_S1 _ _ _ _ w0 _ ⟨_,hkc.cell0 g0,_,_,_,rk.cell g0 (j:=8) rfl,fun z w'=>∃ (i B:Nat),z = i∧i≤n∧B≤i * 130∧RowsS n (fun j z=>j < i∧z∈rowF n (readB g nn ss j)) B k4 (all w) w',fun z _=>n - z.toNat,
    ⟨0,0,rfl,Nat.zero_le _,Nat.zero_le _,hR.iff fun j z _=>⟨fun h=>h.elim,fun h=>absurd h.1 (by omega)⟩⟩,?_⟩
  clear hR
  rintro _ _ w1 ⟨i,B0,rfl,hi,hB0,hR⟩
  have g1:Gr w w1:=hR.gw
  refine br_intro (fun h1=>?_) fun h1=>?_
  rotate_left
  · have h1:i = n:=by have:=of_decide_eq_false h1; omega
    subst h1
    exact ⟨rfl,B0,by omega,hR.iff fun j z hj=>⟨fun h=>h.2,fun h=>⟨hj,h⟩⟩⟩
  have h1:i < n:=by have:=of_decide_eq_true h1; omega
  obtain ⟨t,tad,ht,hta,rt⟩:=rdTr_get rT h1
  obtain ⟨i0,q0,k0,e0,hi0,hq0,he0,hge,hte⟩:=TrN_mem (List.mem_of_getElem? ht)
  have hnx:nxt ss t.st.toNat t.sym = some e0.to:=by rw [hte]; exact nxt_edge hA hq0 he0
  obtain ⟨hto1,hto2⟩:=nxt_pos hcl hA hnx
  obtain ⟨j0,hj0⟩ : ∃ j0:Nat,e0.to = j0:=⟨e0.to.toNat,by omega⟩
  rw [hj0] at hnx hto2
  have hto:j0 < ss.length:=by omega
  obtain ⟨r,hr⟩ : ∃ r,ss[j0]? = some r:=⟨_,List.getElem?_eq_getElem hto⟩
  have hrl:=(hkl r (List.mem_of_getElem? hr)).2
  have hst0:0≤t.st:=by rw [hte]; exact Int.natCast_nonneg _
  have hk:toK ss t = (j0:Int) + 1:=toK_at hst0 hnx
  obtain ⟨o9,c9,es,hes,hrow,h⟩:=hR
  refine idx_n hta h1 ⟨_,_,rt.at g1 rfl,newC_i h fun k3 w2 h=>stR_i h rfl (by simp [oneC]) fun w3 h=>?_⟩
  intro w4 hd
  have h:=h.eq (drawn_hp hd)
  have g4:Gr w w4:=rdH 4 h.l
  have r3:rowH (hp w4) (aM k3) [.int .i64 t.st,.int .i64 t.sym]:=rdCel 0 h.l
  refine ⟨fun u=>Gr w4 u,Gr.refl _,_,fun u s=>hkc.cell0 (sub.trans g4 s),_,fun u s=>rk.cell (sub.trans g4 s) (j:=10) rfl,_,_,fun u s=>r3.at s rfl,(map_lookupHP (κ:=TransT) hmt g4 tyOk (rfl:kdOfT Ty _ = .map _ _) key_Trans rfl rfl t).mono ?_⟩
  rintro _ w8 ⟨rfl,e8⟩
  rw [e8,hTo.all,hk]
  obtain ⟨sad,eo,rs,_,re⟩:=hs j0 r hr
  have e9:((j0:Int) + 1) - 1 = (j0:Int):=by omega
  refine ⟨_,rfl,Gr.refl _,⟨by omega,by omega⟩,_,hkc.cell0 g4,_,_,_,rk.cell g4 (j:=5) rfl,?_⟩
  rw [e9]
  have hR:RowsS n (fun j z=>j < i∧z∈rowF n (readB g nn ss j)) B0 k4 (all w) w4:=⟨o9,c9,es,hes,hrow,h.pick 4 [1,2,3]⟩
  clear h hrow
  refine idx_n eo hto ⟨_,_,_,rs.cell g4 (j:=1) rfl,fun z w'=>∃ (k B1:Nat),z = k∧k≤r.2.2.length∧B1≤B0 + k∧RowsS n (fun j z=>j < i∧z∈rowF n (readB g nn ss j)∨j = i∧RdE g nn ss j0 (r.2.2.take k) z) B1 k4 (all w) w',fun z _=>r.2.2.length - z.toNat,
    ⟨0,B0,rfl,Nat.zero_le _,Nat.le_refl _,hR.iff fun j z _=>⟨.inl,fun h=>h.elim id fun h=>by obtain ⟨_,e,he,_⟩:=h; simp at he⟩⟩,?_⟩
  clear hR
  rintro _ _ w9 ⟨k,B1,rfl,hk2,hB1,hR⟩
  have g9:Gr w w9:=hR.gw
  refine br_intro (fun h2=>?_) fun h2=>?_
  rotate_left
  · have h2:k = r.2.2.length:=by have:=of_decide_eq_false h2; omega
    rw [h2,List.take_length] at hR
    refine ⟨⟨by omega,by omega⟩,⟨i + 1,B1,by simp,h1,by omega,hR.iff fun j z _=>?_⟩,msr h1⟩
    rw [RdE.all hcl hA ht hnx hr,hn]
    constructor
    · rintro (⟨h1,h2⟩ | ⟨rfl,h2⟩)
      · exact ⟨by omega,h2⟩
      · exact ⟨by omega,h2⟩
    · rintro ⟨h1,h2⟩
      by_cases e:j = i
      · exact .inr ⟨e,by rw [e] at h2; exact h2⟩
      · exact .inl ⟨by omega,h2⟩
  have h2:k < r.2.2.length:=by have:=of_decide_eq_true h2; omega
  obtain ⟨e,ead,he,hea,red⟩:=rdEd_get re h2
  have htk:r.2.2.take (k + 1) = r.2.2.take k ++ [e]:=by rw [List.take_add_one,he]; rfl
  obtain ⟨hs1,hs2,_⟩:=aut_edge hcl hA hr he
  obtain ⟨o10,c10,es10,hes10,hrow10,h⟩:=hR
  refine idx_n hea h2 ⟨_,_,red.at g9 rfl,newC_i h fun k8 w10 h=>stR_i h rfl (by simp [oneC]) fun w11 h=>?_⟩
  intro w12 hd2
  have h:=h.eq (drawn_hp hd2)
  have g12:Gr w w12:=rdH 4 h.l
  have r8:rowH (hp w12) (aM k8) [.int .i64 e.sym,.int .i64 e.to]:=rdCel 0 h.l
  have hR:RowsS n (fun j z=>j < i∧z∈rowF n (readB g nn ss j)∨j = i∧RdE g nn ss j0 (r.2.2.take k) z) B1 k4 (all w) w12:=⟨o10,c10,es10,hes10,hrow10,h.pick 4 [1,2,3]⟩
  have skip:vanB g nn e.sym≠true→inI ((k:Int) + 1)∧(∃ (k' B1' : Nat),(k:Int) + 1 = k'∧k'≤r.2.2.length∧B1'≤B0 + k'∧RowsS n (fun j z=>j < i∧z∈rowF n (readB g nn ss j)∨j = i∧RdE g nn ss j0 (r.2.2.take k') z) B1' k4 (all w) w12)∧r.2.2.length - ((k:Int) + 1).toNat < r.2.2.length - (k:Int).toNat:=fun hv=>by
    refine ⟨⟨by omega,by omega⟩,⟨k + 1,B1,by simp,h2,by omega,hR.iff fun j z _=>?_⟩,msr h2⟩
    rw [htk,RdE.snoc]
    simp [hv]
  refine ⟨fun u=>Gr w12 u,Gr.refl _,_,fun u s=>r8.cell0 s,_,_,_,fun u s=>B.c0 (sub.trans g12 s),br_intro (fun h3=>?_) fun h3=>skip fun hv=>?_⟩
  rotate_left
  · have:=vanB_ge hv
    have:=of_decide_eq_false h3
    omega
  have h3:(g.T:Int)≤e.sym:=by rw [hTl]; exact of_decide_eq_true h3
  obtain ⟨m,hm⟩ : ∃ m:Nat,e.sym - (x.tl:Int) = m:=⟨(e.sym - (x.tl:Int)).toNat,by omega⟩
  have hmN:m < g.N:=by omega
  have hvan:vanB g nn e.sym = fnB nn m:=by
    unfold vanB
    rw [decide_eq_true h3,Bool.true_and,show e.sym.toNat - g.T = m by omega]
  obtain ⟨bb,hbb⟩ : ∃ bb,nn[m]? = some bb:=⟨_,List.getElem?_eq_getElem (by rw [hnn.1]; exact hmN)⟩
  have hfn:fnB nn m = bb:=by unfold fnB; rw [List.getD_eq_getElem?_getD,hbb]; rfl
  obtain ⟨bb',bad,hb1,hba,hb2⟩:=rN.get1 hmN
  rw [hbb] at hb1; cases hb1
  refine ⟨_,fun u s=>hkc.cell0 (sub.trans g12 s),_,_,_,fun u s=>rk.cell (sub.trans g12 s) (j:=11) rfl,_,fun u s=>r8.cell0 s,_,_,_,fun u s=>B.c0 (sub.trans g12 s),⟨by omega,by omega⟩,?_⟩
  rw [hm]
  refine idx_i hba hmN ⟨bb,fun u s=>hb2 _ (sub.trans g12 s),br_intro (fun h4=>?_) fun h4=>skip (by rw [hvan,hfn,h4]; simp)⟩
  subst h4
  have hat:=TrL_at hr he h3
  obtain ⟨u0,hu0,hu1⟩:=numT_pos hA (t:=⟨(j0:Int),e.sym⟩) (by rw [numT_at hA hat]; omega)
  have hul:u0 < n:=by rw [← hn]; exact (List.getElem?_eq_some_iff.1 hu1).1
  intro w20 hd3
  have h:=h.eq (drawn_hp hd3)
  have g20:Gr w w20:=rdH 4 h.l
  have r8:rowH (hp w20) (aM k8) [.int .i64 e.sym,.int .i64 e.to]:=rdCel 0 h.l
  have hR:=hR.gr (Gr.drawn hd3)
  refine ⟨fun u=>Gr w20 u,Gr.refl _,_,fun u s=>hkc.cell0 (sub.trans g20 s),_,fun u s=>rk.cell (sub.trans g20 s) (j:=9) rfl,_,fun u s=>r8.cell0 s,(map_lookupHP (κ:=TransT) hma g20 tyOk (rfl:kdOfT Ty _ = .map _ _) key_Trans rfl rfl ⟨(j0:Int),e.sym⟩).mono ?_⟩
  rintro _ w24 ⟨rfl,e24⟩
  rw [e24,hN.all,hu0]
  have e25:((u0:Int) + 1) - 1 = (u0:Int):=by omega
  refine ⟨_,rfl,Gr.refl _,⟨by omega,by omega⟩,ifT_iff.2 ⟨rfl,?_⟩⟩
  rw [e25]
  refine (y_edge (a:=i) hR h1 (by omega)).mono ?_
  rintro _ w25 ⟨rfl,hR⟩
  refine ⟨rfl,⟨by omega,by omega⟩,⟨k + 1,B1 + 1,by simp,h2,by omega,hR.iff fun j z _=>?_⟩,msr h2⟩
  rw [htk,RdE.snoc,hu0]
  constructor
  · rintro ((h | h) | ⟨rfl,rfl⟩)
    · exact .inl h
    · exact .inr ⟨h.1,.inl h.2⟩
    · exact .inr ⟨rfl,.inr ⟨by rw [hvan,hfn],rfl⟩⟩
  · rintro (h | ⟨rfl,h | h⟩)
    · exact .inl (.inl h)
    · exact .inl (.inr ⟨rfl,h⟩)
    · exact .inr ⟨rfl,by omega⟩
end Go.Proofs.YtndaepmjkbmjmaaGreatDoor
set_option linter.unusedVariables false
set_option maxRecDepth 4000
namespace Go.V
theorem RiseS.list {n:Nat} {f:Nat→Nat→Bool} {ds:List (Lq Int)} (h:RiseS n (fun i z=>z∈rowF n (f i)) ds):ds.map (·.2) = (List.range n).map fun i=>rowF n (f i):=by
  obtain ⟨h1,h2⟩:=h
  apply List.ext_getElem?
  intro i
  rw [List.getElem?_map,List.getElem?_map]
  by_cases hi:i < n
  · have hd:ds[i]? = some ds[i]:=List.getElem?_eq_getElem (by omega)
    rw [hd,List.getElem?_range hi]
    obtain ⟨r1,r2⟩:=h2 i _ hd
    exact congrArg some (rise_eq r1 (rowF_rise n (f i)) r2)
  · rw [List.getElem?_eq_none (by omega),List.getElem?_eq_none (by simp; omega)]; rfl
theorem RowsS.has {n B k:Nat} {P:Nat→Int→Prop} {h0 h1:Hp} {w:World} (h:RowsS n P B k [V.has h1] w) (s:sub h0 h1):RowsS n P B k [V.has h0] w:=by
  obtain ⟨o,c,es,h2,h3,h4⟩:=h
  exact ⟨o,c,es,h2,h3,starL_under (L:=[_,_,_]) (M:=[V.has h1]) (N:=[V.has h0]) (fun h hs=>has_i (sub.trans s (starL_has hs))) h4⟩
theorem RowsS.frz {n B k:Nat} {P:Nat→Int→Prop} {L:List Asn} {w:World} (h:RowsS n P B k L w):∃ h0,starL L h0∧sub h0 (hp w)∧RowsS n P B k [V.has h0] w:=by
  obtain ⟨o,c,es,q1,q2,h1,h2,d1,s1,s2,ha,h3,h4,d2,s3,s4,hb,h5,h6,d3,s5,s6,hc,hl⟩:=h
  exact ⟨h6,hl,s6.trans (s4.trans s2),o,c,es,q1,q2,h1,h2,d1,s1,s2,ha,h3,h4,d2,s3,s4,hb,h5,h6,d3,s5,s6,hc,has_i (sub.refl _)⟩
theorem RowsS.sb {n B k:Nat} {P:Nat→Int→Prop} {h0:Hp} {w:World} (h:RowsS n P B k [V.has h0] w):sub h0 (hp w):=by
  obtain ⟨o,c,es,h1,h2,h3⟩:=h
  exact rdH 3 h3.l
section
variable {g:GramT} {ss:List SQ}
theorem right_len (hc:ClosedP g) (hA:AutI g ss) {i m:Nat} {q:SQ} {p:ProdT} (hq:ss[i]? = some q) (hp:g.prods[m]? = some p) (hy:ClM g q.1.2 ⟨(m:Int),0⟩):p.right.length≤256:=by
  obtain ⟨j,r,_,e2,e3⟩:=walk_right hc hA hp p.right.length 0 (by omega) i q hq (by simpa using hy)
  obtain ⟨_,_,_,hP2,_,_⟩:=hc.sizes
  have hd:=(bst_inv (g:=g) (by omega) j).dots j _ (aut_at hA e2).1
  have hj:=(List.getElem?_eq_some_iff.1 e2).1
  have h256:=hA.dn.2.1
  have:=e3.dot (d:=j) hd (Int.natCast_nonneg _)
  simp at this
  omega
theorem tr_prods (hc:ClosedP g) (hA:AutI g ss) {i:Nat} {t:TransT} (ht:(TrL g ss)[i]? = some t) {m:Nat} {p:ProdT} (hp:g.prods[m]? = some p) (hl:p.left = t.sym):∃ (i0:Nat) (q:SQ),t.st = i0∧ss[i0]? = some q∧ClM g q.1.2 ⟨(m:Int),0⟩:=by
  obtain ⟨i0,q0,k0,e0,hi0,hq0,he0,hge,hte⟩:=TrN_mem (List.mem_of_getElem? ht)
  obtain ⟨_,_,j,r,_,_,hr,hrk,hne⟩:=aut_edge hc hA hq0 he0
  obtain ⟨x,hx⟩:=List.exists_mem_of_ne_nil _ hne
  obtain ⟨y,h1,h2,_⟩:=kern_mem.1 hx
  refine ⟨i0,q0,by rw [hte],hq0,.step h1 (by rw [h2]; omega) hp ?_⟩
  rw [hl,h2,hte]
theorem way_snoc (hc:ClosedP g) (hA:AutI g ss) {q:Int} {row:List Int} {k:Nat} {s:Int} (h0:0≤q) (h1:q < ss.length) (hs:row[k]? = some s):toK ss ⟨wayN ss q (row.take k),s⟩ - 1 = wayN ss q (row.take (k + 1)):=by
  have hn:∀ i s j,nxt ss i s = some j→0≤j∧j < ss.length:=fun i s j h=>nxt_pos hc hA h
  rw [take_succ_get hs,wayN_app hn _ _ _ h0 h1]
  unfold toK
  rcases wayN_rng hn (row.take k) q h0 h1 with e | ⟨e1,e2⟩
  · rw [e,if_pos (by show (-1:Int) < 0; omega),if_pos rfl]; rfl
  · rw [if_neg (by show ¬wayN ss q (row.take k) < 0; omega),if_neg (by omega),wayN_cons]
    show (match nxt ss (wayN ss q (row.take k)).toNat s with | some j=>j + 1 | none=>0) - 1 = _
    cases nxt ss (wayN ss q (row.take k)).toNat s with
    | none=>rfl
    | some j=>show j + 1 - 1 = j; omega
end
end Go.V
namespace Go.Proofs.YtndaepmjkbmjmaaGreatDoor
open Go.V
variable {w:World} {L:List Asn} {g:GramT} {x:GA} {ss:List SQ} {nn:List Bool}
theorem trl_le (hc:ClosedP g) (hA:AutI g ss):(TrL g ss).length≤33280:=by
  have hk:∀ q∈ss,q.2.2.length≤130:=fun q hq=>(hA.klen hc q hq).2
  have h1:=TrN_len (g:=g) hk ss.length
  have h2:=hA.dn.2.1
  show (TrN g ss ss.length).length≤_
  omega
theorem y_Reads (hg:gR (hp w) g x) (hb:okG g) (ht:tabA (hp w)):Run Tryz.prog n_relate_Reads [.agg ⟨x.cells⟩] w fun v w'=>∃ (ss:List SQ) (ask int f:Int) (nn:List Bool) (o:Option Addr) (c:Nat) (ds:List (Lq Int)),v = .tuple #[.slice o ds.length c,.int .i64 f]∧Res g ss ask int f∧(f = 0→NnP g nn)∧ds.map (·.2) = RdsL g nn ss∧St w' (own 1 o ds.length c (ds.map slQ) :: sta (ds.map (owQ 1 iv)) :: all w):=by
  refine run_relate_Reads _ _ _ _ _ _ _ _ _ _ _ _ _ w _ (gbox hg fun k1 w1 gw hg B=>?_)
  refine ⟨_,_,_,_,_,_,_,_,_,_,_,_,_,B.row (sub.refl _),(y_reof hg hb (rdV.mono gw ht)).mono ?_⟩
  rintro _ w2 ⟨ss,ask,int,f,p,rfl,hR,g2,h0,hn⟩
  refine ⟨_,_,rfl,newC_i (St.all w2) fun k10 w3 h=>st1_i h (by simp) fun w4 h=>?_⟩
  have g24:Gr w2 w4:=h.gone1
  have r10:rowH (hp w4) (aM k10) [.pointer p]:=rdCel 0 h.l
  clear h
  have g14:=g2.trans g24
  refine br_intro (fun h1=>?_) fun h1=>?_
  · have h1:f≠0:=by simpa using h1
    have hz:ss = []:=by rcases hR with ⟨_,e,_⟩ | ⟨_,_,e,_⟩ | ⟨_,_,_,_,e⟩ <;> first | exact e | exact absurd e h1
    subst hz
    exact ⟨[],ask,int,f,[],none,0,[],rfl,hR,fun h=>absurd h h1,rfl,own_nil 1 ((St.flat (M:=[])).2 (St.here (gw.trans g14)))⟩
  have h1:f = 0:=by simpa using h1
  subst h1
  obtain ⟨hc,hA⟩:=hR.aut rfl
  obtain ⟨k,nn,rfl,hnn,hw⟩:=h0 rfl
  have hw:=hw.mono g24
  have B4:GB (hp w4) k1 x:=⟨fun s=>B.c0 (sub.trans g14 s),fun s=>B.c1 (sub.trans g14 s),fun s=>B.c2 (sub.trans g14 s),fun s=>B.c3 (sub.trans g14 s),fun s=>B.c4 (sub.trans g14 s),fun s=>B.row (sub.trans g14 s)⟩
  have hnl:=trl_le hc hA
  refine ⟨_,r10.cell0 (sub.refl _),(y_laidE (P:=fun i z=>z∈rowF (TrL g ss).length (readB g nn ss i)) hw rfl hnl rfl fun k4 w0 hR0=>y_ReadsS1 hw hc hA hnn r10 B4 hg.t.1 rfl hnl hR0).mono ?_⟩
  rintro _ w5 ⟨o,c,ds,rfl,hds,h⟩
  have hdl:=hds.1
  refine ⟨_,_,_,rfl,ss,ask,int,0,nn,o,c,ds,by rw [hdl],hR,fun _=>hnn,hds.list,?_⟩
  rw [hdl]
  exact St.on2 h (has_i (gw.trans g14))
theorem y_vanS1 {kw k1:Nat} {s:Int} (hw:WrR (hp w) g ss nn kw) (hnn:NnP g nn) (hc:ClosedP g) (r1:rowH (hp w) (aM k1) [.pointer (some (aM kw))]) (hs0:0≤s) (hs1:s < g.T + g.N):Run Tryz.prog n_relate_world_vanishes_S1 [.int .i64 s,.pointer (some (aM k1))] w fun v w'=>v = .bool (!vanB g nn s)∧Gr w w':=by
  obtain ⟨x',o,c,a,int,ol,cl,ka,kt,on,cn,kp,ma,mt,mp,rk,hg,hs,rT,hma,hN,hmt,hTo,rN,_,_⟩:=hw.ex
  obtain ⟨sT,sN,sP,_,_,_⟩:=hc.sizes
  have hTl:g.T = x'.tl:=hg.t.1
  refine run_relate_world_vanishes_S1 _ _ w _ ?_
  intro w1 hd
  have g1:Gr w w1:=Gr.drawn hd
  refine ⟨fun u=>Gr w1 u,Gr.refl _,_,fun u s=>r1.cell0 (sub.trans g1 s),_,_,_,fun u s=>rk.cell0 (sub.trans g1 s),br_intro (fun h3=>⟨?_,g1⟩) fun h3=>?_⟩
  · have h3:¬(g.T:Int)≤s:=by have:=of_decide_eq_true h3; omega
    unfold vanB
    rw [decide_eq_false h3]; rfl
  have h3:(g.T:Int)≤s:=by have:=of_decide_eq_false h3; omega
  obtain ⟨m,hm⟩ : ∃ m:Nat,s - (x'.tl:Int) = m:=⟨(s - (x'.tl:Int)).toNat,by omega⟩
  have hmN:m < g.N:=by omega
  obtain ⟨bb,bad,hb1,hba,hb2⟩:=rN.get1 hmN
  refine ⟨_,fun u s=>r1.cell0 (sub.trans g1 s),_,_,_,fun u s=>rk.cell (sub.trans g1 s) (j:=11) rfl,_,fun u s=>r1.cell0 (sub.trans g1 s),_,_,_,fun u s=>rk.cell0 (sub.trans g1 s),⟨by omega,by omega⟩,?_⟩
  rw [hm]
  refine idx_i hba hmN ⟨bb,fun u s=>hb2 _ (sub.trans g1 s),?_,g1⟩
  unfold vanB
  rw [decide_eq_true h3,Bool.true_and,show s.toNat - g.T = m by omega]
  have hfn:fnB nn m = bb:=fnB_get hb1
  rw [hfn]
theorem y_vanishes {kw l c:Nat} {a:Option Addr} {row:List Int} (hw:WrR (hp w) g ss nn kw) (hnn:NnP g nn) (hc:ClosedP g) (hr:rdS (hp w) row a l) (hl:l≤4611686018427387904) (hrow:∀ s∈row,0≤s∧s < g.T + g.N):Run Tryz.prog n_relate_world_vanishes [.pointer (some (aM kw)),.slice a l c] w fun v w'=>v = .bool (vanR g nn row)∧Gr w w':=by
  refine run_relate_world_vanishes _ _ _ _ w _ (newC_i (St.all w) fun k1 w1 h=>?_)
  have g1:Gr w w1:=h.gone1
  have r1:rowH (hp w1) (aM k1) [.pointer (some (aM kw))]:=rdCel 0 h.l
  clear h
  have hr:=hr.mono g1
  have hw:=hw.mono g1
  refine run_slices_ContainsFunc_int_int_ _ _ _ _ _ w1 _ ?_
  have key:Run Tryz.prog n_slices_IndexFunc_int_int_ [.slice a l c,.func (.func n_relate_world_vanishes_S1) #[] #[.pointer (some (aM k1))]] w1 fun v w'=>(∃ n:Int,v = .int .i64 n∧(decide (0≤n) = !vanR g nn row))∧Gr w1 w':=by
    refine run_slices_IndexFunc_int_int_ _ _ _ _ _ w1 _ ?_
    refine ⟨fun n w'=>∃ j:Nat,n = j∧j≤l∧vanR g nn (row.take j) = true∧Gr w1 w',fun n _=>l - n.toNat,⟨0,rfl,by omega,rfl,Gr.refl _⟩,?_⟩
    rintro _ n w2 ⟨j,rfl,hj,ha,g2⟩
    refine br_intro (fun h1=>?_) fun h1=>?_
    · have h1:j < l:=by have:=of_decide_eq_true h1; omega
      obtain ⟨y,ad,hy1,hya,hy2⟩:=hr.get1 h1
      have hym:=List.mem_of_getElem? hy1
      refine idx_i hya h1 ⟨y,hy2 _ g2,ifT_iff.2 ⟨rfl,(y_vanS1 (hw.mono g2) hnn hc (r1.mono g2) (hrow y hym).1 (hrow y hym).2).mono ?_⟩⟩
      rintro _ w3 ⟨rfl,g3⟩
      refine ⟨_,rfl,br_intro (fun h2=>⟨⟨_,rfl,?_⟩,g2.trans g3⟩) fun h2=>⟨⟨by omega,by omega⟩,⟨j + 1,by simp,by omega,?_,g2.trans g3⟩,msr h1⟩⟩
      · have hv:vanB g nn y = false:=by simpa using h2
        have:vanR g nn row = false:=by
          unfold vanR
          refine Bool.eq_false_iff.2 fun h=>?_
          have:=List.all_eq_true.1 h y hym
          rw [hv] at this; cases this
        rw [this]; simp
      · unfold vanR at ha ⊢
        rw [take_succ_get hy1,List.all_append,ha]
        simpa using h2
    · have h1:j = l:=by have:=of_decide_eq_false h1; omega
      subst h1
      rw [List.take_of_length_le (by have:=hr.1; omega)] at ha
      exact ⟨⟨_,rfl,by rw [ha]; rfl⟩,g2⟩
  refine key.mono ?_
  rintro _ w2 ⟨⟨n,rfl,hn⟩,g2⟩
  refine ⟨n,rfl,_,rfl,?_,g1.trans g2⟩
  rw [hn,Bool.not_not]
theorem y_along {J:Nat→World→Prop} {H:Hp} {kw l c:Nat} {a:Option Addr} {row:List Int} {q:Int} {fg:FuncId} {fc:List Value} (hw:WrR H g ss nn kw) (hc:ClosedP g) (hA:AutI g ss) (hr:rdS H row a l) (hl:l≤4611686018427387904) (h0:0≤q) (h1:q < ss.length) (hF:Fn fg = true)
    (hJ0:J 0 w) (hJs:∀ k u,J k u→sub H (hp u)) (hst:∀ (k:Nat) (u:World) (s:Int),row[k]? = some s→J k u→Run Tryz.prog fg (.int .i64 (wayN ss q (row.take k)) :: .int .i64 (k:Int) :: fc) u fun v u'=>v = .tuple (Array.mk [])∧J (k + 1) u') :
    Run Tryz.prog n_relate_world_along [.pointer (some (aM kw)),.int .i64 q,.slice a l c,.func (.func fg) (Array.mk []) (Array.mk fc)] w fun v w'=>v = .int .i64 (wayN ss q row)∧J l w':=by
  obtain ⟨x',o,c',a',int,ol,cl,ka,kt,on,cn,kp,ma,mt,mp,rk,hg,hs,rT,hma,hN,hmt,hTo,rN,_,_⟩:=hw.ex
  have hrl:=hr.1
  have h256:=hA.dn.2.1
  have hn:∀ i s j,nxt ss i s = some j→0≤j∧j < ss.length:=fun i s j h=>nxt_pos hc hA h
  refine run_relate_world_along _ _ _ _ _ _ _ w _ ⟨fun st z w'=>∃ k:Nat,z = k∧k≤l∧st = wayN ss q (row.take k)∧J k w',fun _ z _=>l - z.toNat,⟨0,rfl,Nat.zero_le _,rfl,hJ0⟩,?_⟩
  rintro _ _ _ w1 ⟨k,rfl,hk,rfl,hJ⟩
  refine br_intro (fun h2=>?_) fun h2=>?_
  rotate_left
  · have h2:k = l:=by have:=of_decide_eq_false h2; omega
    subst h2
    exact ⟨by rw [List.take_of_length_le (by omega)],hJ⟩
  have h2:k < l:=by have:=of_decide_eq_true h2; omega
  have s1:=hJs _ _ hJ
  obtain ⟨y,ad,hy1,hya,hy2⟩:=hr.get1 h2
  refine idx_i hya h2 ⟨y,hy2 _ s1,ifT_iff.2 ⟨hF,(hst k w1 y hy1 hJ).mono ?_⟩⟩
  rintro _ w2 ⟨rfl,hJ⟩
  have s2:=hJs _ _ hJ
  refine ⟨rfl,_,rk.cell s2 (j:=10) rfl,(map_lookupHP (κ:=TransT) hmt s2 tyOk (rfl:kdOfT Ty _ = .map _ _) key_Trans rfl rfl ⟨wayN ss q (row.take k),y⟩).mono ?_⟩
  rintro _ w3 ⟨rfl,rfl⟩
  rw [hTo.all]
  have e:=way_snoc hc hA h0 h1 hy1
  have hw2:=wayN_rng hn (row.take (k + 1)) q h0 h1
  refine ⟨_,rfl,⟨by omega,by omega⟩,⟨by omega,by omega⟩,⟨k + 1,by simp,h2,e,hJ⟩,msr h2⟩
end Go.Proofs.YtndaepmjkbmjmaaGreatDoor
set_option linter.unusedVariables false
set_option maxRecDepth 4000
namespace Go.V
section
variable {g:GramT} {ss:List SQ} {nn:List Bool}
def IncP (g:GramT) (nn:List Bool) (ss:List SQ) (t:TransT) (p:ProdT) (k j:Nat):Prop:=∃ (k' : Nat) (s:Int),k' < k∧p.right[k']? = some s∧numT g ss ⟨wayN ss t.st (p.right.take k'),s⟩ = (j:Int) + 1∧vanR g nn (p.right.drop (k' + 1)) = true
def IncM (g:GramT) (nn:List Bool) (ss:List SQ) (t:TransT) (ms:List Nat) (j:Nat):Prop:=∃ m∈ms,∃ p,g.prods[m]? = some p∧IncP g nn ss t p p.right.length j
theorem IncP.succ {t:TransT} {p:ProdT} {k j:Nat} {s:Int} (hs:p.right[k]? = some s):IncP g nn ss t p (k + 1) j↔IncP g nn ss t p k j∨(numT g ss ⟨wayN ss t.st (p.right.take k),s⟩ = (j:Int) + 1∧vanR g nn (p.right.drop (k + 1)) = true):=by
  unfold IncP
  constructor
  · rintro ⟨k',s',h1,h2,h3⟩
    by_cases e:k' = k
    · subst e; rw [hs] at h2; cases h2; exact .inr h3
    · exact .inl ⟨k',s',by omega,h2,h3⟩
  · rintro (⟨k',s',h1,h2⟩ | h)
    · exact ⟨k',s',by omega,h2⟩
    · exact ⟨k,s,by omega,hs,h⟩
theorem IncM.snoc {t:TransT} {ms:List Nat} {m j:Nat} {p:ProdT} (hp:g.prods[m]? = some p):IncM g nn ss t (ms ++ [m]) j↔IncM g nn ss t ms j∨IncP g nn ss t p p.right.length j:=by
  unfold IncM
  constructor
  · rintro ⟨m',h1,p',h2,h3⟩
    rw [List.mem_append,List.mem_singleton] at h1
    rcases h1 with h1 | rfl
    · exact .inl ⟨m',h1,p',h2,h3⟩
    · rw [hp] at h2; cases h2; exact .inr h3
  · rintro (⟨m',h1,h⟩ | h)
    · exact ⟨m',by simp [h1],h⟩
    · exact ⟨m,by simp,p,hp,h⟩
theorem numT_iff (hA:AutI g ss) {t:TransT} {j:Nat}:numT g ss t = (j:Int) + 1↔(TrL g ss)[j]? = some t:=by
  constructor
  · intro h
    obtain ⟨u,hu,hu2⟩:=numT_pos hA (t:=t) (by omega)
    have:u = j:=by omega
    subst this; exact hu2
  · exact numT_at hA
theorem IncM.iff (hA:AutI g ss) {i j:Nat} {t:TransT} (ht:(TrL g ss)[i]? = some t):IncM g nn ss t (byR g g.prods.length t.sym) j↔incB g nn ss j i = true:=by
  unfold incB
  rw [ht]
  simp only [List.any_eq_true,List.mem_range,Bool.and_eq_true,decide_eq_true_eq]
  constructor
  · rintro ⟨m,hm,p,hp,k,s,hk,hs,hn,hv⟩
    obtain ⟨h0,p',hp',hl⟩:=byR_mem.1 hm
    rw [hp] at hp'; cases hp'
    refine ⟨m,(List.getElem?_eq_some_iff.1 hp).1,by omega,?_⟩
    rw [hp]
    simp only [Bool.and_eq_true,decide_eq_true_eq,List.any_eq_true,List.mem_range]
    refine ⟨hl,k,hk,?_,hv⟩
    rw [(numT_iff hA).1 hn,List.getD_eq_getElem?_getD,hs]; rfl
  · rintro ⟨m,hm,h0,h⟩
    cases hp:g.prods[m]? with
    | none=>rw [hp] at h; cases h
    | some p =>
      rw [hp] at h
      simp only [Bool.and_eq_true,decide_eq_true_eq,List.any_eq_true,List.mem_range] at h
      obtain ⟨hl,k,hk,hn,hv⟩:=h
      have hs:p.right[k]? = some p.right[k]:=List.getElem?_eq_getElem hk
      refine ⟨m,byR_mem.2 ⟨by omega,p,hp,hl⟩,p,hp,k,_,hk,hs,?_,hv⟩
      rw [numT_iff hA,hn,List.getD_eq_getElem?_getD,hs]; rfl
def IncI (g:GramT) (nn:List Bool) (ss:List SQ) (i:Nat) (j:Nat) (z:Int):Prop:=∃ (i' : Nat) (t:TransT),i' < i∧z = i'∧(TrL g ss)[i']? = some t∧IncM g nn ss t (byR g g.prods.length t.sym) j
theorem IncI.succ {i j:Nat} {z:Int} {t:TransT} (ht:(TrL g ss)[i]? = some t):IncI g nn ss (i + 1) j z↔IncI g nn ss i j z∨(z = i∧IncM g nn ss t (byR g g.prods.length t.sym) j):=by
  unfold IncI
  constructor
  · rintro ⟨i',t',h1,h2,h3,h4⟩
    by_cases e:i' = i
    · subst e; rw [ht] at h3; cases h3; exact .inr ⟨h2,h4⟩
    · exact .inl ⟨i',t',by omega,h2,h3,h4⟩
  · rintro (⟨i',t',h1,h2⟩ | ⟨h1,h2⟩)
    · exact ⟨i',t',by omega,h2⟩
    · exact ⟨i,t,by omega,h1,ht,h2⟩
theorem IncI.all (hA:AutI g ss) {j:Nat} {z:Int}:IncI g nn ss (TrL g ss).length j z↔z∈rowF (TrL g ss).length (incB g nn ss j):=by
  rw [rowF_mem]
  constructor
  · rintro ⟨i,t,h1,h2,h3,h4⟩
    exact ⟨i,h2,h1,(IncM.iff hA h3).1 h4⟩
  · rintro ⟨i,h2,h1,h4⟩
    have h3:(TrL g ss)[i]? = some (TrL g ss)[i]:=List.getElem?_eq_getElem h1
    exact ⟨i,_,h1,h2,h3,(IncM.iff hA h3).2 h4⟩
end
end Go.V
namespace Go.Proofs.YtndaepmjkbmjmaaGreatDoor
open Go.V
variable {w:World} {L:List Asn} {g:GramT} {x:GA} {ss:List SQ} {nn:List Bool}
set_option maxHeartbeats 1000000 in
theorem y_IncS11 {H:Hp} {n kw kc kr ke ki k4 i k rl rc B:Nat} {ra:Option Addr} {row:List Int} {st s:Int} {P:Nat→Int→Prop} (hw:WrR H g ss nn kw) (hnn:NnP g nn) (hc:ClosedP g) (hA:AutI g ss) (r1:rowH H (aM kc) [.pointer (some (aM kw))]) (r2:rowH H (aM kr) [.slice ra rl rc]) (r3:rowH H (aM ke) [.func (.func n_relate_world_laid_S1) (Array.mk []) (Array.mk [.pointer (some (aM k4))])]) (r4:rowH H (aM ki) [.int .i64 (i:Int)])
    (hr:rdS H row ra rl) (hlc:rl≤rc) (hl:rl≤4611686018427387904) (hrow:∀ s∈row,0≤s∧s < g.T + g.N) (hs:row[k]? = some s) (hn:(TrL g ss).length = n) (hn2:n≤33280) (hB:B≤4611686018427) (hR:RowsS n P B k4 [has H] w) :
    Run Tryz.prog n_relate_Includes_S1_S1 [.int .i64 st,.int .i64 (k:Int),.pointer (some (aM kc)),.pointer (some (aM kr)),.pointer (some (aM ke)),.pointer (some (aM ki))] w fun v w'=>v = .tuple (Array.mk [])∧∃ B',B'≤B + 1∧RowsS n (fun j z=>P j z∨z = i∧numT g ss ⟨st,s⟩ = (j:Int) + 1∧vanR g nn (row.drop (k + 1)) = true) B' k4 [has H] w':=by
  obtain ⟨x',o,c',a',int,ol,cl,ka,kt,on,cn,kp,ma,mt,mp,rk,hg,hss,rT,hma,hN,hmt,hTo,rN,_,_⟩:=hw.ex
  have hkl:k < rl:=by have:=hr.1; have:=(List.getElem?_eq_some_iff.1 hs).1; omega
  have s0:=hR.sb
  refine run_relate_Includes_S1_S1 _ _ _ _ _ _ w _ ?_
  intro w1 hd
  have hR:=hR.gr (Gr.drawn hd)
  have s1:=hR.sb
  obtain ⟨y,ad,hy1,hya,hy2⟩:=hr.get1 hkl
  rw [hs] at hy1; cases hy1
  refine ⟨fun u=>Gr w1 u,Gr.refl _,_,fun u g=>r1.cell0 (sub.trans s1 g),_,fun u g=>rk.cell (sub.trans s1 g) (j:=9) rfl,_,_,_,fun u g=>r2.cell0 (sub.trans s1 g),idx_i hya hkl ⟨s,fun u g=>hy2 _ (sub.trans s1 g),(map_lookupHP (κ:=TransT) hma s1 tyOk (rfl:kdOfT Ty _ = .map _ _) key_Trans rfl rfl ⟨st,s⟩).mono ?_⟩⟩
  rintro _ w6 ⟨rfl,e6⟩
  rw [hN.all]
  refine ⟨_,rfl,by rw [e6]; exact Gr.refl _,?_⟩
  intro w7 hd2
  have hR:=hR.gr (by rw [← e6]; exact Gr.drawn hd2:Gr w1 w7)
  have s7:=hR.sb
  refine ⟨fun u=>Gr w7 u,Gr.refl _,br_intro (fun h1=>?_) fun h1=>?_⟩
  rotate_left
  · refine ⟨rfl,B,by omega,hR.iff fun j z _=>⟨.inl,fun h=>h.elim id fun h=>?_⟩⟩
    have:=of_decide_eq_false h1
    omega
  have h1:=of_decide_eq_true h1
  obtain ⟨u0,hu0,hu1⟩:=numT_pos hA h1
  have hul:u0 < n:=by rw [← hn]; exact (List.getElem?_eq_some_iff.1 hu1).1
  have ek:(k:Int) + 1 = ((k + 1:Nat):Int):=by omega
  refine ⟨_,fun u g=>r1.cell0 (sub.trans s7 g),_,_,_,fun u g=>r2.cell0 (sub.trans s7 g),⟨by omega,by omega⟩,?_⟩
  rw [ek]
  refine slc_from (by omega) hlc ((y_vanishes (hw.mono s7) hnn hc ((hr.drop (k:=k + 1) (m:=rc) (by omega) hlc).mono s7) (by omega) fun s hs=>hrow s (List.mem_of_mem_drop hs)).mono ?_)
  rintro _ w10 ⟨rfl,g10⟩
  have hR:=hR.gr g10
  have s10:=hR.sb
  refine ⟨_,rfl,g10,br_intro (fun h2=>?_) fun h2=>?_⟩
  rotate_left
  · exact ⟨rfl,B,by omega,hR.iff fun j z _=>⟨.inl,fun h=>h.elim id fun h=>by rw [h.2.2] at h2; cases h2⟩⟩
  have eu:numT g ss ⟨st,s⟩ - 1 = (u0:Int):=by omega
  refine ⟨_,_,r3.cell0 s10,⟨by omega,by omega⟩,_,r4.cell0 s10,ifT_iff.2 ⟨rfl,?_⟩⟩
  rw [eu]
  refine (y_edge (a:=u0) hR hul (by omega)).mono ?_
  rintro _ w11 ⟨rfl,hR⟩
  refine ⟨rfl,rfl,B + 1,by omega,hR.iff fun j z _=>?_⟩
  constructor
  · rintro (h | ⟨rfl,rfl⟩)
    · exact .inl h
    · exact .inr ⟨rfl,hu0,h2⟩
  · rintro (h | ⟨rfl,h,_⟩)
    · exact .inl h
    · exact .inr ⟨by omega,rfl⟩
set_option maxHeartbeats 4000000 in
theorem y_IncS1 {n kw kc k1 k4:Nat} {w0:World} (hw:WrR (hp w) g ss nn kw) (hc:ClosedP g) (hA:AutI g ss) (hnn:NnP g nn) (hkc:rowH (hp w) (aM kc) [.pointer (some (aM kw))]) (B:GB (hp w) k1 x) (hgx:gR (hp w) g x) (hn:(TrL g ss).length = n) (hn2:n≤33280)
    (hR:RowsS n (fun _ _=>False) 0 k4 (all w) w0) :
    Run Tryz.prog n_relate_Includes_S1 [.func (.func n_relate_world_laid_S1) (Array.mk []) (Array.mk [.pointer (some (aM k4))]),.pointer (some (aM kc)),.pointer (some (aM k1))] w0 fun v w'=>v = .tuple (Array.mk [])∧∃ B,B≤4611686018427387∧RowsS n (fun j z=>z∈rowF n (incB g nn ss j)) B k4 (all w) w':=by
  obtain ⟨x',o,c,a,int,ol,cl,ka,kt,on,cn,kp,ma,mt,mp,rk,hg,hs,rT,hma,hN,hmt,hTo,rN,hmp,hby⟩:=hw.ex
  rw [hn] at rk rT
  have hkl:=hA.klen hc
  obtain ⟨sT,sN,sP,_,_,_⟩:=hc.sizes
  have h256:=hA.dn.2.1
  have pl:=hgx.p.1
  refine run_relate_Includes_S1 _ _ _ _ w0 _ ?_
  obtain ⟨oo,co,es,q1,q2,h⟩:=hR
  refine newC_i h fun ke w1 h=>?_
  have hR:RowsS n (fun _ _=>False) 0 k4 (cel ke [.func (.func n_relate_world_laid_S1) (Array.mk []) (Array.mk [.pointer (some (aM k4))])] :: all w) w1:=⟨oo,co,es,q1,q2,h.pick 4 [1,2,3,0]⟩
  clear h q1 q2
  obtain ⟨he,hel,_,hR⟩:=hR.frz
  have rE:rowH he (aM ke) [.func (.func n_relate_world_laid_S1) (Array.mk []) (Array.mk [.pointer (some (aM k4))])]:=rdCel 0 hel
  have swe:sub (hp w) he:=rdH 1 hel
  have s1:=sub.trans swe hR.sb
  refine ⟨_,hkc.cell0 s1,_,_,_,rk.cell s1 (j:=8) rfl,fun z w'=>∃ (i B:Nat),z = i∧i≤n∧B≤i * 30000∧RowsS n (IncI g nn ss i) B k4 [has he] w',fun z _=>n - z.toNat,
    ⟨0,0,rfl,Nat.zero_le _,Nat.zero_le _,hR.iff fun j z _=>⟨fun h=>h.elim,fun h=>by obtain ⟨_,_,h,_⟩:=h; omega⟩⟩,?_⟩
  clear hR s1
  rintro _ _ w2 ⟨i,B0,rfl,hi,hB0,hR⟩
  have s2:=sub.trans swe hR.sb
  refine br_intro (fun h1=>?_) fun h1=>?_
  rotate_left
  · have h1:i = n:=by have:=of_decide_eq_false h1; omega
    subst h1
    refine ⟨rfl,B0,by omega,(hR.has swe).iff fun j z _=>?_⟩
    rw [← hn]; exact IncI.all hA
  have h1:i < n:=by have:=of_decide_eq_true h1; omega
  obtain ⟨t,tad,ht,hta,rt⟩:=rdTr_get rT h1
  obtain ⟨i0,q0,k0,e0,hi0,hq0,he0,hge,hte⟩:=TrN_mem (List.mem_of_getElem? ht)
  have hst0:0≤t.st:=by rw [hte]; exact Int.natCast_nonneg _
  have hst1:t.st < ss.length:=by rw [hte]; show (i0:Int) < _; omega
  obtain ⟨oo,co,es,q1,q2,h⟩:=hR
  refine idx_n hta h1 ⟨_,_,rt.at s2 rfl,newC_i h fun ki w3 h=>newC_i h fun k5 w4 h=>st1_i (h.pick 2 [1,0]) (by simp) fun w5 h=>stR_i (h.pick 2 [1,0]) rfl (by simp [oneC]) fun w6 h=>?_⟩
  have h:St w6 (cel k5 [.int .i64 t.st,.int .i64 t.sym] :: cel ki [.int .i64 (i:Int)] :: cel k4 [.slice oo n co] :: own 1 oo n co (es.map slQ) :: sta (es.map (owQ 1 iv)) :: [has he]):=h
  have hR:RowsS n (IncI g nn ss i) B0 k4 (cel k5 [.int .i64 t.st,.int .i64 t.sym] :: cel ki [.int .i64 (i:Int)] :: [has he]) w6:=⟨oo,co,es,q1,q2,h.pick 5 [2,3,4,0,1]⟩
  clear h q1 q2
  intro w7 hd
  have hR:=hR.gr (Gr.drawn hd)
  obtain ⟨hi0,hil,_,hR⟩:=hR.frz
  have r5:rowH hi0 (aM k5) [.int .i64 t.st,.int .i64 t.sym]:=rdCel 0 hil
  have rI:rowH hi0 (aM ki) [.int .i64 (i:Int)]:=rdCel 1 hil
  have sei:sub he hi0:=rdH 2 hil
  have s7:=hR.sb
  have sw7:=sub.trans swe (sub.trans sei s7)
  refine ⟨fun u=>Gr w7 u,Gr.refl _,_,fun u g=>hkc.cell0 (sub.trans sw7 g),_,fun u g=>rk.cell (sub.trans sw7 g) (j:=12) rfl,_,fun u g=>r5.cell (sub.trans s7 g) (j:=1) rfl,(map_lookupHP (κ:=Int) hmp sw7 tyOk (rfl:kdOfT Ty _ = .map _ _) (KeyP.of_und und_int) rfl rfl t.sym).mono ?_⟩
  rintro _ w11 ⟨rfl,e11⟩
  obtain ⟨ba,bc,hb1,hb2⟩:=hby t.sym
  rw [hb1]
  generalize hbs:byR g g.prods.length t.sym = bys at *
  have hbl:bys.length≤97:=by rw [← hbs]; exact Nat.le_trans (byR_len _ _ _) sP
  refine ⟨_,_,_,rfl,by rw [e11]; exact Gr.refl _,fun z w'=>∃ (m B:Nat),z = m∧m≤bys.length∧B≤B0 + m * 300∧RowsS n (fun j z=>IncI g nn ss i j z∨z = i∧IncM g nn ss t (bys.take m) j) B k4 [has hi0] w',fun z _=>bys.length - z.toNat,
    ⟨0,B0,rfl,Nat.zero_le _,by omega,by rw [e11]; exact hR.iff fun j z _=>⟨.inl,fun h=>h.elim id fun h=>by obtain ⟨_,m,hm,_⟩:=h; simp at hm⟩⟩,?_⟩
  clear hR e11 hd s7 sw7
  rintro _ _ w12 ⟨m,B1,rfl,hm,hB1,hR⟩
  have s12:=hR.sb
  have sw12:=sub.trans swe (sub.trans sei s12)
  refine br_intro (fun h2=>?_) fun h2=>?_
  rotate_left
  · have h2:m = bys.length:=by have:=of_decide_eq_false h2; omega
    rw [h2,List.take_length] at hR
    refine ⟨⟨by omega,by omega⟩,⟨i + 1,B1,by simp,h1,by omega,(hR.has sei).iff fun j z _=>?_⟩,msr h1⟩
    rw [IncI.succ ht,hbs]
  have h2:m < bys.length:=by have:=of_decide_eq_true h2; omega
  obtain ⟨pm,hpm⟩ : ∃ pm,bys[m]? = some pm:=⟨_,List.getElem?_eq_getElem h2⟩
  obtain ⟨_,p,hp,hpl⟩:=byR_mem.1 (hbs ▸ List.mem_of_getElem? hpm)
  have hpml:pm < x.pl:=by have:=(List.getElem?_eq_some_iff.1 hp).1; omega
  have hpr:=List.mem_of_getElem? hp
  obtain ⟨i0',q',e1',hq',hcl'⟩:=tr_prods hc hA ht hp hpl
  have hrl:=right_len hc hA hq' hp hcl'
  obtain ⟨bv,bad,hbv,hba,hbc⟩:=hb2.get1 h2
  rw [List.getElem?_map,hpm] at hbv
  cases hbv
  obtain ⟨p',pad,pvs,hp1,hpa,hp2,ra,rl,rc,rfl,hrc,hp3⟩:=hgx.p.get hpml
  rw [hp] at hp1; cases hp1
  have rl1:=hp3.1
  refine idx_i hba h2 ⟨_,hbc _ sw12,_,_,_,B.c4 sw12,idx_n hpa hpml ⟨_,_,_,hp2.cell sw12 (j:=1) rfl,?_⟩⟩
  obtain ⟨oo,co,es,q1,q2,h⟩:=hR
  refine newC_i h fun kr w13 h=>st1_i h (by simp) fun w14 h=>?_
  have hR:RowsS n (fun j z=>IncI g nn ss i j z∨z = i∧IncM g nn ss t (bys.take m) j) B1 k4 (cel kr [.slice ra rl rc] :: [has hi0]) w14:=⟨oo,co,es,q1,q2,h.pick 4 [1,2,3,0]⟩
  clear h q1 q2
  obtain ⟨hm0,hml,_,hR⟩:=hR.frz
  have rR:rowH hm0 (aM kr) [.slice ra rl rc]:=rdCel 0 hml
  have sim:sub hi0 hm0:=rdH 1 hml
  have s14:=hR.sb
  have swm:=sub.trans swe (sub.trans sei sim)
  have sw14:=sub.trans swm s14
  have hrow:∀ s∈p.right,0≤s∧s < g.T + g.N:=fun s hs=>by have:=hc.sym hpr hs; omega
  refine ⟨_,hkc.cell0 sw14,_,r5.cell0 (sub.trans sim s14),_,_,_,rR.cell0 s14,(y_along (J:=fun k u=>∃ B',B'≤B1 + k∧RowsS n (fun j z=>(IncI g nn ss i j z∨z = i∧IncM g nn ss t (bys.take m) j)∨z = i∧IncP g nn ss t p k j) B' k4 [has hm0] u) (hw.mono swm) hc hA (hp3.mono swm) (by omega) hst0 hst1 rfl
    ⟨B1,by omega,hR.iff fun j z _=>⟨.inl,fun h=>h.elim id fun h=>by obtain ⟨_,_,_,h,_⟩:=h; omega⟩⟩ (fun k u ⟨_,_,h⟩=>h.sb) fun k u s hs ⟨B',hB',h⟩=>?_).mono ?_⟩
  · have hkl:k < p.right.length:=(List.getElem?_eq_some_iff.1 hs).1
    refine (y_IncS11 (hw.mono swm) hnn hc hA (hkc.mono swm) rR (rE.mono (sub.trans sei sim)) (rI.mono sim) (hp3.mono swm) hrc (by omega) hrow hs hn hn2 (by omega) h).mono ?_
    rintro _ u' ⟨rfl,B2,hB2,h⟩
    refine ⟨rfl,B2,by omega,h.iff fun j z _=>?_⟩
    rw [IncP.succ hs]
    constructor
    · rintro ((h | h) | h)
      · exact .inl h
      · exact .inr ⟨h.1,.inl h.2⟩
      · exact .inr ⟨h.1,.inr h.2⟩
    · rintro (h | ⟨h,h2 | h2⟩)
      · exact .inl (.inl h)
      · exact .inl (.inr ⟨h,h2⟩)
      · exact .inr ⟨h,h2⟩
  rintro _ w15 ⟨rfl,B',hB',hR⟩
  have htk:bys.take (m + 1) = bys.take m ++ [pm]:=by rw [List.take_add_one,hpm]; rfl
  refine ⟨_,rfl,⟨by omega,by omega⟩,⟨m + 1,B',by simp,h2,by omega,(hR.has sim).iff fun j z _=>?_⟩,msr h2⟩
  rw [htk,IncM.snoc hp,← rl1]
  constructor
  · rintro ((h | h) | h)
    · exact .inl h
    · exact .inr ⟨h.1,.inl h.2⟩
    · exact .inr ⟨h.1,.inr h.2⟩
  · rintro (h | ⟨h,h2 | h2⟩)
    · exact .inl (.inl h)
    · exact .inl (.inr ⟨h,h2⟩)
    · exact .inr ⟨h,h2⟩
end Go.Proofs.YtndaepmjkbmjmaaGreatDoor
set_option linter.unusedVariables false
set_option maxRecDepth 4000
namespace Go.V
section
variable {κ α : Type} [DecidableEq κ] {sz:Nat} {f:List α→List Value} {s t:κ}
theorem mO_out {q:Lq α}:∀ {ps:List (κ × Lq α)},(ps.map Prod.fst).Nodup→getQ s ps = some q→(mO sz f ps).Perm (owQ sz f q :: mO sz f (ps.filter fun e=>decide (e.1≠s)))
  | [],_,h=>by cases h
  | (a,u) :: m,hn,h=>by
    rw [List.map_cons,List.nodup_cons] at hn
    unfold getQ at h
    by_cases e:s = a
    · subst e
      rw [if_pos rfl] at h
      cases h
      have e2:((s,q) :: m).filter (fun e=>decide (e.1≠s)) = m:=by
        rw [List.filter_cons,if_neg (by simp)]
        refine List.filter_eq_self.2 fun x hx=>?_
        simp only [decide_eq_true_eq]
        exact fun h=>hn.1 (List.mem_map.2 ⟨x,hx,h⟩)
      rw [e2]; exact .refl _
    · rw [if_neg e] at h
      have e2:((a,u) :: m).filter (fun e=>decide (e.1≠s)) = (a,u) :: m.filter fun e=>decide (e.1≠s):=by
        rw [List.filter_cons,if_pos (by simpa using Ne.symm e)]
      rw [e2]
      exact (List.Perm.cons _ (mO_out hn.2 h)).trans (.swap _ _ _)
theorem getQ_filter (h:t≠s) (ps:List (κ × Lq α)):getQ t (ps.filter fun e=>decide (e.1≠s)) = getQ t ps:=by
  induction ps with
  | nil=>rfl
  | cons x m ih =>
    obtain ⟨a,u⟩:=x
    rw [List.filter_cons]
    by_cases e:a = s
    · subst e
      have e2:getQ t ((a,u) :: m) = getQ t m:=by show (if t = a then some u else getQ t m) = _; rw [if_neg h]
      rw [if_neg (by simp),ih,e2]
    · rw [if_pos (by simpa using e)]
      show (if t = a then some u else getQ t (m.filter fun e=>decide (e.1≠s))) = (if t = a then some u else getQ t m)
      rw [ih]
end
section
variable {g:GramT} {ss:List SQ}
theorem rowF_succ (i:Nat) (f:Nat→Bool):rowF (i + 1) f = rowF i f ++ if f i = true then [(i:Int)] else []:=by
  unfold rowF
  rw [List.range_succ,List.filter_append,List.map_append]
  congr 1
  by_cases h:f i = true <;> simp [h]
theorem backB_iff {q m i:Nat} {t:TransT} (ht:(TrL g ss)[i]? = some t):backB g ss q m i = true↔m∈byR g g.prods.length t.sym∧∃ p,g.prods[m]? = some p∧wayN ss t.st p.right = q:=by
  rw [byR_mem]
  unfold backB
  rw [ht]
  cases hp:g.prods[m]? with
  | none=>simp
  | some p =>
    simp only [Bool.and_eq_true,decide_eq_true_eq,Option.some.injEq]
    constructor
    · rintro ⟨⟨h1,h2⟩,h3⟩
      exact ⟨⟨by omega,p,rfl,h2⟩,p,rfl,h3⟩
    · rintro ⟨⟨h1,p',rfl,h2⟩,p'',rfl,h3⟩
      exact ⟨⟨by omega,h2⟩,h3⟩
def BkI (g:GramT) (ss:List SQ) (ps:List (TransT × Lq Int)) (i:Nat) (t:TransT) (ms:List Nat):Prop:=(ps.map Prod.fst).Nodup∧(∀ k,(getK k ps).length≤i + 1)∧∀ q m:Nat,getK ⟨(q:Int),(m:Int)⟩ ps = rowF i (backB g ss q m) ++ if m∈ms∧(∃ p,g.prods[m]? = some p∧wayN ss t.st p.right = q) then [(i:Int)] else []
abbrev BkQ:=(Int × Int) × Lq Int
def bkE (b:BkQ):List Value:=[.int .i64 b.1.1,.int .i64 b.1.2,slQ b.2]
def bkV (bs:List BkQ):List Value:=bs.flatMap bkE
def bkO (bs:List BkQ):List Asn:=bs.map fun b=>owQ 1 iv b.2
def toBk (b:BkQ):BackT:=⟨b.1.1,b.1.2,b.2.2⟩
theorem bkV_len (bs:List BkQ):(bkV bs).length = bs.length * 3:=fm_len (f:=bkE) (n:=3) (fun _=>rfl) bs
theorem bkV_app (xs ys:List BkQ):bkV (xs ++ ys) = bkV xs ++ bkV ys:=List.flatMap_append
theorem bkRow_len (g:GramT) (ss:List SQ) (q:Nat):∀ j,(bkRow g ss q j).length≤j
  | 0=>by simp [bkRow]
  | j + 1=>by
    have:=bkRow_len g ss q j
    rw [bkRow_succ,List.length_append]
    have h2:(bkAt g ss q j).length≤1:=by unfold bkAt; split <;> simp
    omega
def BksN (g:GramT) (ss:List SQ) (q:Nat):List BackT:=(List.range q).flatMap fun q=>bkRow g ss q g.prods.length
theorem BksN_succ (g:GramT) (ss:List SQ) (q:Nat):BksN g ss (q + 1) = BksN g ss q ++ bkRow g ss q g.prods.length:=by unfold BksN; rw [List.range_succ,List.flatMap_append]; simp
theorem BksN_len (g:GramT) (ss:List SQ):∀ q,(BksN g ss q).length≤q * g.prods.length
  | 0=>by simp [BksN]
  | q + 1=>by
    have:=BksN_len g ss q
    have:=bkRow_len g ss q g.prods.length
    rw [BksN_succ,List.length_append,Nat.succ_mul]
    omega
end
end Go.V
namespace Go.Proofs.YtndaepmjkbmjmaaGreatDoor
open Go.V
variable {w:World} {L:List Asn} {g:GramT} {x:GA} {ss:List SQ} {nn:List Bool}
theorem y_Includes (hg:gR (hp w) g x) (hb:okG g) (ht:tabA (hp w)):Run Tryz.prog n_relate_Includes [.agg ⟨x.cells⟩] w fun v w'=>∃ (ss:List SQ) (ask int f:Int) (nn:List Bool) (o:Option Addr) (c:Nat) (ds:List (Lq Int)),v = .tuple #[.slice o ds.length c,.int .i64 f]∧Res g ss ask int f∧(f = 0→NnP g nn)∧ds.map (·.2) = IncL g nn ss∧St w' (own 1 o ds.length c (ds.map slQ) :: sta (ds.map (owQ 1 iv)) :: all w):=by
  refine run_relate_Includes _ _ _ _ _ _ _ _ _ _ _ _ _ w _ (gbox hg fun k1 w1 gw hg B=>?_)
  refine ⟨_,_,_,_,_,_,_,_,_,_,_,_,_,B.row (sub.refl _),(y_reof hg hb (rdV.mono gw ht)).mono ?_⟩
  rintro _ w2 ⟨ss,ask,int,f,p,rfl,hR,g2,h0,hn⟩
  refine ⟨_,_,rfl,newC_i (St.all w2) fun k10 w3 h=>st1_i h (by simp) fun w4 h=>?_⟩
  have g24:Gr w2 w4:=h.gone1
  have r10:rowH (hp w4) (aM k10) [.pointer p]:=rdCel 0 h.l
  clear h
  have g14:=g2.trans g24
  refine br_intro (fun h1=>?_) fun h1=>?_
  · have h1:f≠0:=by simpa using h1
    have hz:ss = []:=by rcases hR with ⟨_,e,_⟩ | ⟨_,_,e,_⟩ | ⟨_,_,_,_,e⟩ <;> first | exact e | exact absurd e h1
    subst hz
    exact ⟨[],ask,int,f,[],none,0,[],rfl,hR,fun h=>absurd h h1,rfl,own_nil 1 ((St.flat (M:=[])).2 (St.here (gw.trans g14)))⟩
  have h1:f = 0:=by simpa using h1
  subst h1
  obtain ⟨hc,hA⟩:=hR.aut rfl
  obtain ⟨k,nn,rfl,hnn,hw⟩:=h0 rfl
  have hw:=hw.mono g24
  have B4:GB (hp w4) k1 x:=⟨fun s=>B.c0 (sub.trans g14 s),fun s=>B.c1 (sub.trans g14 s),fun s=>B.c2 (sub.trans g14 s),fun s=>B.c3 (sub.trans g14 s),fun s=>B.c4 (sub.trans g14 s),fun s=>B.row (sub.trans g14 s)⟩
  have hnl:=trl_le hc hA
  refine ⟨_,r10.cell0 (sub.refl _),(y_laidE (P:=fun i z=>z∈rowF (TrL g ss).length (incB g nn ss i)) hw rfl hnl rfl fun k4 w0 hR0=>y_IncS1 hw hc hA hnn r10 B4 (hg.mono g14) rfl hnl hR0).mono ?_⟩
  rintro _ w5 ⟨o,c,ds,rfl,hds,h⟩
  have hdl:=hds.1
  refine ⟨_,_,_,rfl,ss,ask,int,0,nn,o,c,ds,by rw [hdl],hR,fun _=>hnn,hds.list,?_⟩
  rw [hdl]
  exact St.on2 h (has_i (gw.trans g14))
set_option maxHeartbeats 4000000 in
theorem y_Lookback (hg:gR (hp w) g x) (hb:okG g) (htb:tabA (hp w)):Run Tryz.prog n_relate_Lookback [.agg ⟨x.cells⟩] w fun v w'=>∃ (ss:List SQ) (ask int f:Int) (o:Option Addr) (c:Nat) (ds:List BkQ),v = .tuple #[.slice o ds.length c,.int .i64 f]∧Res g ss ask int f∧ds.map toBk = BksL g ss∧St w' (own 3 o ds.length c (bkV ds) :: sta (bkO ds) :: all w):=by
  refine run_relate_Lookback _ _ _ _ _ _ _ _ _ _ _ _ _ w _ (gbox hg fun k1 w1 gw hg B=>?_)
  refine ⟨_,_,_,_,_,_,_,_,_,_,_,_,_,B.row (sub.refl _),(y_reof hg hb (rdV.mono gw htb)).mono ?_⟩
  rintro _ w2 ⟨ss,ask,int,f,p,rfl,hR,g12,h0,hn⟩
  refine ⟨_,_,rfl,br_intro (fun h1=>?_) fun h1=>?_⟩
  · have h1:f≠0:=by simpa using h1
    have hz:ss = []:=by rcases hR with ⟨_,e,_⟩ | ⟨_,_,e,_⟩ | ⟨_,_,_,_,e⟩ <;> first | exact e | exact absurd e h1
    subst hz
    exact ⟨[],ask,int,f,none,0,[],rfl,hR,rfl,own_nil 3 ((St.flat (M:=[])).2 (St.here (gw.trans g12)))⟩
  have h1:f = 0:=by simpa using h1
  subst h1
  obtain ⟨hc,hA⟩:=hR.aut rfl
  obtain ⟨kw,nn,rfl,hnn,hw⟩:=h0 rfl
  have hnl:=trl_le hc hA
  obtain ⟨x',o,c,a,int',ol,cl,ka,kt,on,cn,kp,ma,mt,mp,rk,hg',hs,rT,hma,hN,hmt,hTo,rN,hmp,hby⟩:=hw.ex
  have hkl:=hA.klen hc
  obtain ⟨sT,sN,sP,_,_,_⟩:=hc.sizes
  have h256:=hA.dn.2.1
  have pl:=hg.p.1
  have hgx:=hg.mono g12
  refine new_i (St.all w2) fun kb w3 h=>?_
  have h:=mapA_new (κ:=TransT) h
  have g23:Gr w2 w3:=rdH 1 h.l
  refine ⟨_,_,_,rk.cell g23 (j:=8) rfl,fun z w'=>∃ (i:Nat) (ps:List (TransT × Lq Int)),z = i∧i≤(TrL g ss).length∧BkI g ss ps i ⟨0,0⟩ []∧St w' (mapA kb (mV ps) :: sta (mO 1 iv ps) :: all w2),fun z _=>(TrL g ss).length - z.toNat,
    ⟨0,[],rfl,Nat.zero_le _,⟨by simp,fun k=>Nat.zero_le _,fun q m=>by simp [getK,getQ,rowF]⟩,?_⟩,?_⟩
  · exact ((St.flat (M:=[])).2 h).swap
  clear h
  rintro _ _ w4 ⟨i,ps,rfl,hi,hBk,h⟩
  have s4:sub (hp w2) (hp w4):=rdH 2 h.l
  refine br_intro (fun h1=>?_) fun h1=>?_
  · have h1:i < (TrL g ss).length:=by have:=of_decide_eq_true h1; omega
    obtain ⟨t,tad,ht,hta,rt⟩:=rdTr_get rT h1
    obtain ⟨i0,q0,k0,e0,hi0,hq0,he0,hge,hte⟩:=TrN_mem (List.mem_of_getElem? ht)
    have hst0:0≤t.st:=by rw [hte]; exact Int.natCast_nonneg _
    have hst1:t.st < ss.length:=by rw [hte]; show (i0:Int) < _; omega
    refine idx_n hta h1 ⟨_,_,rt.at s4 rfl,newC_i h fun k13 w5 h=>stR_i h rfl (by simp [oneC]) fun w6 h=>?_⟩
    intro w7 hd
    have h:=h.eq (drawn_hp hd)
    have s7:sub (hp w2) (hp w7):=rdH 3 h.l
    have r13:rowH (hp w7) (aM k13) [.int .i64 t.st,.int .i64 t.sym]:=rdCel 0 h.l
    refine ⟨fun u=>Gr w7 u,Gr.refl _,_,fun u g=>rk.cell (sub.trans s7 g) (j:=12) rfl,_,fun u g=>r13.cell g (j:=1) rfl,(map_lookupHP (κ:=Int) hmp s7 tyOk (rfl:kdOfT Ty _ = .map _ _) (KeyP.of_und und_int) rfl rfl t.sym).mono ?_⟩
    rintro _ w10 ⟨rfl,e10⟩
    obtain ⟨ba,bc,hb1,hb2⟩:=hby t.sym
    rw [hb1]
    have hnd:(byR g g.prods.length t.sym).Nodup:=by
      unfold byR byN
      exact (List.nodup_range.filter _).filter _
    have hiff:∀ m,m∈byR g g.prods.length t.sym↔0 < m∧∃ p,g.prods[m]? = some p∧p.left = t.sym:=fun m=>byR_mem
    have hbb:∀ q m:Nat,backB g ss q m i = true↔m∈byR g g.prods.length t.sym∧∃ p,g.prods[m]? = some p∧wayN ss t.st p.right = q:=fun q m=>backB_iff ht
    generalize hbs:byR g g.prods.length t.sym = bys at *
    have hbl:bys.length≤97:=by rw [← hbs]; exact Nat.le_trans (byR_len _ _ _) sP
    refine ⟨_,_,_,rfl,by rw [e10]; exact Gr.refl _,fun z w'=>∃ (M:Nat) (ps:List (TransT × Lq Int)),z = M∧M≤bys.length∧BkI g ss ps i t (bys.take M)∧St w' (mapA kb (mV ps) :: sta (mO 1 iv ps) :: cel k13 [.int .i64 t.st,.int .i64 t.sym] :: all w2),fun z _=>bys.length - z.toNat,
      ⟨0,ps,rfl,Nat.zero_le _,⟨hBk.1,hBk.2.1,fun q m=>by rw [hBk.2.2 q m]; simp⟩,by rw [e10]; exact h.pick 3 [1,2,0]⟩,?_⟩
    clear h hBk e10 hd r13 s7
    rintro _ _ w11 ⟨M,ps,rfl,hM,hBk,h⟩
    have s11:sub (hp w2) (hp w11):=rdH 3 h.l
    refine br_intro (fun h2=>?_) fun h2=>?_
    rotate_left
    · have h2:M = bys.length:=by have:=of_decide_eq_false h2; omega
      rw [h2,List.take_length] at hBk
      refine ⟨⟨by omega,by omega⟩,⟨i + 1,ps,by simp,h1,⟨hBk.1,fun k=>by have:=hBk.2.1 k; omega,fun q m=>?_⟩,h.pick 3 [0,1]⟩,msr h1⟩
      rw [hBk.2.2 q m,rowF_succ]
      by_cases e:backB g ss q m i = true
      · rw [if_pos e,if_pos ((hbb q m).1 e)]; simp
      · rw [if_neg e,if_neg (fun h=>e ((hbb q m).2 h))]; simp
    have h2:M < bys.length:=by have:=of_decide_eq_true h2; omega
    obtain ⟨pm,hpm⟩ : ∃ pm,bys[M]? = some pm:=⟨_,List.getElem?_eq_getElem h2⟩
    obtain ⟨_,p,hpq,hpl⟩:=(hiff pm).1 (List.mem_of_getElem? hpm)
    have hpml:pm < x.pl:=by have:=(List.getElem?_eq_some_iff.1 hpq).1; omega
    obtain ⟨i0',q',e1',hq',hcl'⟩:=tr_prods hc hA ht hpq hpl
    have hrl:=right_len hc hA hq' hpq hcl'
    obtain ⟨bv,bad,hbv,hba,hbc⟩:=hb2.get1 h2
    rw [List.getElem?_map,hpm] at hbv
    cases hbv
    obtain ⟨p',pad,pvs,hp1,hpa,hp2,ra,rl,rc,rfl,hrc,hp3⟩:=hgx.p.get hpml
    rw [hpq] at hp1; cases hp1
    have rl1:=hp3.1
    obtain ⟨jw,_,hjw,_,_⟩:=walk_right hc hA hpq p.right.length 0 (by omega) i0' q' hq' (by simpa using hcl')
    rw [List.drop_zero,← e1'] at hjw
    refine idx_i hba h2 ⟨_,hbc _ s11,?_⟩
    intro w12 hd
    have h:=h.eq (drawn_hp hd)
    have s12:sub (hp w2) (hp w12):=rdH 3 h.l
    have r13:rowH (hp w12) (aM k13) [.int .i64 t.st,.int .i64 t.sym]:=rdCel 2 h.l
    refine ⟨fun u=>Gr w12 u,Gr.refl _,_,fun u g=>r13.cell0 g,_,_,_,fun u g=>B.c4 (sub.trans g12 (sub.trans s12 g)),idx_n hpa hpml ⟨_,_,_,fun u g=>hp2.cell (sub.trans s12 g) (j:=1) rfl,(y_along (J:=fun k u=>hp u = hp w12) (H:=hp w2) hw hc hA hp3 (by omega) hst0 hst1 rfl rfl (fun k u e=>by rw [e]; exact s12) fun k u s hs e=>?_).mono ?_⟩⟩
    · exact run_relate_Lookback_S1 _ _ _ _ ⟨rfl,e⟩
    rintro _ w16 ⟨rfl,e16⟩
    have h:=h.eq e16
    refine ⟨_,rfl,Gr.of_eq e16,newC_i h fun k20 w17 h=>stR_i h rfl (by simp [oneC]) fun w18 h=>?_⟩
    refine ⟨_,_,(rdCel 0 h.l).at (sub.refl _) rfl,newC_i h fun k21 w19 h=>?_⟩
    refine (map_take (κ:=TransT) tyOk (rfl:kdOfT Ty _ = .map _ _) key_Trans rfl rfl (h.pick 3 [2,0,1]) ⟨wayN ss t.st p.right,(pm:Int)⟩).mono ?_
    rintro _ w20 ⟨n,rfl,h⟩
    obtain ⟨q,M',e1,e2,hq,back⟩:=mS_take rfl (h.pick 4 [3,0,1,2]) ⟨wayN ss t.st p.right,(pm:Int)⟩
    have hql:q.2.length≤i + 1:=by rw [e2]; exact hBk.2.1 _
    rw [e1] at hq ⊢
    refine ⟨_,_,_,_,rfl,?_⟩
    refine (app_one (us:=iv q.2) tyOk (rfl:kdOfT Ty _ = .slice _) (rfl:kdOfT Ty _ = .slice _) rfl rfl rfl (hq.pick 5 [3,0,1,2,4]) rfl (by simp [oneC]) (by show (q.2.length + 1) * 8≤_; omega) (by omega)).mono ?_
    rintro _ w21 ⟨o',c',rfl,h⟩
    refine ⟨_,_,_,rfl,(map_back (h.pick 5 [3,0,2]) _).mono ?_⟩
    rintro _ w22 h
    rw [aput_aput] at h
    have h:=mS_put back (q.2 ++ [(i:Int)]) (by simp) (by simp [iv]) h
    have htk:bys.take (M + 1) = bys.take M ++ [pm]:=by rw [List.take_add_one,hpm]; rfl
    have hnot:pm∉bys.take M:=fun hm=>by
      obtain ⟨M2,hM2⟩:=List.getElem?_of_mem hm
      have hM3:=(List.getElem?_eq_some_iff.1 hM2).1
      rw [List.length_take] at hM3
      rw [List.getElem?_take,if_pos (by omega)] at hM2
      have:=(List.getElem?_inj (i:=M2) (j:=M) (by omega) hnd).1 (by rw [hM2,hpm])
      omega
    refine ⟨⟨by omega,by omega⟩,⟨M + 1,putK ⟨wayN ss t.st p.right,(pm:Int)⟩ ((o',c'),q.2 ++ [(i:Int)]) ps,by simp,h2,⟨putK_nd _ hBk.1,fun k=>?_,fun q2 m=>?_⟩,?_⟩,msr h2⟩
    · rw [getK_put]
      by_cases e:k = (⟨wayN ss t.st p.right,(pm:Int)⟩ : TransT)
      · rw [if_pos e]
        show (q.2 ++ [(i:Int)]).length≤i + 1
        have h5:q.2.length≤i:=by
          rw [e2]
          rw [hjw,hBk.2.2 jw pm,if_neg (fun h=>hnot h.1),List.append_nil]
          exact rowF_len _ _
        rw [List.length_append,List.length_singleton]; omega
      · rw [if_neg e]; exact hBk.2.1 k
    · rw [getK_put,htk]
      by_cases e:(⟨(q2:Int),(m:Int)⟩ : TransT) = ⟨wayN ss t.st p.right,(pm:Int)⟩
      · rw [if_pos e]
        have e3:(q2:Int) = wayN ss t.st p.right:=congrArg TransT.st e
        have e4:m = pm:=by have:(m:Int) = pm:=congrArg TransT.sym e; omega
        subst e4
        show q.2 ++ [(i:Int)] = _
        rw [e2,← e,hBk.2.2 q2 m,if_neg (fun h=>hnot h.1),List.append_nil,if_pos ⟨by simp,p,hpq,e3.symm⟩]
      · rw [if_neg e,hBk.2.2 q2 m]
        congr 1
        by_cases h5:m∈bys.take M∧∃ p,g.prods[m]? = some p∧wayN ss t.st p.right = q2
        · rw [if_pos h5,if_pos ⟨by simp [h5.1],h5.2⟩]
        · rw [if_neg h5,if_neg ?_]
          rintro ⟨h6,p2,h7,h8⟩
          rw [List.mem_append,List.mem_singleton] at h6
          rcases h6 with h6 | rfl
          · exact h5 ⟨h6,p2,h7,h8⟩
          · rw [hpq] at h7; cases h7
            exact e (by rw [← h8])
    · exact h
  have h1:i = (TrL g ss).length:=by have:=of_decide_eq_false h1; omega
  subst h1
  have hget:∀ q m:Nat,getK ⟨(q:Int),(m:Int)⟩ ps = rowF (TrL g ss).length (backB g ss q m):=fun q m=>by rw [hBk.2.2 q m]; simp
  have hkn:=hBk.1
  clear hBk
  have hP2:∀ q,q≤ss.length→q * g.prods.length≤256 * 97:=fun q hq=>Nat.mul_le_mul (by omega) sP
  refine ⟨_,_,_,rk.cell s4 (j:=5) rfl,fun o n c z w'=>∃ (q:Nat) (bs:List BkQ) (rs:List (TransT × Lq Int)),z = q∧q≤ss.length∧n = bs.length∧bs.map toBk = BksN g ss q∧(rs.map Prod.fst).Nodup∧(∀ k:TransT,(q:Int)≤k.st→getQ k rs = getQ k ps)∧St w' (own 3 o n c (bkV bs) :: sta (bkO bs) :: mapA kb (mV ps) :: sta (mO 1 iv rs) :: all w2),fun _ _ _ z _=>ss.length - z.toNat,
    ⟨0,[],ps,rfl,Nat.zero_le _,rfl,rfl,hkn,fun _ _=>rfl,own_nil 3 ((St.flat (M:=[])).2 h)⟩,?_⟩
  clear h s4
  rintro _ o14 _ c14 _ w23 ⟨q,bs,rs,rfl,hq,rfl,hbs,hrn,hrs,h⟩
  have s23:sub (hp w2) (hp w23):=rdH 4 h.l
  have hbl:bs.length≤24832:=by
    have h1:=BksN_len g ss q
    rw [← hbs,List.length_map] at h1
    have:=hP2 q hq
    omega
  refine br_intro (fun h1=>?_) fun h1=>?_
  rotate_left
  · have h1:q = ss.length:=by have:=of_decide_eq_false h1; omega
    subst h1
    refine run_slices_Clip_api_Back_api_Back_ _ _ _ w23 _ (slc_clip (own_le h) ⟨_,_,_,rfl,ss,ask,int,0,_,_,bs,rfl,hR,hbs,?_⟩)
    have h:=own_clip h
    exact St.on2 (h.pick 5 [0,1,4]) (has_i (gw.trans g12))
  have h1:q < ss.length:=by have:=of_decide_eq_true h1; omega
  refine ⟨_,_,_,B.c4 (sub.trans g12 s23),fun o n c z w'=>∃ (m:Nat) (bs:List BkQ) (rs:List (TransT × Lq Int)),z = m∧m≤x.pl∧n = bs.length∧bs.map toBk = BksN g ss q ++ bkRow g ss q m∧(rs.map Prod.fst).Nodup∧(∀ k:TransT,((q:Int) < k.st∨(k.st = q∧(m:Int)≤k.sym))→getQ k rs = getQ k ps)∧St w' (own 3 o n c (bkV bs) :: sta (bkO bs) :: mapA kb (mV ps) :: sta (mO 1 iv rs) :: all w2),fun _ _ _ z _=>x.pl - z.toNat,
    ⟨0,bs,rs,rfl,Nat.zero_le _,rfl,by rw [hbs]; simp [bkRow],hrn,fun k hk=>hrs k (by rcases hk with hk | hk <;> omega),h⟩,?_⟩
  clear h s23 hbs hrn hrs hbl
  rintro _ o16 _ c16 _ w24 ⟨m,bs,rs,rfl,hm,rfl,hbs,hrn,hrs,h⟩
  have hbl:bs.length≤25000:=by
    have h1:=BksN_len g ss q
    have h2:=bkRow_len g ss q m
    have h3:=congrArg List.length hbs
    rw [List.length_map,List.length_append] at h3
    have:=hP2 q hq
    omega
  refine br_intro (fun h2=>?_) fun h2=>?_
  rotate_left
  · have h2:m = x.pl:=by have:=of_decide_eq_false h2; omega
    subst h2
    refine ⟨⟨by omega,by omega⟩,⟨q + 1,bs,rs,by simp,h1,rfl,?_,hrn,fun k hk=>hrs k (.inl (by omega)),h⟩,msr h1⟩
    rw [hbs,BksN_succ,pl]
  have h2:m < x.pl:=by have:=of_decide_eq_true h2; omega
  have hgm:=hget q m
  refine (map_lookupP (κ:=TransT) tyOk (rfl:kdOfT Ty _ = .map _ _) key_Trans rfl rfl (h.pick 3 [2]) ⟨(q:Int),(m:Int)⟩).mono ?_
  rintro _ w25 ⟨rfl,e25⟩
  rw [assoc_mV]
  have hrow:bkRow g ss q (m + 1) = bkRow g ss q m ++ bkAt g ss q m:=bkRow_succ g ss q m
  have hskip:rowF (TrL g ss).length (backB g ss q m) = []→inI ((m:Int) + 1)∧(∃ (m' : Nat) (bs' : List BkQ) (rs' : List (TransT × Lq Int)),(m:Int) + 1 = m'∧m'≤x.pl∧bs.length = bs'.length∧bs'.map toBk = BksN g ss q ++ bkRow g ss q m'∧(rs'.map Prod.fst).Nodup∧(∀ k:TransT,((q:Int) < k.st∨(k.st = q∧(m' : Int)≤k.sym))→getQ k rs' = getQ k ps)∧St w25 (own 3 o16 bs.length c16 (bkV bs') :: sta (bkO bs') :: mapA kb (mV ps) :: sta (mO 1 iv rs') :: all w2))∧x.pl - ((m:Int) + 1).toNat < x.pl - (m:Int).toNat:=fun e=>by
    refine ⟨⟨by omega,by omega⟩,⟨m + 1,bs,rs,by simp,h2,rfl,?_,hrn,fun k hk=>hrs k (hk.elim .inl fun hk=>.inr ⟨hk.1,by have:=hk.2; omega⟩),by rw [e25]; exact h⟩,msr h2⟩
    rw [hrow,hbs]
    unfold bkAt
    rw [if_pos e]; simp
  cases hgq:getQ (⟨(q:Int),(m:Int)⟩ : TransT) ps with
  | none =>
    have e:rowF (TrL g ss).length (backB g ss q m) = []:=by rw [← hgm]; unfold getK; rw [hgq]
    exact ⟨_,_,_,rfl,br_f (by simp) (hskip e)⟩
  | some r =>
    have er:r.2 = rowF (TrL g ss).length (backB g ss q m):=by rw [← hgm]; unfold getK; rw [hgq]
    refine ⟨_,_,_,rfl,br_intro (fun h3=>?_) fun h3=>?_⟩
    rotate_left
    · refine hskip ?_
      rw [← er]
      exact List.eq_nil_of_length_eq_zero (by have:=of_decide_eq_false h3; omega)
    have h3:0 < r.2.length:=by have:=of_decide_eq_true h3; omega
    have hne:rowF (TrL g ss).length (backB g ss q m)≠[]:=by rw [← er]; intro e; rw [e] at h3; simp at h3
    have hgr:getQ (⟨(q:Int),(m:Int)⟩ : TransT) rs = some r:=by rw [hrs _ (.inr ⟨rfl,Int.le_refl _⟩)]; exact hgq
    have h:=h.eq (by rw [e25] : hp w25 = hp w24)
    have h4:=(St.flat.1 (h.pick 4 [3,0,1,2])).perm ((mO_out (sz:=1) (f:=iv) hrn hgr).append_right _)
    have h:St w25 (own 1 r.1.1 r.2.length r.1.2 (iv r.2) :: sta (mO 1 iv (rs.filter fun e=>decide (e.1≠(⟨(q:Int),(m:Int)⟩ : TransT)))) :: own 3 o16 bs.length c16 (bkV bs) :: sta (bkO bs) :: mapA kb (mV ps) :: all w2):=(St.flat.2 (h4.perm List.perm_middle.symm)).swap
    clear h4
    refine run_slices_Clip_int_int_ _ _ _ w25 _ (slc_clip (own_le h) ⟨_,_,_,rfl,?_⟩)
    have h:=own_clip h
    refine newC_i h fun k34 w27 h=>?_
    have z1:(bs.length + 1) * 40≤140737488355328∧bs.length < 9223372036854775807:=by omega
    refine (app_one (us:=bkV bs) tyOk (rfl:kdOfT Ty _ = .slice _) (rfl:kdOfT Ty _ = .slice _) rfl rfl rfl (h.pick 6 [0,3,1,2,4,5]) rfl (by simp [oneC]) z1.1 z1.2).mono ?_
    rintro _ w28 ⟨o17,c17,rfl,h⟩
    have hnew:toBk (((q:Int),(m:Int)),((slP r.1.1 0 r.2.length 1,r.2.length),r.2)) = ⟨(q:Int),(m:Int),rowF (TrL g ss).length (backB g ss q m)⟩:=by unfold toBk; rw [er]
    refine ⟨_,_,_,rfl,⟨by omega,by omega⟩,⟨m + 1,bs ++ [(((q:Int),(m:Int)),((slP r.1.1 0 r.2.length 1,r.2.length),r.2))],rs.filter fun e=>decide (e.1≠(⟨(q:Int),(m:Int)⟩ : TransT)),by simp,h2,by simp,?_,(hrn.sublist (List.Sublist.map _ List.filter_sublist)),fun k hk=>?_,?_⟩,msr h2⟩
    · rw [List.map_append,hbs,hrow]
      unfold bkAt
      rw [if_neg hne]
      simp [hnew]
    · rw [getQ_filter (s:=(⟨(q:Int),(m:Int)⟩ : TransT)) ?_]
      · exact hrs k (hk.elim .inl fun hk=>.inr ⟨hk.1,by have:=hk.2; omega⟩)
      · intro e
        subst e
        rcases hk with hk | hk
        · exact absurd hk (by show ¬(q:Int) < q; omega)
        · have:=hk.2; simp at this; omega
    · have h:=St.snoc (h.pick 6 [2,4,0,5,3])
      have h3:St w28 (own 3 o17 (bs.length + 1) c17 (bkV bs ++ [.int .i64 (q:Int),.int .i64 (m:Int),.slice (slP r.1.1 0 r.2.length 1) r.2.length r.2.length]) :: sta (bkO bs ++ [own 1 (slP r.1.1 0 r.2.length 1) r.2.length r.2.length (iv r.2)]) :: mapA kb (mV ps) :: sta (mO 1 iv (rs.filter fun e=>decide (e.1≠(⟨(q:Int),(m:Int)⟩ : TransT)))) :: all w2):=h.pick 2 [1,0]
      rw [bkV_app,show bkO (bs ++ [(((q:Int),(m:Int)),((slP r.1.1 0 r.2.length 1,r.2.length),r.2))]) = bkO bs ++ [own 1 (slP r.1.1 0 r.2.length 1) r.2.length r.2.length (iv r.2)] by unfold bkO; rw [List.map_append]; rfl]
      exact h3
end Go.Proofs.YtndaepmjkbmjmaaGreatDoor
set_option linter.unusedVariables false
set_option maxRecDepth 4000
namespace Go.V
instance:Rep BackT:={ n:=3,rd:=fun h x vs=>∃ (a:Option Addr) (c:Nat),vs = [.int .i64 x.st,.int .i64 x.prod,.slice a x.tr.length c]∧rdS h x.tr a x.tr.length,mono:=fun s ⟨a,c,e,r⟩=>⟨a,c,e,r.mono s⟩,len:=fun ⟨_,_,e,_⟩=>by rw [e]; rfl }
section
variable {w:World} {L:List Asn} {o:Option Addr} {c:Nat}
theorem rdLq {ds:List (Lq Int)} (h:St w (own 1 o ds.length c (ds.map slQ) :: sta (ds.map (owQ 1 iv)) :: L)):rdS (hp w) (ds.map (·.2)) o ds.length:=by
  have hr:=rdOv 0 h.l
  refine ⟨by simp,fun i x hi=>?_⟩
  rw [List.getElem?_map] at hi
  cases hd:ds[i]? with
  | none=>rw [hd] at hi; cases hi
  | some p =>
    rw [hd] at hi
    simp only [Option.map_some,Option.some.injEq] at hi
    subst hi
    have hA:(ds.map (owQ 1 iv))[i]? = some (owQ 1 iv p):=by rw [List.getElem?_map,hd]; rfl
    have h2:=St.out (h.pick 2 [1]) hA
    have hle:p.2.length≤p.1.2:=own_le h2
    have rp:rdS (hp w) p.2 p.1.1 p.2.length:=rdI_of rfl (rdOv 0 h2.l)
    rcases hr with e | ⟨ad,e,hc⟩
    · rw [List.map_eq_nil_iff] at e; subst e; simp at hd
    · refine ⟨ad,[slQ p],e,fun j v hj=>?_,p.1.1,p.2.length,p.1.2,rfl,hle,rp⟩
      cases j with
      | zero =>
        simp at hj; subst hj
        rw [add_add,mulS_eq]
        have:=hc i (slQ p) (by rw [List.getElem?_map,hd]; rfl)
        rw [show i * Rep.n (List Int) + 0 = i from by show i * 1 + 0 = i; omega]
        exact this
      | succ j=>simp at hj
theorem rdLq_row {h:Hp} {xss:List (List Int)} {i l:Nat} (r:rdS h xss o l) (hi:i < l):∃ x ad a c,xss[i]? = some x∧o = some ad∧(∀ u:World,sub h (hp u)→u.cell? (ad.add i) = some (.slice a x.length c))∧rdS h x a x.length:=by
  obtain ⟨x,ad,vs,hx,ha,hr,a,l',c',rfl,hle,hx2⟩:=r.get hi
  have hl:=hx2.1
  subst hl
  refine ⟨x,ad,a,c',hx,ha,fun u s=>?_,hx2⟩
  have:=hr.cell0 s
  rwa [mulS_eq,show i * Rep.n (List Int) = i from Nat.mul_one i] at this
theorem rdBk {ds:List BkQ} (h:St w (own 3 o ds.length c (bkV ds) :: sta (bkO ds) :: L)):rdS (hp w) (ds.map toBk) o ds.length:=by
  have hr:=rdOv 0 h.l
  refine ⟨by simp,fun i x hi=>?_⟩
  rw [List.getElem?_map] at hi
  cases hd:ds[i]? with
  | none=>rw [hd] at hi; cases hi
  | some p =>
    rw [hd] at hi
    simp only [Option.map_some,Option.some.injEq] at hi
    subst hi
    have hA:(bkO ds)[i]? = some (owQ 1 iv p.2):=by unfold bkO; rw [List.getElem?_map,hd]; rfl
    have h2:=St.out (h.pick 2 [1]) hA
    have rp:rdS (hp w) p.2.2 p.2.1.1 p.2.2.length:=rdI_of rfl (rdOv 0 h2.l)
    rcases hr with e | ⟨ad,e,hc⟩
    · have h1:=congrArg List.length e
      rw [bkV_len,List.length_nil] at h1
      have:=(List.getElem?_eq_some_iff.1 hd).1; omega
    · exact ⟨ad,bkE p,e,rowH_unflat (n:=3) (fun _=>rfl) ds ad hc i p hd,p.2.1.1,p.2.1.2,rfl,rp⟩
theorem rdBk_get {h:Hp} {xs:List BackT} {l i:Nat} (r:rdS h xs o l) (hi:i < l):∃ x ad a c,xs[i]? = some x∧o = some ad∧rowH h (ad.add (mulS i 3)) [.int .i64 x.st,.int .i64 x.prod,.slice a x.tr.length c]∧rdS h x.tr a x.tr.length:=by
  obtain ⟨x,ad,vs,hx,ha,hr,a,c',rfl,hx2⟩:=r.get hi
  exact ⟨x,ad,a,c',hx,ha,hr,hx2⟩
end
section
variable {g:GramT} {nn:List Bool} {ss ss' : List SQ}
theorem readB_es (h:esOf ss = esOf ss') (i k:Nat):readB g nn ss i k = readB g nn ss' i k:=by
  unfold readB
  rw [TrL_es h]
  have e:∀ i s,nxt ss i s = nxt ss' i s:=fun i s=>nxt_es h i s
  simp only [e]
theorem incB_es (h:esOf ss = esOf ss') (i k:Nat):incB g nn ss i k = incB g nn ss' i k:=by
  unfold incB
  rw [TrL_es h]
  have e:∀ q l,wayN ss q l = wayN ss' q l:=fun q l=>wayN_es h l q
  simp only [e]
theorem backB_es (h:esOf ss = esOf ss') (q m i:Nat):backB g ss q m i = backB g ss' q m i:=by
  unfold backB
  rw [TrL_es h]
  have e:∀ q l,wayN ss q l = wayN ss' q l:=fun q l=>wayN_es h l q
  simp only [e]
theorem RdsL_es (h:esOf ss = esOf ss'):RdsL g nn ss = RdsL g nn ss':=by
  unfold RdsL
  rw [TrL_es h]
  refine List.map_congr_left fun i _=>?_
  rw [show readB g nn ss i = readB g nn ss' i from funext fun k=>readB_es h i k]
theorem IncL_es (h:esOf ss = esOf ss'):IncL g nn ss = IncL g nn ss':=by
  unfold IncL
  rw [TrL_es h]
  refine List.map_congr_left fun i _=>?_
  rw [show incB g nn ss i = incB g nn ss' i from funext fun k=>incB_es h i k]
theorem bkAt_es (h:esOf ss = esOf ss') (q m:Nat):bkAt g ss q m = bkAt g ss' q m:=by
  unfold bkAt
  rw [TrL_es h,show backB g ss q m = backB g ss' q m from funext fun k=>backB_es h q m k]
theorem BksL_es (h:esOf ss = esOf ss'):BksL g ss = BksL g ss':=by
  unfold BksL
  rw [es_len h]
  have e:∀ q j,bkRow g ss q j = bkRow g ss' q j:=fun q j=>by unfold bkRow; rw [show bkAt g ss q = bkAt g ss' q from funext fun m=>bkAt_es h q m]
  simp only [e]
end
end Go.V
set_option linter.unusedVariables false
set_option maxRecDepth 4000
namespace Go.V.Dig
inductive Rc (E:Nat→List Nat):Nat→Nat→Prop
  | refl (a:Nat):Rc E a a
  | step {a b c:Nat}:b∈E a→Rc E b c→Rc E a c
theorem Rc.trans {E:Nat→List Nat} {a b c:Nat} (h:Rc E a b):Rc E b c→Rc E a c:=by
  induction h with
  | refl=>exact id
  | step h _ ih=>exact fun k=>.step h (ih k)
theorem Rc.one {E:Nat→List Nat} {a b:Nat} (h:b∈E a):Rc E a b:=.step h (.refl b)
def Good (E:Nat→List Nat) (gs:List (List Nat)):Prop :=
  gs.flatten.Nodup∧∀ g1 g g2,gs = g1 ++ g :: g2→g≠[]∧(∀ a∈g,∀ b∈g,Rc E a b)∧∀ a∈g,∀ b∈E a,b∈g∨b∈g1.flatten
theorem Good.nil (E:Nat→List Nat):Good E []:=⟨by simp,fun g1 g g2 h=>by simp at h⟩
theorem Good.snoc {E:Nat→List Nat} {gs:List (List Nat)} {g:List Nat} (h:Good E gs) (hn:g≠[]) (hd:g.Nodup) (hx:∀ a∈g,a∉gs.flatten)
    (hr:∀ a∈g,∀ b∈g,Rc E a b) (he:∀ a∈g,∀ b∈E a,b∈g∨b∈gs.flatten):Good E (gs ++ [g]):=by
  refine ⟨?_,?_⟩
  · rw [List.flatten_append,List.nodup_append]
    refine ⟨h.1,by simpa using hd,?_⟩
    intro a ha b hb e
    subst e
    exact hx a (by simpa using hb) ha
  · intro g1 g' g2 e
    rcases List.eq_nil_or_concat g2 with rfl | ⟨g3,x,rfl⟩
    · obtain ⟨rfl,e2⟩:=List.append_inj' e rfl
      simp only [List.cons.injEq,and_true] at e2
      subst e2
      exact ⟨hn,hr,he⟩
    · rw [List.concat_eq_append,← List.cons_append,← List.append_assoc] at e
      obtain ⟨e1,e2⟩:=List.append_inj' e rfl
      exact h.2 g1 g' g3 e1
theorem Good.to {E:Nat→List Nat} {gs:List (List Nat)} (h:Good E gs) {a b:Nat} (hw:Rc E a b) :
    ∀ g1 g g2,gs = g1 ++ g :: g2→a∈g→b∈(g1 ++ [g]).flatten:=by
  induction hw with
  | refl a=>intro g1 g g2 _ ha; simp [ha]
  | @step a b c hb hc ih =>
    intro g1 g g2 e ha
    rcases (h.2 g1 g g2 e).2.2 a ha b hb with hb | hb
    · exact ih g1 g g2 e hb
    · obtain ⟨x,hx,hbx⟩:=List.mem_flatten.1 hb
      obtain ⟨y1,y2,rfl⟩:=List.append_of_mem hx
      have:=ih y1 x (y2 ++ g :: g2) (by rw [e]; simp) hbx
      simp only [List.flatten_append,List.flatten_cons,List.flatten_nil,List.append_nil,List.mem_append] at this ⊢
      rcases this with h | h
      · exact Or.inl (Or.inl h)
      · exact Or.inl (Or.inr (Or.inl h))
theorem nodup_split {gs:List (List Nat)} (h:gs.flatten.Nodup) {g1 g2:List (List Nat)} {g:List Nat} (e:gs = g1 ++ g :: g2) {a:Nat} (ha:a∈g):a∉g1.flatten∧a∉g2.flatten:=by
  subst e
  rw [List.flatten_append,List.flatten_cons,List.nodup_append,List.nodup_append] at h
  refine ⟨fun h1=>h.2.2 a h1 a (by simp [ha]) rfl,fun h1=>h.2.1.2.2 a ha a h1 rfl⟩
theorem Good.same {E:Nat→List Nat} {gs:List (List Nat)} (h:Good E gs) {g:List Nat} (hg:g∈gs) {a b:Nat} (ha:a∈g) (hab:Rc E a b) (hba:Rc E b a) (hb:b∈gs.flatten):b∈g:=by
  obtain ⟨g1,g2,e⟩:=List.append_of_mem hg
  have h1:=h.to hab g1 g g2 e ha
  simp only [List.flatten_append,List.flatten_cons,List.flatten_nil,List.append_nil,List.mem_append] at h1
  rcases h1 with h1 | h1
  · obtain ⟨x,hx,hbx⟩:=List.mem_flatten.1 h1
    obtain ⟨y1,y2,rfl⟩:=List.append_of_mem hx
    have h2:=h.to hba y1 x (y2 ++ g :: g2) (by rw [e]; simp) hbx
    have:=(nodup_split h.1 e ha).1
    simp only [List.flatten_append,List.flatten_cons,List.flatten_nil,List.append_nil,List.mem_append] at h2 this
    rcases h2 with h2 | h2
    · exact absurd (Or.inl h2) this
    · exact absurd (Or.inr (Or.inl h2)) this
  · exact h1
abbrev Sc:=Nat × Nat × List Nat
def opOf:List Sc→List Nat
  | []=>[]
  | (n,_,r) :: t=>opOf t ++ n :: r
structure Sec (E:Nat→List Nat) (low:Nat→Nat) (op:List Nat) (D:Nat→Prop) (b n k:Nat) (r:List Nat):Prop where
  le:k≤(E n).length
  top:low n≤b + 1
  lo:∀ v∈r,low n≤low v
  pos:∀ v∈n :: r,0 < low v
  at_:∀ v∈r,∀ i,op[i]? = some v→low v≤i
  rc:∀ v∈r,Rc E n v
  to:∀ v∈n :: r,∃ u,op[low v - 1]? = some u∧Rc E v u
  ed:∀ v∈r,∀ m∈E v,D m∨∃ i,op[i]? = some m∧low n≤i + 1
  en:∀ j m,j < k→(E n)[j]? = some m→D m∨∃ i,op[i]? = some m∧low n≤i + 1
def OK (E:Nat→List Nat) (low:Nat→Nat) (op:List Nat) (D:Nat→Prop):List Sc→Prop
  | []=>True
  | (n,k,r) :: t=>Sec E low op D (opOf t).length n k r∧(∀ u k' r' t',t = (u,k',r') :: t'→Rc E u n)∧OK E low op D t
theorem mem_opOf_len {t:List Sc} {n k:Nat} {r:List Nat}:(opOf ((n,k,r) :: t)).length = (opOf t).length + 1 + r.length:=by simp [opOf]; omega
theorem OK.mono {E:Nat→List Nat} {low low' : Nat→Nat} {op op' : List Nat} {D D' : Nat→Prop}:∀ (t:List Sc),OK E low op D t →
    (∀ v∈opOf t,low' v = low v)→(∀ i v:Nat,op[i]? = some v→op'[i]? = some v∨D' v)→(∀ i v:Nat,op'[i]? = some v→v∈opOf t→op[i]? = some v)→(∀ i:Nat,i < (opOf t).length→op'[i]? = op[i]?)→op.Nodup→(∀ v:Nat,D v→D' v) →
    (∀ i:Nat,i < (opOf t).length→op[i]? = (opOf t)[i]?)→OK E low' op' D' t
  | [],_,_,_,_,_,_,_,_=>trivial
  | (n,k,r) :: t,⟨s,hu,ht⟩,hl,ho,hb,hi,nd,hD,hp=>by
    have hn:low' n = low n:=hl n (by simp [opOf])
    have hr:∀ v∈r,low' v = low v:=fun v hv=>hl v (by simp [opOf,hv])
    have hnr:∀ v∈n :: r,low' v = low v:=fun v hv=>hl v (by simp only [opOf,List.mem_append]; exact Or.inr hv)
    refine ⟨⟨s.le,by rw [hn]; exact s.top,fun v hv=>by rw [hn,hr v hv]; exact s.lo v hv,fun v hv=>by rw [hnr v hv]; exact s.pos v hv,?_,s.rc,?_,?_,?_⟩,hu,?_⟩
    · intro v hv i h
      rw [hr v hv]
      exact s.at_ v hv i (hb i v h (by simp [opOf,hv]))
    · intro v hv
      obtain ⟨u,h1,h2⟩:=s.to v hv
      refine ⟨u,?_,h2⟩
      rw [hnr v hv,hi _ ?_,h1]
      rw [mem_opOf_len]
      have hp':=s.pos v hv
      rcases List.mem_cons.1 hv with rfl | hv
      · have:=s.top; omega
      · have hv2:v∈opOf ((n,k,r) :: t):=by simp [opOf,hv]
        obtain ⟨i,hi1,hi2⟩:=List.getElem_of_mem hv2
        have:=s.at_ v hv i (by rw [hp i hi1,List.getElem?_eq_getElem hi1,hi2])
        rw [mem_opOf_len] at hi1
        omega
    · intro v hv m hm
      rcases s.ed v hv m hm with h | ⟨i,h1,h2⟩
      · exact Or.inl (hD m h)
      · rcases ho i m h1 with h | h
        · exact Or.inr ⟨i,h,by rw [hn]; exact h2⟩
        · exact Or.inl h
    · intro j m hj hm
      rcases s.en j m hj hm with h | ⟨i,h1,h2⟩
      · exact Or.inl (hD m h)
      · rcases ho i m h1 with h | h
        · exact Or.inr ⟨i,h,by rw [hn]; exact h2⟩
        · exact Or.inl h
    · refine OK.mono t ht (fun v hv=>hl v (by simp [opOf,hv])) ho (fun i v h hv=>hb i v h (by simp [opOf,hv])) (fun i h=>hi i (by rw [mem_opOf_len]; omega)) nd hD ?_
      intro i h
      rw [hp i (by rw [mem_opOf_len]; omega)]
      simp only [opOf]
      rw [List.getElem?_append_left h]
end Go.V.Dig
set_option linter.unusedVariables false
set_option maxRecDepth 4000
namespace Go.V.Dig
def upd (f:Nat→Nat) (i x:Nat):Nat→Nat:=fun j=>if j = i then x else f j
theorem upd_same (f:Nat→Nat) (i x:Nat):upd f i x i = x:=by simp [upd]
theorem upd_ne {f:Nat→Nat} {i x j:Nat} (h:j≠i):upd f i x j = f j:=by simp [upd,h]
structure Inv (E:Nat→List Nat) (N:Nat) (low:Nat→Nat) (S:List Sc) (gs:List (List Nat)):Prop where
  ok:OK E low (opOf S) (·∈gs.flatten) S
  nd:(opOf S ++ gs.flatten).Nodup
  lt:∀ v∈opOf S ++ gs.flatten,v < N
  un:∀ v,v < N→(low v = 0↔v∉opOf S ++ gs.flatten)
  dn:∀ v∈gs.flatten,low v = N + 1
  good:Good E gs
theorem nd_sub:∀ (l m:List Nat),l.Nodup→(∀ v∈l,v∈m)→l.length≤m.length
  | [],_,_,_=>Nat.zero_le _
  | a :: l,m,h,hs=>by
    have ha:=hs a (by simp)
    rw [List.nodup_cons] at h
    have:=nd_sub l (m.erase a) h.2 (fun v hv=>(List.mem_erase_of_ne (fun e:v = a=>h.1 (e ▸ hv))).2 (hs v (by simp [hv])))
    rw [List.length_erase_of_mem ha] at this
    have:=List.length_pos_of_mem ha
    simp only [List.length_cons]; omega
theorem nd_len {l:List Nat} {N:Nat} (h1:l.Nodup) (h2:∀ v∈l,v < N):l.length≤N:=by
  have:=nd_sub l (List.range N) h1 (fun v hv=>List.mem_range.2 (h2 v hv))
  simpa using this
variable {E:Nat→List Nat} {N:Nat} {low:Nat→Nat} {S t:List Sc} {gs:List (List Nat)} {D:Nat→Prop} {op:List Nat}
theorem nodup_at {l:List Nat} (h:l.Nodup) {i j:Nat} {v:Nat} (h1:l[i]? = some v) (h2:l[j]? = some v):i = j:=by
  obtain ⟨a,h1⟩:=List.getElem?_eq_some_iff.1 h1
  obtain ⟨b,h2⟩:=List.getElem?_eq_some_iff.1 h2
  exact (List.getElem_inj h).1 (h1.trans h2.symm)
theorem OK.to:∀ (S:List Sc),OK E low op D S→∀ v∈opOf S,0 < low v∧∃ u,op[low v - 1]? = some u∧Rc E v u
  | [],_,v,hv=>by simp [opOf] at hv
  | (n,k,r) :: t,⟨s,_,h⟩,v,hv=>by
    simp only [opOf,List.mem_append] at hv
    rcases hv with hv | hv
    · exact OK.to t h v hv
    · exact ⟨s.pos v hv,s.to v hv⟩
theorem OK.at_le:∀ (S:List Sc),OK E low op D S→op.Nodup→(∀ i:Nat,i < (opOf S).length→op[i]? = (opOf S)[i]?)→∀ v∈opOf S,∀ i:Nat,op[i]? = some v→low v≤i + 1
  | [],_,_,_,v,hv=>by simp [opOf] at hv
  | (n,k,r) :: t,⟨s,_,h⟩,nd,hp,v,hv=>by
    intro i hi
    simp only [opOf,List.mem_append] at hv
    rcases hv with hv | hv
    · refine OK.at_le t h nd (fun j hj=>?_) v hv i hi
      rw [hp j (by rw [mem_opOf_len]; omega)]
      simp only [opOf]
      rw [List.getElem?_append_left hj]
    · rcases List.mem_cons.1 hv with rfl | hv
      · have h1:op[(opOf t).length]? = some v:=by
          rw [hp _ (by rw [mem_opOf_len]; omega)]
          simp [opOf]
        have:=nodup_at nd hi h1
        have:=s.top
        omega
      · have:=s.at_ v hv i hi
        omega
theorem Inv.ndo (h:Inv E N low S gs):(opOf S).Nodup:=(List.nodup_append.1 h.nd).1
theorem Inv.len (h:Inv E N low S gs):(opOf S).length≤N:=nd_len h.ndo fun v hv=>h.lt v (by simp [hv])
theorem Inv.seen (h:Inv E N low S gs) {v:Nat} (hv:v < N) (hl:low v≠0):v∈opOf S∨v∈gs.flatten:=by
  have:=mt (h.un v hv).2 hl
  simp only [List.mem_append] at this
  exact Classical.byContradiction fun e=>this e
theorem Inv.root (h:Inv E N low [] gs) {m:Nat} (hm:m < N) (h0:low m = 0):Inv E N (upd low m 1) [(m,0,[])] gs:=by
  have hx:=(h.un m hm).1 h0
  simp only [opOf,List.nil_append] at hx
  have hne:∀ v,v∈gs.flatten→v≠m:=fun v hv e=>hx (e ▸ hv)
  refine ⟨⟨⟨by simp,by simp [opOf,upd_same],by simp,?_,by simp,by simp,?_,by simp,by simp⟩,by simp,trivial⟩,?_,?_,?_,?_,h.good⟩
  · intro v hv
    simp only [List.mem_singleton] at hv
    rw [hv,upd_same]; omega
  · intro v hv
    simp only [List.mem_singleton] at hv
    subst hv
    exact ⟨v,by simp [upd_same,opOf],.refl v⟩
  · have:=h.nd
    simp only [opOf,List.nil_append,List.singleton_append,List.nodup_cons] at this ⊢
    exact ⟨hx,this⟩
  · intro v hv
    simp only [opOf,List.nil_append,List.singleton_append,List.mem_cons] at hv
    rcases hv with rfl | hv
    · exact hm
    · exact h.lt v (by simpa [opOf] using hv)
  · intro v hv
    simp only [opOf,List.nil_append,List.singleton_append,List.mem_cons]
    by_cases e:v = m
    · subst e; simp [upd_same]
    · rw [upd_ne e,h.un v hv]; simp [opOf,e]
  · intro v hv
    rw [upd_ne (hne v hv)]
    exact h.dn v hv
theorem Inv.push {n k m:Nat} {r:List Nat} (h:Inv E N low ((n,k,r) :: t) gs) (hk:(E n)[k]? = some m) (hm:m < N) (h0:low m = 0) :
    Inv E N (upd low m ((opOf ((n,k,r) :: t)).length + 1)) ((m,0,[]) :: (n,k + 1,r) :: t) gs:=by
  have hx:=(h.un m hm).1 h0
  have hxo:m∉opOf ((n,k,r) :: t):=fun e=>hx (by simp only [List.mem_append]; exact Or.inl e)
  have hxg:m∉gs.flatten:=fun e=>hx (by simp only [List.mem_append]; exact Or.inr e)
  have ho:opOf ((m,0,[]) :: (n,k + 1,r) :: t) = opOf ((n,k,r) :: t) ++ [m]:=rfl
  have hmono:=OK.mono (low':=upd low m ((opOf ((n,k,r) :: t)).length + 1)) (op':=opOf ((n,k,r) :: t) ++ [m]) (D':=(·∈gs.flatten)) _ h.ok
    (fun v hv=>upd_ne fun e=>hxo (e ▸ hv))
    (fun i v hi=>Or.inl (by rw [List.getElem?_append_left (by obtain ⟨a,_⟩:=List.getElem?_eq_some_iff.1 hi; exact a)]; exact hi))
    (fun i v hi hv=>by
      by_cases hl:i < (opOf ((n,k,r) :: t)).length
      · rwa [List.getElem?_append_left hl] at hi
      · rw [List.getElem?_append_right (by omega)] at hi
        have hi:=List.mem_of_getElem? hi
        simp only [List.mem_singleton] at hi
        exact absurd (hi ▸ hv) hxo)
    (fun i hi=>List.getElem?_append_left hi) h.ndo (fun _ h=>h) (fun _ _=>rfl)
  obtain ⟨s,hu,ht⟩:=hmono
  have hle:k < (E n).length:=(List.getElem?_eq_some_iff.1 hk).1
  refine ⟨⟨⟨by simp,?_,by simp,?_,by simp,by simp,?_,by simp,by simp⟩,?_,⟨⟨hle,s.top,s.lo,s.pos,s.at_,s.rc,s.to,s.ed,?_⟩,hu,ht⟩⟩,?_,?_,?_,?_,h.good⟩
  · rw [upd_same]; exact Nat.le_refl _
  · intro v hv
    simp only [List.mem_singleton] at hv
    rw [hv,upd_same]; omega
  · intro v hv
    simp only [List.mem_singleton] at hv
    subst hv
    refine ⟨v,?_,.refl v⟩
    rw [upd_same,ho]
    simp
  · intro u k' r' t' e
    cases e
    exact Rc.one (List.mem_of_getElem? hk)
  · intro j v hj hv
    by_cases e:j = k
    · subst e
      rw [hk] at hv
      cases hv
      refine Or.inr ⟨(opOf ((n,j,r) :: t)).length,by rw [ho,List.getElem?_append_right (Nat.le_refl _)]; simp,?_⟩
      have h1:=s.top
      have h2:(opOf ((n,j,r) :: t)).length = (opOf t).length + 1 + r.length:=mem_opOf_len
      omega
    · exact s.en j v (by omega) hv
  · rw [ho]
    have:=h.nd
    rw [List.append_assoc,List.nodup_append] at *
    refine ⟨this.1,?_,?_⟩
    · simp only [List.singleton_append,List.nodup_cons]
      exact ⟨hxg,this.2.1⟩
    · intro a ha b hb e
      simp only [List.singleton_append,List.mem_cons] at hb
      rcases hb with rfl | hb
      · exact hxo (e ▸ ha)
      · exact this.2.2 a ha b hb e
  · intro v hv
    rw [ho] at hv
    simp only [List.mem_append,List.mem_singleton] at hv
    rcases hv with (hv | rfl) | hv
    · exact h.lt v (by simp only [List.mem_append]; exact Or.inl hv)
    · exact hm
    · exact h.lt v (by simp only [List.mem_append]; exact Or.inr hv)
  · intro v hv
    rw [ho]
    by_cases e:v = m
    · subst e; simp [upd_same]
    · rw [upd_ne e,h.un v hv]; simp [e]
  · intro v hv
    have e:v≠m:=fun e=>hxg (e ▸ hv)
    rw [upd_ne e]
    exact h.dn v hv
theorem Inv.lown {n k:Nat} {r:List Nat} (h:Inv E N low ((n,k,r) :: t) gs):n∉opOf t∧n∉r∧n∉gs.flatten∧(∀ v∈r,v∉opOf t):=by
  have:=h.nd
  simp only [opOf,List.nodup_append,List.nodup_cons,List.mem_append,List.mem_cons] at this
  obtain ⟨⟨h1,h2,h3⟩,h4,h5⟩:=this
  exact ⟨fun e=>h3 n e n (Or.inl rfl) rfl,h2.1,fun e=>h5 n (Or.inr (Or.inl rfl)) n e rfl,fun v hv e=>h3 v e v (Or.inr hv) rfl⟩
theorem Inv.look {n k m:Nat} {r:List Nat} (h:Inv E N low ((n,k,r) :: t) gs) (hk:(E n)[k]? = some m) (hm:m < N) (h0:low m≠0) :
    Inv E N (upd low n (min (low n) (low m))) ((n,k + 1,r) :: t) gs:=by
  obtain ⟨x1,x2,x3,x4⟩:=h.lown
  obtain ⟨s,hu,ht⟩:=h.ok
  have hle:k < (E n).length:=(List.getElem?_eq_some_iff.1 hk).1
  have hr:∀ v∈r,v≠n:=fun v hv e=>x2 (e ▸ hv)
  have hlen:=h.len
  rw [mem_opOf_len] at hlen
  have htop:=s.top
  have hpn:=s.pos n (by simp)
  have hmin:upd low n (min (low n) (low m)) n≤low n:=by rw [upd_same]; omega
  have hdone:m∈gs.flatten→min (low n) (low m) = low n:=fun e=>by rw [h.dn m e]; omega
  have hmono:=OK.mono (low':=upd low n (min (low n) (low m))) (op':=opOf ((n,k,r) :: t)) (D':=(·∈gs.flatten)) _ ht
    (fun v hv=>upd_ne fun e=>x1 (e ▸ hv)) (fun i v hi=>Or.inl hi) (fun i v hi _=>hi) (fun i hi=>rfl) h.ndo (fun _ h=>h)
    (fun i hi=>by simp only [opOf]; rw [List.getElem?_append_left hi])
  refine ⟨⟨⟨hle,by omega,?_,?_,?_,s.rc,?_,?_,?_⟩,hu,hmono⟩,h.nd,h.lt,?_,?_,h.good⟩
  · intro v hv
    rw [upd_ne (hr v hv)]
    exact Nat.le_trans hmin (s.lo v hv)
  · intro v hv
    by_cases e:v = n
    · subst e; rw [upd_same]; omega
    · rw [upd_ne e]; exact s.pos v hv
  · intro v hv
    rw [upd_ne (hr v hv)]
    exact s.at_ v hv
  · intro v hv
    by_cases e:v = n
    · subst e
      rw [upd_same]
      by_cases hc:low v≤low m
      · rw [Nat.min_eq_left hc]; exact s.to v (by simp)
      · rw [Nat.min_eq_right (by omega)]
        rcases h.seen hm h0 with hs | hs
        · obtain ⟨_,u,h1,h2⟩:=OK.to _ h.ok m hs
          exact ⟨u,h1,.step (List.mem_of_getElem? hk) h2⟩
        · have:=hdone hs; omega
    · rw [upd_ne e]; exact s.to v hv
  · intro v hv x hx
    rcases s.ed v hv x hx with h1 | ⟨i,h1,h2⟩
    · exact Or.inl h1
    · exact Or.inr ⟨i,h1,Nat.le_trans hmin h2⟩
  · intro j x hj hx
    by_cases e:j = k
    · subst e
      rw [hk] at hx; cases hx
      rcases h.seen hm h0 with hs | hs
      · obtain ⟨i,hi1,hi2⟩:=List.getElem_of_mem hs
        have hi3:(opOf ((n,j,r) :: t))[i]? = some m:=by rw [List.getElem?_eq_getElem hi1,hi2]
        refine Or.inr ⟨i,hi3,?_⟩
        have:=OK.at_le _ h.ok h.ndo (fun _ _=>rfl) m hs i hi3
        rw [upd_same]; omega
      · exact Or.inl hs
    · rcases s.en j x (by omega) hx with h1 | ⟨i,h1,h2⟩
      · exact Or.inl h1
      · exact Or.inr ⟨i,h1,Nat.le_trans hmin h2⟩
  · intro v hv
    by_cases e:v = n
    · subst e
      rw [upd_same]
      have h1:v∈opOf ((v,k + 1,r) :: t) ++ gs.flatten:=by simp [opOf]
      constructor
      · intro h2; omega
      · intro h2; exact absurd h1 h2
    · rw [upd_ne e]; exact h.un v hv
  · intro v hv
    have e:v≠n:=fun e=>x3 (e ▸ hv)
    rw [upd_ne e]
    exact h.dn v hv
theorem Inv.merge {n k u ku:Nat} {r ru:List Nat} (h:Inv E N low ((n,k,r) :: (u,ku,ru) :: t) gs) (hk:k = (E n).length) (hne:low n≠(opOf ((u,ku,ru) :: t)).length + 1) :
    Inv E N (upd low u (min (low u) (low n))) ((u,ku,ru ++ n :: r) :: t) gs:=by
  obtain ⟨x1,x2,x3,x4⟩:=h.lown
  obtain ⟨s,hu,s2,hu2,ht⟩:=h.ok
  have ho:opOf ((u,ku,ru ++ n :: r) :: t) = opOf ((n,k,r) :: (u,ku,ru) :: t):=by simp [opOf]
  have hru:u∉opOf t∧u∉ru∧u≠n∧u∉r∧u∉gs.flatten:=by
    have:=h.nd
    simp only [opOf,List.nodup_append,List.nodup_cons,List.mem_append,List.mem_cons] at this
    obtain ⟨⟨⟨h1,h2,h3⟩,h4,h5⟩,h6,h7⟩:=this
    exact ⟨fun e=>h3 u e u (Or.inl rfl) rfl,h2.1,h5 u (Or.inr (Or.inl rfl)) n (Or.inl rfl),fun e=>h5 u (Or.inr (Or.inl rfl)) u (Or.inr e) rfl,fun e=>h7 u (Or.inl (Or.inr (Or.inl rfl))) u e rfl⟩
  obtain ⟨y1,y2,y3,y4,y5⟩:=hru
  have hmin:upd low u (min (low u) (low n)) u≤low u:=by rw [upd_same]; omega
  have hmin2:upd low u (min (low u) (low n)) u≤low n:=by rw [upd_same]; omega
  have hlow:∀ v,v≠u→upd low u (min (low u) (low n)) v = low v:=fun v e=>upd_ne e
  have hn:upd low u (min (low u) (low n)) n = low n:=hlow n (Ne.symm y3)
  have hr:∀ v∈r,upd low u (min (low u) (low n)) v = low v:=fun v hv=>hlow v fun e=>y4 (e ▸ hv)
  have hru:∀ v∈ru,upd low u (min (low u) (low n)) v = low v:=fun v hv=>hlow v fun e=>y2 (e ▸ hv)
  have hpn:=s.pos n (by simp)
  have hpu:=s2.pos u (by simp)
  have hmono:=OK.mono (low':=upd low u (min (low u) (low n))) (op':=opOf ((n,k,r) :: (u,ku,ru) :: t)) (D':=(·∈gs.flatten)) _ ht
    (fun v hv=>upd_ne fun e=>y1 (e ▸ hv)) (fun i v hi=>Or.inl hi) (fun i v hi _=>hi) (fun i hi=>rfl) h.ndo (fun _ h=>h)
    (fun i hi=>by simp only [opOf]; rw [List.append_assoc,List.getElem?_append_left hi])
  have hposn:(opOf ((n,k,r) :: (u,ku,ru) :: t))[(opOf ((u,ku,ru) :: t)).length]? = some n:=by simp only [opOf]; simp
  refine ⟨?_,by rw [ho]; exact h.nd,by rw [ho]; exact h.lt,?_,?_,h.good⟩
  · rw [ho]
    refine ⟨⟨s2.le,Nat.le_trans hmin s2.top,?_,?_,?_,?_,?_,?_,?_⟩,hu2,hmono⟩
    · intro v hv
      simp only [List.mem_append,List.mem_cons] at hv
      rcases hv with hv | rfl | hv
      · rw [hru v hv]; exact Nat.le_trans hmin (s2.lo v hv)
      · rw [hn]; exact hmin2
      · rw [hr v hv]; exact Nat.le_trans hmin2 (s.lo v hv)
    · intro v hv
      by_cases e:v = u
      · subst e; rw [upd_same]; omega
      · rw [hlow v e]
        simp only [List.mem_append,List.mem_cons] at hv
        rcases hv with hv | hv | rfl | hv
        · exact absurd hv e
        · exact s2.pos v (by simp [hv])
        · exact hpn
        · exact s.pos v (by simp [hv])
    · intro v hv i hi
      simp only [List.mem_append,List.mem_cons] at hv
      rcases hv with hv | rfl | hv
      · rw [hru v hv]; exact s2.at_ v hv i hi
      · rw [hn]
        have:=nodup_at h.ndo hi hposn
        have:=s.top
        omega
      · rw [hr v hv]; exact s.at_ v hv i hi
    · intro v hv
      have h1:=hu u ku ru t rfl
      simp only [List.mem_append,List.mem_cons] at hv
      rcases hv with hv | rfl | hv
      · exact s2.rc v hv
      · exact h1
      · exact h1.trans (s.rc v hv)
    · intro v hv
      by_cases e:v = u
      · subst e
        rw [upd_same]
        by_cases hc:low v≤low n
        · rw [Nat.min_eq_left hc]; exact s2.to v (by simp)
        · rw [Nat.min_eq_right (by omega)]
          obtain ⟨x,h1,h2⟩:=s.to n (by simp)
          exact ⟨x,h1,(hu v ku ru t rfl).trans h2⟩
      · rw [hlow v e]
        simp only [List.mem_append,List.mem_cons] at hv
        rcases hv with hv | hv | rfl | hv
        · exact absurd hv e
        · exact s2.to v (by simp [hv])
        · exact s.to v (by simp)
        · exact s.to v (by simp [hv])
    · intro v hv x hx
      simp only [List.mem_append,List.mem_cons] at hv
      rcases hv with hv | rfl | hv
      · rcases s2.ed v hv x hx with h1 | ⟨i,h1,h2⟩
        · exact Or.inl h1
        · exact Or.inr ⟨i,h1,Nat.le_trans hmin h2⟩
      · obtain ⟨j,hj1,hj2⟩:=List.getElem_of_mem hx
        rcases s.en j x (by omega) (by rw [List.getElem?_eq_getElem hj1,hj2]) with h1 | ⟨i,h1,h2⟩
        · exact Or.inl h1
        · exact Or.inr ⟨i,h1,Nat.le_trans hmin2 h2⟩
      · rcases s.ed v hv x hx with h1 | ⟨i,h1,h2⟩
        · exact Or.inl h1
        · exact Or.inr ⟨i,h1,Nat.le_trans hmin2 h2⟩
    · intro j x hj hx
      rcases s2.en j x hj hx with h1 | ⟨i,h1,h2⟩
      · exact Or.inl h1
      · exact Or.inr ⟨i,h1,Nat.le_trans hmin h2⟩
  · intro v hv
    rw [ho]
    by_cases e:v = u
    · subst e
      rw [upd_same]
      have h1:v∈opOf ((n,k,r) :: (v,ku,ru) :: t) ++ gs.flatten:=by simp [opOf]
      constructor
      · intro h2; omega
      · intro h2; exact absurd h1 h2
    · rw [hlow v e]; exact h.un v hv
  · intro v hv
    rw [hlow v fun e=>y5 (e ▸ hv)]
    exact h.dn v hv
end Go.V.Dig
set_option linter.unusedVariables false
set_option maxRecDepth 4000
namespace Go.V.Dig
variable {E:Nat→List Nat} {N:Nat} {low:Nat→Nat} {S t:List Sc} {gs:List (List Nat)}
theorem Inv.lowu {n k u ku:Nat} {r ru:List Nat} (h:Inv E N low ((n,k,r) :: (u,ku,ru) :: t) gs) (hl:low n = (opOf ((u,ku,ru) :: t)).length + 1):min (low u) (low n) = low u:=by
  obtain ⟨s,hu,s2,hu2,ht⟩:=h.ok
  have:=s2.top
  rw [mem_opOf_len] at hl
  omega
theorem Inv.pop {n k:Nat} {r:List Nat} (h:Inv E N low ((n,k,r) :: t) gs) (hk:k = (E n).length) (hl:low n = (opOf t).length + 1) :
    Inv E N (fun v=>if v∈n :: r then N + 1 else low v) t (gs ++ [n :: r]):=by
  obtain ⟨s,hu,ht⟩:=h.ok
  have hnd:=h.nd
  simp only [opOf,List.nodup_append,List.mem_append] at hnd
  obtain ⟨⟨h1,h2,h3⟩,h4,h5⟩:=hnd
  have hop:opOf ((n,k,r) :: t) = opOf t ++ n :: r:=rfl
  have hin:∀ (i m:Nat),(opOf ((n,k,r) :: t))[i]? = some m→low n≤i + 1→m∈n :: r:=by
    intro i m hi hle
    rw [hop,List.getElem?_append_right (by omega)] at hi
    exact List.mem_of_getElem? hi
  have back:∀ p:Nat,∀ i:Nat,i < p→∀ v:Nat,v∈n :: r→(opOf ((n,k,r) :: t))[i]? = some v→Rc E v n:=by
    intro p
    induction p with
    | zero=>intro i hi; omega
    | succ p ih =>
      intro i hi v hv hiv
      rcases List.mem_cons.1 hv with rfl | hr
      · exact .refl _
      · have a1:=s.at_ v hr i hiv
        have a2:=s.lo v hr
        obtain ⟨u,b1,b2⟩:=s.to v hv
        have a3:=s.pos v hv
        exact b2.trans (ih (low v - 1) (by omega) u (hin _ u b1 (by omega)) b1)
  have back:∀ v∈n :: r,Rc E v n:=by
    intro v hv
    obtain ⟨i,hi1,hi2⟩:=List.getElem_of_mem (show v∈opOf ((n,k,r) :: t) by rw [hop]; exact List.mem_append_right _ hv)
    exact back (i + 1) i (by omega) v hv (by rw [List.getElem?_eq_getElem hi1,hi2])
  have fwd:∀ v∈n :: r,Rc E n v:=by
    intro v hv
    rcases List.mem_cons.1 hv with rfl | hr
    · exact .refl _
    · exact s.rc v hr
  have hg:Good E (gs ++ [n :: r]):=by
    refine h.good.snoc (by simp) h2 (fun a ha hb=>h5 a (Or.inr ha) a hb rfl) (fun a ha b hb=>(back a ha).trans (fwd b hb)) ?_
    intro a ha b hb
    rcases List.mem_cons.1 ha with rfl | hr
    · obtain ⟨j,hj1,hj2⟩:=List.getElem_of_mem hb
      rcases s.en j b (by omega) (by rw [List.getElem?_eq_getElem hj1,hj2]) with h1 | ⟨i,h1,h2⟩
      · exact Or.inr h1
      · exact Or.inl (hin i b h1 h2)
    · rcases s.ed a hr b hb with h1 | ⟨i,h1,h2⟩
      · exact Or.inr h1
      · exact Or.inl (hin i b h1 h2)
  have hdis:∀ v∈opOf t,v∉n :: r:=fun v hv e=>h3 v hv v e rfl
  have hfl:∀ v,v∈(gs ++ [n :: r]).flatten↔v∈gs.flatten∨v∈n :: r:=by intro v; rw [List.flatten_append,List.mem_append,List.flatten_singleton]
  have hmono:=OK.mono (low':=fun v=>if v∈n :: r then N + 1 else low v) (op':=opOf t) (D':=(·∈(gs ++ [n :: r]).flatten)) _ ht
    (fun v hv=>by simp only [if_neg (hdis v hv)])
    (fun i v hi=>by
      by_cases hb:i < (opOf t).length
      · rw [hop,List.getElem?_append_left hb] at hi
        exact Or.inl hi
      · rw [hop,List.getElem?_append_right (by omega)] at hi
        exact Or.inr ((hfl v).2 (Or.inr (List.mem_of_getElem? hi))))
    (fun i v hi _=>by
      rw [hop,List.getElem?_append_left (List.getElem?_eq_some_iff.1 hi).1]
      exact hi)
    (fun i hi=>by rw [hop,List.getElem?_append_left hi]) h.ndo (fun v hv=>(hfl v).2 (Or.inl hv))
    (fun i hi=>by rw [hop,List.getElem?_append_left hi])
  refine ⟨hmono,?_,?_,?_,?_,hg⟩
  · rw [List.nodup_append]
    refine ⟨h1,hg.1,?_⟩
    intro a ha b hb e
    subst e
    rcases (hfl a).1 hb with hb | hb
    · exact h5 a (Or.inl ha) a hb rfl
    · exact hdis a ha hb
  · intro v hv
    rw [List.mem_append,hfl] at hv
    refine h.lt v ?_
    rw [hop,List.mem_append,List.mem_append]
    rcases hv with hv | hv | hv
    · exact Or.inl (Or.inl hv)
    · exact Or.inr hv
    · exact Or.inl (Or.inr hv)
  · intro v hv
    rw [List.mem_append,hfl]
    by_cases e:v∈n :: r
    · simp only [if_pos e]
      constructor
      · intro h; omega
      · intro h; exact absurd (Or.inr (Or.inr e)) h
    · simp only [if_neg e]
      rw [h.un v hv,hop,List.mem_append,List.mem_append]
      constructor
      · intro a b
        rcases b with b | b | b
        · exact a (Or.inl (Or.inl b))
        · exact a (Or.inr b)
        · exact e b
      · intro a b
        rcases b with (b | b) | b
        · exact a (Or.inl b)
        · exact e b
        · exact a (Or.inr (Or.inl b))
  · intro v hv
    rcases (hfl v).1 hv with hv | hv
    · by_cases e:v∈n :: r
      · simp only [if_pos e]
      · simp only [if_neg e]; exact h.dn v hv
    · simp only [if_pos hv]
theorem Inv.start (E:Nat→List Nat) (N:Nat):Inv E N (fun _=>0) [] []:=⟨trivial,by simp [opOf],by simp [opOf],by simp [opOf],by simp,Good.nil E⟩
def todo (E:Nat→List Nat) (N:Nat) (low:Nat→Nat) (S:List Sc):Nat :=
  ((List.range N).map fun v=>if low v = 0 then (E v).length + 2 else 0).sum + (S.map fun s=>(E s.1).length + 1 - s.2.1).sum
theorem sum_le {l:List Nat} {f g:Nat→Nat} (h:∀ v∈l,f v≤g v):(l.map f).sum≤(l.map g).sum:=by
  induction l with
  | nil=>simp
  | cons a l ih =>
    have h1:=h a (by simp)
    have h2:=ih fun v hv=>h v (by simp [hv])
    simp only [List.map_cons,List.sum_cons]; omega
theorem sum_lt {l:List Nat} {f g:Nat→Nat} (h:∀ v∈l,f v≤g v) {a d:Nat} (ha:a∈l) (hd:f a + d≤g a):(l.map f).sum + d≤(l.map g).sum:=by
  induction l with
  | nil=>simp at ha
  | cons b l ih =>
    simp only [List.map_cons,List.sum_cons]
    rcases List.mem_cons.1 ha with rfl | ha
    · have:=sum_le (l:=l) fun v hv=>h v (by simp [hv])
      omega
    · have h1:=h b (by simp)
      have h2:=ih (fun v hv=>h v (by simp [hv])) ha
      omega
theorem todo_push {n k m:Nat} {r:List Nat} (h:Inv E N low ((n,k,r) :: t) gs) (hk:(E n)[k]? = some m) (hm:m < N) (h0:low m = 0) (x:Nat) (hx:x≠0) :
    todo E N (upd low m x) ((m,0,[]) :: (n,k + 1,r) :: t) < todo E N low ((n,k,r) :: t):=by
  have hle:k < (E n).length:=(List.getElem?_eq_some_iff.1 hk).1
  have:=sum_lt (l:=List.range N) (f:=fun v=>if upd low m x v = 0 then (E v).length + 2 else 0) (g:=fun v=>if low v = 0 then (E v).length + 2 else 0) (a:=m) (d:=(E m).length + 2)
    (fun v _=>by
      by_cases e:v = m
      · subst e; simp [upd_same,hx]
      · rw [upd_ne e]; exact Nat.le_refl _) (List.mem_range.2 hm) (by simp [upd_same,hx,h0])
  unfold todo
  simp only [List.map_cons,List.sum_cons]
  omega
theorem todo_same {low' : Nat→Nat} (h:∀ v,v < N→(low' v = 0↔low v = 0)):((List.range N).map fun v=>if low' v = 0 then (E v).length + 2 else 0).sum = ((List.range N).map fun v=>if low v = 0 then (E v).length + 2 else 0).sum:=by
  congr 1
  refine List.map_congr_left fun v hv=>?_
  have:=h v (List.mem_range.1 hv)
  by_cases e:low v = 0
  · simp [e,this.2 e]
  · simp [e,mt this.1 e]
end Go.V.Dig
set_option linter.unusedVariables false
namespace Go.Proofs.YtndaepmjkbmjmaaGreatDoor
open Go.V
abbrev n_look_Sets:FuncId:=27
def ann_look_Sets:Ann:={ rngs:=[],loops:=[(9,[(7,(.one .slice)),(31,(.one (.int .i64)))]),(13,[(42,(.one (.int .i64)))])],joins:=[],blocks:=[] }
set_option maxRecDepth 100000 in
def vc_look_Sets (a:Option Addr) (b c:Nat) (d:Option Addr) (e f:Nat) (g:Option Addr) (i j:Nat) (k:Int) (l:Option Addr) (m n:Nat) (w:World) (R:Value→WP):Prop :=  new w (oC [vS a b c,vS d e f,vS g i j,iI k,vS l m n] 27) fun k1 w1=>∃ o1 k2 k3 o2 k4 k5 o3 k6 k7 n1 o4 k8 k9,V.rowAt w1 (aM k1) 0 5 = some [vS o1 k2 k3,vS o2 k4 k5,vS o3 k6 k7,iI n1,vS o4 k8 k9]∧RunE Proofs.Tryz.prog Ev 57 [vA (Array.mk [vS o1 k2 k3,vS o2 k4 k5,vS o3 k6 k7,iI n1,vS o4 k8 k9])] w1 fun v1 w2=>∃ o5 k10 k11 n2,v1 = vT (Array.mk [vS o5 k10 k11,iI n2])∧br (n2 != 0) (R (vT (Array.mk [vS none 0 0,iI n2])) w2) (∃ o6 k12 k13 o7 k14 k15 o8 k16 k17 n3 o9 k18 k19,V.rowAt w2 (aM k1) 0 5 = some [vS o6 k12 k13,vS o7 k14 k15,vS o8 k16 k17,iI n3,vS o9 k18 k19]∧RunE Proofs.Tryz.prog Ev 58 [vA (Array.mk [vS o6 k12 k13,vS o7 k14 k15,vS o8 k16 k17,iI n3,vS o9 k18 k19])] w2 fun v2 w3=>∃ o10 k20 k21 n4,v2 = vT (Array.mk [vS o10 k20 k21,iI n4])∧br (n4 != 0) (R (vT (Array.mk [vS none 0 0,iI n4])) w3) (∃ (x1:lP [(7,shS),(31,shI)]),∃ (x2:lN [(7,shS),(31,shI)]),x1 none 0 0 0 w3∧∀ (I1:Nat→Value) (o11:Option Addr) (k22 k23:Nat) (n5:Int) (w4:World),x1 o11 k22 k23 n5 w4→br (decide (n5 < (↑k20:Int))) (idx o10 k20 n5 3 fun a1=>∃ n6 n7 o12 k24 k25,V.rowAt w4 a1 0 3 = some [iI n6,iI n7,vS o12 k24 k25]∧new w4 (oC [iI 0,iI 0,vS none 0 0] 117) fun k26 w5=>stR w5 (aM k26) [iI n6,iI n7,vS o12 k24 k25] fun w6=>∃ o13 k27 k28,World.cell? w6 (aM k1) = some (vS o13 k27 k28)∧RunE Proofs.Tryz.prog Ev 59 [iI (↑k27:Int),vS none 0 0] w6 fun v3 w7=>∃ o14,v3 = vP o14∧∃ o15 k29 k30,World.cell? w7 (Addr.add (aM k26) 2) = some (vS o15 k29 k30)∧∃ (x3:lP [(42,shI)]),∃ (x4:lN [(42,shI)]),x3 0 w7∧∀ (I2:Nat→Value) (n8:Int) (w8:World),x3 n8 w8→br (decide (n8 < (↑k29:Int))) (idx o15 k29 n8 1 fun a2=>∃ n9,World.cell? w8 a2 = some (iI n9)∧idx o5 k10 n9 1 fun a3=>∃ o16 k31 k32,World.cell? w8 a3 = some (vS o16 k31 k32)∧RunE Proofs.Tryz.prog Ev 60 [vP o14,vS o16 k31 k32] w8 fun v4 w9=>∃ n10,v4 = iI n10∧inI (n8 + 1)∧x3 (n8 + 1) w9∧x4 (n8 + 1) w9 < x4 n8 w8) (∀ w10,drawn w8 w10→∃ (I3:World→Prop),I3 w10∧∃ n11,(∀ w11,I3 w11→World.cell? w11 (aM k26) = some (iI n11))∧∃ n12,(∀ w12,I3 w12→World.cell? w12 (Addr.add (aM k26) 1) = some (iI n12))∧RunE Proofs.Tryz.prog Ev 61 [vP o14] w10 fun v5 w13=>∃ o17 k33 k34,v5 = vS o17 k33 k34∧I3 w13∧new w13 (oC [iI n11,iI n12,vS o17 k33 k34] 58) fun k35 w14=>I3 w14∧RunS Proofs.Tryz.prog (apB 48 (Array.mk [vS o11 k22 k23,vS (some (aM k35)) 1 1])) w14 fun v6 w15=>∃ o18 k36 k37,v6 = vS o18 k36 k37∧I3 w15∧inI (n5 + 1)∧x1 o18 k36 k37 (n5 + 1) w15∧x2 o18 k36 k37 (n5 + 1) w15 < x2 o11 k22 k23 n5 w4)) (RunE Proofs.Tryz.prog Ev 62 [vS o11 k22 k23] w4 fun v7 w16=>∃ o19 k38 k39,v7 = vS o19 k38 k39∧R (vT (Array.mk [vS o19 k38 k39,iI 0])) w16)))
set_option maxRecDepth 100000 in
theorem run_look_Sets (a:Option Addr) (b c:Nat) (d:Option Addr) (e f:Nat) (g:Option Addr) (i j:Nat) (k:Int) (l:Option Addr) (m n:Nat) (w:World) (R:Value→WP) (h:vc_look_Sets a b c d e f g i j k l m n w R):Run Tryz.prog 27 [(.agg #[(.slice a b c),(.slice d e f),(.slice g i j),(.int .i64 k),(.slice l m n)])] w R:=rv Tryz.func27 ann_look_Sets (by kernel_rfl) h

abbrev n_look_Following:FuncId:=57
def ann_look_Following:Ann:={ rngs:=[],loops:=[],joins:=[],blocks:=[] }
set_option maxRecDepth 100000 in
def vc_look_Following (a:Option Addr) (b c:Nat) (d:Option Addr) (e f:Nat) (g:Option Addr) (i j:Nat) (k:Int) (l:Option Addr) (m n:Nat) (w:World) (R:Value→WP):Prop :=  new w (oC [vS a b c,vS d e f,vS g i j,iI k,vS l m n] 27) fun k1 w1=>∀ w2,drawn w1 w2→∃ (I1:World→Prop),I1 w2∧∃ o1 k2 k3 o2 k4 k5 o3 k6 k7 n1 o4 k8 k9,(∀ w3,I1 w3→V.rowAt w3 (aM k1) 0 5 = some [vS o1 k2 k3,vS o2 k4 k5,vS o3 k6 k7,iI n1,vS o4 k8 k9])∧RunE Proofs.Tryz.prog Ev 102 [] w2 fun v1 w4=>∃ o5 k10 k11,v1 = vS o5 k10 k11∧∃ (I2:World→Prop),I2 w4∧(∀ w5,I2 w5→I1 w5)∧idx o5 k10 1 2 fun a1=>∃ g1 x1 g2 x2,(∀ w6,I2 w6→V.rowAt w6 a1 0 2 = some [Value.func (Fn.func g1) (Array.mk []) (Array.mk x1),Value.func (Fn.func g2) (Array.mk []) (Array.mk x2)])∧RunE Proofs.Tryz.prog Ev 103 [vA (Array.mk [Value.func (Fn.func g1) (Array.mk []) (Array.mk x1),Value.func (Fn.func g2) (Array.mk []) (Array.mk x2)]),vA (Array.mk [vS o1 k2 k3,vS o2 k4 k5,vS o3 k6 k7,iI n1,vS o4 k8 k9])] w4 fun v2 w7=>∃ o6 k12 k13 n2,v2 = vT (Array.mk [vS o6 k12 k13,iI n2])∧I2 w7∧R (vT (Array.mk [vS o6 k12 k13,iI n2])) w7
set_option maxRecDepth 100000 in
theorem run_look_Following (a:Option Addr) (b c:Nat) (d:Option Addr) (e f:Nat) (g:Option Addr) (i j:Nat) (k:Int) (l:Option Addr) (m n:Nat) (w:World) (R:Value→WP) (h:vc_look_Following a b c d e f g i j k l m n w R):Run Tryz.prog 57 [(.agg #[(.slice a b c),(.slice d e f),(.slice g i j),(.int .i64 k),(.slice l m n)])] w R:=rv Tryz.func57 ann_look_Following (by kernel_rfl) h

def ann_slices_Clip_api_Look_api_Look_:Ann:={ rngs:=[],loops:=[],joins:=[],blocks:=[] }
set_option maxRecDepth 100000 in
def vc_slices_Clip_api_Look_api_Look_ (a:Option Addr) (b c:Nat) (w:World) (R:Value→WP):Prop :=  slc a b c none (some (↑b:Int)) (some (↑b:Int)) 3 fun (o1:Option Addr) (k1 k2:Nat)=>R (vS o1 k1 k2) w
set_option maxRecDepth 100000 in
theorem run_slices_Clip_api_Look_api_Look_ (a:Option Addr) (b c:Nat) (w:World) (R:Value→WP) (h:vc_slices_Clip_api_Look_api_Look_ a b c w R):Run Tryz.prog 62 [(.slice a b c)] w R:=rv Tryz.func62 ann_slices_Clip_api_Look_api_Look_ (by kernel_rfl) h

abbrev n_look_relations:FuncId:=102
def ann_look_relations:Ann:={ rngs:=[],loops:=[],joins:=[],blocks:=[] }
set_option maxRecDepth 100000 in
def vc_look_relations  (w:World) (R:Value→WP):Prop :=  new w (oC [Value.func (Fn.func 158) (Array.mk []) (Array.mk []),Value.func (Fn.func 159) (Array.mk []) (Array.mk []),Value.func (Fn.func 160) (Array.mk []) (Array.mk []),Value.func (Fn.func 161) (Array.mk []) (Array.mk [])] 172) fun k1 w1=>R (vS (some (aM k1)) 2 2) w1
set_option maxRecDepth 100000 in
theorem run_look_relations  (w:World) (R:Value→WP) (h:vc_look_relations  w R):Run Tryz.prog 102 [] w R:=rv Tryz.func102 ann_look_relations (by kernel_rfl) h

abbrev n_look_relation_solved:FuncId:=103
def ann_look_relation_solved:Ann:={ rngs:=[],loops:=[],joins:=[],blocks:=[] }
set_option maxRecDepth 100000 in
def vc_look_relation_solved (a:FuncId) (b:List Value) (c:FuncId) (d:List Value) (e:Option Addr) (f g:Nat) (i:Option Addr) (j k:Nat) (l:Option Addr) (m n:Nat) (o:Int) (p:Option Addr) (q s:Nat) (w:World) (R:Value→WP):Prop :=  new w (oC [Value.func (Fn.func a) (Array.mk []) (Array.mk b),Value.func (Fn.func c) (Array.mk []) (Array.mk d)] 172) fun k1 w1=>new w1 (oC [vS e f g,vS i j k,vS l m n,iI o,vS p q s] 27) fun k2 w2=>∃ g1 x1,World.cell? w2 (aM k1) = some (Value.func (Fn.func g1) (Array.mk []) (Array.mk x1))∧∃ o1 k3 k4 o2 k5 k6 o3 k7 k8 n1 o4 k9 k10,V.rowAt w2 (aM k2) 0 5 = some [vS o1 k3 k4,vS o2 k5 k6,vS o3 k7 k8,iI n1,vS o4 k9 k10]∧ifT (Proofs.YtndaepmjkbmjmaaGreatDoor.Fn g1) (RunE Proofs.Tryz.prog Ev g1 (vA (Array.mk [vS o1 k3 k4,vS o2 k5 k6,vS o3 k7 k8,iI n1,vS o4 k9 k10]) :: x1) w2 fun v1 w3=>∃ o5 k11 k12 n2,v1 = vT (Array.mk [vS o5 k11 k12,iI n2])∧br (n2 != 0) (R (vT (Array.mk [vS none 0 0,iI n2])) w3) (∃ g2 x2,World.cell? w3 (Addr.add (aM k1) 1) = some (Value.func (Fn.func g2) (Array.mk []) (Array.mk x2))∧∃ o6 k13 k14 o7 k15 k16 o8 k17 k18 n3 o9 k19 k20,V.rowAt w3 (aM k2) 0 5 = some [vS o6 k13 k14,vS o7 k15 k16,vS o8 k17 k18,iI n3,vS o9 k19 k20]∧ifT (Proofs.YtndaepmjkbmjmaaGreatDoor.Fn g2) (RunE Proofs.Tryz.prog Ev g2 (vA (Array.mk [vS o6 k13 k14,vS o7 k15 k16,vS o8 k17 k18,iI n3,vS o9 k19 k20]) :: x2) w3 fun v2 w4=>∃ o10 k21 k22 n4,v2 = vT (Array.mk [vS o10 k21 k22,iI n4])∧br (n4 != 0) (R (vT (Array.mk [vS none 0 0,iI n4])) w4) (RunE Proofs.Tryz.prog Ev 162 [vS o10 k21 k22,vS o5 k11 k12] w4 fun v3 w5=>∃ o11 k23 k24 n5,v3 = vT (Array.mk [vS o11 k23 k24,iI n5])∧R (vT (Array.mk [vS o11 k23 k24,iI n5])) w5))))
set_option maxRecDepth 100000 in
theorem run_look_relation_solved (a:FuncId) (b:List Value) (c:FuncId) (d:List Value) (e:Option Addr) (f g:Nat) (i:Option Addr) (j k:Nat) (l:Option Addr) (m n:Nat) (o:Int) (p:Option Addr) (q s:Nat) (w:World) (R:Value→WP) (h:vc_look_relation_solved a b c d e f g i j k l m n o p q s w R):Run Tryz.prog 103 [(.agg #[(.func (.func a) #[] ⟨b⟩),(.func (.func c) #[] ⟨d⟩)]),(.agg #[(.slice e f g),(.slice i j k),(.slice l m n),(.int .i64 o),(.slice p q s)])] w R:=rv Tryz.func103 ann_look_relation_solved (by kernel_rfl) h

abbrev n_look_Reading:FuncId:=160
def ann_look_Reading:Ann:={ rngs:=[],loops:=[],joins:=[],blocks:=[] }
set_option maxRecDepth 100000 in
def vc_look_Reading (a:Option Addr) (b c:Nat) (d:Option Addr) (e f:Nat) (g:Option Addr) (i j:Nat) (k:Int) (l:Option Addr) (m n:Nat) (w:World) (R:Value→WP):Prop :=  new w (oC [vS a b c,vS d e f,vS g i j,iI k,vS l m n] 27) fun k1 w1=>∀ w2,drawn w1 w2→∃ (I1:World→Prop),I1 w2∧∃ o1 k2 k3 o2 k4 k5 o3 k6 k7 n1 o4 k8 k9,(∀ w3,I1 w3→V.rowAt w3 (aM k1) 0 5 = some [vS o1 k2 k3,vS o2 k4 k5,vS o3 k6 k7,iI n1,vS o4 k8 k9])∧RunE Proofs.Tryz.prog Ev 102 [] w2 fun v1 w4=>∃ o5 k10 k11,v1 = vS o5 k10 k11∧∃ (I2:World→Prop),I2 w4∧(∀ w5,I2 w5→I1 w5)∧idx o5 k10 0 2 fun a1=>∃ g1 x1 g2 x2,(∀ w6,I2 w6→V.rowAt w6 a1 0 2 = some [Value.func (Fn.func g1) (Array.mk []) (Array.mk x1),Value.func (Fn.func g2) (Array.mk []) (Array.mk x2)])∧RunE Proofs.Tryz.prog Ev 103 [vA (Array.mk [Value.func (Fn.func g1) (Array.mk []) (Array.mk x1),Value.func (Fn.func g2) (Array.mk []) (Array.mk x2)]),vA (Array.mk [vS o1 k2 k3,vS o2 k4 k5,vS o3 k6 k7,iI n1,vS o4 k8 k9])] w4 fun v2 w7=>∃ o6 k12 k13 n2,v2 = vT (Array.mk [vS o6 k12 k13,iI n2])∧I2 w7∧R (vT (Array.mk [vS o6 k12 k13,iI n2])) w7
set_option maxRecDepth 100000 in
theorem run_look_Reading (a:Option Addr) (b c:Nat) (d:Option Addr) (e f:Nat) (g:Option Addr) (i j:Nat) (k:Int) (l:Option Addr) (m n:Nat) (w:World) (R:Value→WP) (h:vc_look_Reading a b c d e f g i j k l m n w R):Run Tryz.prog 160 [(.agg #[(.slice a b c),(.slice d e f),(.slice g i j),(.int .i64 k),(.slice l m n)])] w R:=rv Tryz.func160 ann_look_Reading (by kernel_rfl) h

abbrev n_digraph_Solve:FuncId:=162
def ann_digraph_Solve:Ann:={ rngs:=[],loops:=[(4,[(22,(.one (.int .i64)))])],joins:=[(2,[(19,(.one .bool))])],blocks:=[] }
set_option maxRecDepth 100000 in
def vc_digraph_Solve (a:Option Addr) (b c:Nat) (d:Option Addr) (e f:Nat) (w:World) (R:Value→WP):Prop :=  new w (oC [vS a b c] 71) fun k1 w1=>new w1 (oC [vS d e f] 71) fun k2 w2=>∃ (x1:lP [(19,shB)]),(∃ o1 k3 k4,World.cell? w2 (aM k1) = some (vS o1 k3 k4)∧RunE Proofs.Tryz.prog Ev 208 [vS o1 k3 k4] w2 fun v1 w3=>∃ b1,v1 = vB b1∧br (!b1) (x1 true w3) (∃ o2 k5 k6,World.cell? w3 (aM k2) = some (vS o2 k5 k6)∧∃ o3 k7 k8,World.cell? w3 (aM k1) = some (vS o3 k7 k8)∧x1 ((↑k5:Int) != (↑k7:Int)) w3))∧∀ (I1:Nat→Value) (b2:Bool) (w4:World),x1 b2 w4→br b2 (R (vT (Array.mk [vS none 0 0,iI 1])) w4) (∃ o4 k9 k10,World.cell? w4 (aM k2) = some (vS o4 k9 k10)∧∃ (x2:lP [(22,shI)]),∃ (x3:lN [(22,shI)]),x2 0 w4∧∀ (I2:Nat→Value) (n1:Int) (w5:World),x2 n1 w5→br (decide (n1 < (↑k9:Int))) (idx o4 k9 n1 1 fun a1=>∃ o5 k11 k12,World.cell? w5 a1 = some (vS o5 k11 k12)∧RunE Proofs.Tryz.prog Ev 209 [vS o5 k11 k12,Value.func (Fn.func 210) (Array.mk []) (Array.mk [])] w5 fun v2 w6=>∃ b3,v2 = vB b3∧br b3 (R (vT (Array.mk [vS none 0 0,iI 1])) w6) (inI (n1 + 1)∧x2 (n1 + 1) w6∧x3 (n1 + 1) w6 < x3 n1 w5)) (∃ o6 k13 k14,World.cell? w5 (aM k1) = some (vS o6 k13 k14)∧mkOk (↑k13:Int) (↑k13:Int) 8∧new w5 (Obj.cells (Array.mk (reps (Int.toNat (↑k13:Int)) [vP none])) 118) fun k15 w7=>new w7 (oC [vS none 0 0] 286) fun k16 w8=>st1 w8 (aM k16) (vS (some (aM k15)) (Int.toNat (↑k13:Int)) (Int.toNat (↑k13:Int))) fun w9=>∃ o7 k17 k18,World.cell? w9 (aM k1) = some (vS o7 k17 k18)∧mkOk (↑k17:Int) (↑k17:Int) 24∧new w9 (Obj.cells (Array.mk (reps (Int.toNat (↑k17:Int)) [vS none 0 0])) 24) fun k19 w10=>new w10 (oC [vS none 0 0] 71) fun k20 w11=>st1 w11 (aM k20) (vS (some (aM k19)) (Int.toNat (↑k17:Int)) (Int.toNat (↑k17:Int))) fun w12=>∃ o8 k21 k22,World.cell? w12 (aM k1) = some (vS o8 k21 k22)∧RunE Proofs.Tryz.prog Ev 211 [vS o8 k21 k22,Value.func (Fn.func 212) (Array.mk []) (Array.mk [vP (some (aM k16)),vP (some (aM k2)),vP (some (aM k1)),vP (some (aM k20))])] w12 fun v3 w13=>v3 = vT (Array.mk [])∧∃ o9 k23 k24,World.cell? w13 (aM k20) = some (vS o9 k23 k24)∧R (vT (Array.mk [vS o9 k23 k24,iI 0])) w13))
set_option maxRecDepth 100000 in
theorem run_digraph_Solve (a:Option Addr) (b c:Nat) (d:Option Addr) (e f:Nat) (w:World) (R:Value→WP) (h:vc_digraph_Solve a b c d e f w R):Run Tryz.prog 162 [(.slice a b c),(.slice d e f)] w R:=rv Tryz.func162 ann_digraph_Solve (by kernel_rfl) h

abbrev n_digraph_right:FuncId:=208
def ann_digraph_right:Ann:={ rngs:=[],loops:=[],joins:=[],blocks:=[] }
set_option maxRecDepth 100000 in
def vc_digraph_right (a:Option Addr) (b c:Nat) (w:World) (R:Value→WP):Prop :=  new w (oC [vS a b c] 71) fun k1 w1=>∃ o1 k2 k3,World.cell? w1 (aM k1) = some (vS o1 k2 k3)∧RunE Proofs.Tryz.prog Ev 242 [vS o1 k2 k3,Value.func (Fn.func 243) (Array.mk []) (Array.mk [vP (some (aM k1))])] w1 fun v1 w2=>∃ b1,v1 = vB b1∧R (vB !b1) w2
set_option maxRecDepth 100000 in
theorem run_digraph_right (a:Option Addr) (b c:Nat) (w:World) (R:Value→WP) (h:vc_digraph_right a b c w R):Run Tryz.prog 208 [(.slice a b c)] w R:=rv Tryz.func208 ann_digraph_right (by kernel_rfl) h

abbrev n_digraph_Solve_S1:FuncId:=210
def ann_digraph_Solve_S1:Ann:={ rngs:=[],loops:=[],joins:=[],blocks:=[] }
set_option maxRecDepth 100000 in
def vc_digraph_Solve_S1 (a:Int) (w:World) (R:Value→WP):Prop :=  br (decide (a < 0)) (R (vB true) w) (R (vB (decide (1024≤a))) w)
set_option maxRecDepth 100000 in
theorem run_digraph_Solve_S1 (a:Int) (w:World) (R:Value→WP) (h:vc_digraph_Solve_S1 a w R):Run Tryz.prog 210 [(.int .i64 a)] w R:=rv Tryz.func210 ann_digraph_Solve_S1 (by kernel_rfl) h

abbrev n_digraph_each:FuncId:=211
def ann_digraph_each:Ann:={ rngs:=[],loops:=[(5,[(26,(.one (.int .i64)))]),(12,[]),(14,[]),(30,[(170,(.one (.int .i64)))])],joins:=[(26,[])],blocks:=[] }
set_option maxRecDepth 100000 in
def vc_digraph_each (a:Option Addr) (b c:Nat) (d:FuncId) (e:List Value) (w:World) (R:Value→WP):Prop :=  mkOk (↑b:Int) (↑b:Int) 8∧new w (Obj.cells (Array.mk (reps (Int.toNat (↑b:Int)) [iI 0])) 3) fun k1 w1=>new w1 (oC [vS none 0 0] 24) fun k2 w2=>st1 w2 (aM k2) (vS (some (aM k1)) (Int.toNat (↑b:Int)) (Int.toNat (↑b:Int))) fun w3=>inI ((↑b:Int) + 1)∧new w3 (oC [vS none 0 0] 24) fun k3 w4=>new w4 (oC [vS none 0 0] 318) fun k4 w5=>∃ (x1:lP [(26,shI)]),∃ (x2:lN [(26,shI)]),x1 0 w5∧∀ (I1:Nat→Value) (n1:Int) (w6:World),x1 n1 w6→br (decide (n1 < (↑b:Int))) (∃ o1 k5 k6,World.cell? w6 (aM k2) = some (vS o1 k5 k6)∧idx o1 k5 n1 1 fun a1=>∃ n2,World.cell? w6 a1 = some (iI n2)∧br (decide (0 < n2)) (inI (n1 + 1)∧x1 (n1 + 1) w6∧x2 (n1 + 1) w6 < x2 n1 w6) (new w6 (Obj.map (Array.mk []) 0) fun k7 w7=>∃ o2 k8 k9,World.cell? w7 (aM k3) = some (vS o2 k8 k9)∧inI ((↑k8:Int) + 1)∧RunS Proofs.Tryz.prog (Instr.mapUpdate 226 (Value.map (some k7)) (iI n1) (iI ((↑k8:Int) + 1))) w7 fun (x3:Unit) (w8:World)=>RunE Proofs.Tryz.prog Ev 246 [iI n1,vP (some (aM k3)),vP (some (aM k2)),vP (some (aM k4))] w8 fun v1 w9=>v1 = vT (Array.mk [])∧∃ (x4:lP []),∃ (x5:lN []),x4 w9∧∀ (I2:Nat→Value) (w10:World),x4 w10→∃ o3 k10 k11,World.cell? w10 (aM k4) = some (vS o3 k10 k11)∧br (decide (0 < (↑k10:Int))) (∃ o4 k12 k13,World.cell? w10 (aM k4) = some (vS o4 k12 k13)∧∃ o5 k14 k15,World.cell? w10 (aM k4) = some (vS o5 k14 k15)∧inI ((↑k14:Int) - 1)∧idx o4 k12 ((↑k14:Int) - 1) 2 fun a2=>∃ (x6:lP []),∃ (x7:lN []),x6 w10∧∀ (I3:Nat→Value) (w11:World),x6 w11→∀ w12,drawn w11 w12→∃ (I4:World→Prop),I4 w12∧∃ n3,(∀ w13,I4 w13→World.cell? w13 (Addr.add a2 1) = some (iI n3))∧∃ n4,(∀ w14,I4 w14→World.cell? w14 a2 = some (iI n4))∧idx a b n4 1 fun a3=>∃ o6 k16 k17,(∀ w15,I4 w15→World.cell? w15 a3 = some (vS o6 k16 k17))∧br (decide (n3 < (↑k16:Int))) (∀ w16,drawn w12 w16→∃ (I5:World→Prop),I5 w16∧∃ n5,(∀ w17,I5 w17→World.cell? w17 a2 = some (iI n5))∧idx a b n5 1 fun a4=>∃ o7 k18 k19,(∀ w18,I5 w18→World.cell? w18 a4 = some (vS o7 k18 k19))∧∃ n6,(∀ w19,I5 w19→World.cell? w19 (Addr.add a2 1) = some (iI n6))∧idx o7 k18 n6 1 fun a5=>∃ n7,(∀ w20,I5 w20→World.cell? w20 a5 = some (iI n7))∧∃ n8,World.cell? w16 (Addr.add a2 1) = some (iI n8)∧inI (n8 + 1)∧st1 w16 (Addr.add a2 1) (iI (n8 + 1)) fun w21=>∃ o8 k20 k21,World.cell? w21 (aM k2) = some (vS o8 k20 k21)∧idx o8 k20 n7 1 fun a6=>∃ n9,World.cell? w21 a6 = some (iI n9)∧br (n9 == 0) (∃ o9 k22 k23,World.cell? w21 (aM k3) = some (vS o9 k22 k23)∧inI ((↑k22:Int) + 1)∧RunS Proofs.Tryz.prog (Instr.mapUpdate 226 (Value.map (some k7)) (iI n7) (iI ((↑k22:Int) + 1))) w21 fun (x8:Unit) (w22:World)=>RunE Proofs.Tryz.prog Ev 246 [iI n7,vP (some (aM k3)),vP (some (aM k2)),vP (some (aM k4))] w22 fun v2 w23=>v2 = vT (Array.mk [])∧x4 w23∧x5 w23 < x5 w10) (∀ w24,drawn w21 w24→∃ (I6:World→Prop),I6 w24∧∃ o10 k24 k25,(∀ w25,I6 w25→World.cell? w25 (aM k2) = some (vS o10 k24 k25))∧∃ n10,(∀ w26,I6 w26→World.cell? w26 a2 = some (iI n10))∧∃ o11 k26 k27,(∀ w27,I6 w27→World.cell? w27 (aM k2) = some (vS o11 k26 k27))∧∃ n11,(∀ w28,I6 w28→World.cell? w28 a2 = some (iI n11))∧idx o11 k26 n11 1 fun a7=>∃ n12,(∀ w29,I6 w29→World.cell? w29 a7 = some (iI n12))∧∃ o12 k28 k29,(∀ w30,I6 w30→World.cell? w30 (aM k2) = some (vS o12 k28 k29))∧idx o12 k28 n7 1 fun a8=>∃ n13,(∀ w31,I6 w31→World.cell? w31 a8 = some (iI n13))∧idx o10 k24 n10 1 fun a9=>st1 w24 a9 (iI (if n13 < n12 then n13 else n12)) fun w32=>x6 w32∧x7 w32 < x7 w11)) (∃ n14,World.cell? w12 a2 = some (iI n14)∧∃ o13 k30 k31,World.cell? w12 (aM k4) = some (vS o13 k30 k31)∧∃ o14 k32 k33,World.cell? w12 (aM k4) = some (vS o14 k32 k33)∧inI ((↑k32:Int) - 1)∧slc o13 k30 k31 none (some ((↑k32:Int) - 1)) none 2 fun (o15:Option Addr) (k34 k35:Nat)=>st1 w12 (aM k4) (vS o15 k34 k35) fun w33=>∃ (x9:lP []),(∃ o16 k36 k37,World.cell? w33 (aM k4) = some (vS o16 k36 k37)∧br (decide (0 < (↑k36:Int))) (∃ o17 k38 k39,World.cell? w33 (aM k4) = some (vS o17 k38 k39)∧∃ o18 k40 k41,World.cell? w33 (aM k4) = some (vS o18 k40 k41)∧inI ((↑k40:Int) - 1)∧idx o17 k38 ((↑k40:Int) - 1) 2 fun a10=>∃ n15,World.cell? w33 a10 = some (iI n15)∧∀ w34,drawn w33 w34→∃ (I7:World→Prop),I7 w34∧∃ o19 k42 k43,(∀ w35,I7 w35→World.cell? w35 (aM k2) = some (vS o19 k42 k43))∧∃ o20 k44 k45,(∀ w36,I7 w36→World.cell? w36 (aM k2) = some (vS o20 k44 k45))∧idx o20 k44 n15 1 fun a11=>∃ n16,(∀ w37,I7 w37→World.cell? w37 a11 = some (iI n16))∧∃ o21 k46 k47,(∀ w38,I7 w38→World.cell? w38 (aM k2) = some (vS o21 k46 k47))∧idx o21 k46 n14 1 fun a12=>∃ n17,(∀ w39,I7 w39→World.cell? w39 a12 = some (iI n17))∧idx o19 k42 n15 1 fun a13=>st1 w34 a13 (iI (if n17 < n16 then n17 else n16)) fun w40=>x9 w40) (x9 w33))∧∀ (I8:Nat→Value) (w41:World),x9 w41→∀ w42,drawn w41 w42→∃ (I9:World→Prop),I9 w42∧∃ o22 k48 k49,(∀ w43,I9 w43→World.cell? w43 (aM k2) = some (vS o22 k48 k49))∧idx o22 k48 n14 1 fun a14=>∃ n18,(∀ w44,I9 w44→World.cell? w44 a14 = some (iI n18))∧RunS Proofs.Tryz.prog (Instr.lookup 226 (Value.map (some k7)) (iI n14) false) w42 fun v3 w45=>∃ n19,v3 = iI n19∧I9 w45∧br (n18 == n19) (∃ o23 k50 k51,World.cell? w45 (aM k3) = some (vS o23 k50 k51)∧RunS Proofs.Tryz.prog (Instr.lookup 226 (Value.map (some k7)) (iI n14) false) w45 fun v4 w46=>∃ n20,v4 = iI n20∧inI (n20 - 1)∧slc o23 k50 k51 (some (n20 - 1)) none none 1 fun (o24:Option Addr) (k52 k53:Nat)=>RunE Proofs.Tryz.prog Ev 214 [vS o24 k52 k53] w46 fun v5 w47=>∃ o25 k54 k55,v5 = vS o25 k54 k55∧∃ o26 k56 k57,World.cell? w47 (aM k3) = some (vS o26 k56 k57)∧RunS Proofs.Tryz.prog (Instr.lookup 226 (Value.map (some k7)) (iI n14) false) w47 fun v6 w48=>∃ n21,v6 = iI n21∧inI (n21 - 1)∧slc o26 k56 k57 none (some (n21 - 1)) none 1 fun (o27:Option Addr) (k58 k59:Nat)=>st1 w48 (aM k3) (vS o27 k58 k59) fun w49=>∃ (x10:lP [(170,shI)]),∃ (x11:lN [(170,shI)]),x10 0 w49∧∀ (I10:Nat→Value) (n22:Int) (w50:World),x10 n22 w50→br (decide (n22 < (↑k54:Int))) (idx o25 k54 n22 1 fun a15=>∃ n23,World.cell? w50 a15 = some (iI n23)∧∃ o28 k60 k61,World.cell? w50 (aM k2) = some (vS o28 k60 k61)∧idx o28 k60 n23 1 fun a16=>st1 w50 a16 (iI ((↑b:Int) + 1)) fun w51=>inI (n22 + 1)∧x10 (n22 + 1) w51∧x11 (n22 + 1) w51 < x11 n22 w50) (ifT (Proofs.YtndaepmjkbmjmaaGreatDoor.Fn d) (RunE Proofs.Tryz.prog Ev d (vS o25 k54 k55 :: e) w50 fun v7 w52=>v7 = vT (Array.mk [])∧x4 w52∧x5 w52 < x5 w10))) (x4 w45∧x5 w45 < x5 w10))) (inI (n1 + 1)∧x1 (n1 + 1) w10∧x2 (n1 + 1) w10 < x2 n1 w6))) (R (vT (Array.mk [])) w6)
set_option maxRecDepth 100000 in
theorem run_digraph_each (a:Option Addr) (b c:Nat) (d:FuncId) (e:List Value) (w:World) (R:Value→WP) (h:vc_digraph_each a b c d e w R):Run Tryz.prog 211 [(.slice a b c),(.func (.func d) #[] ⟨e⟩)] w R:=rv Tryz.func211 ann_digraph_each (by kernel_rfl) h

abbrev n_digraph_Solve_S2:FuncId:=212
def ann_digraph_Solve_S2:Ann:={ rngs:=[],loops:=[(2,[(19,(.one (.int .i64)))]),(7,[(30,(.one (.int .i64)))]),(11,[(45,(.one (.int .i64)))]),(19,[(68,(.one (.int .i64)))])],joins:=[],blocks:=[] }
set_option maxRecDepth 100000 in
def vc_digraph_Solve_S2 (a:Option Addr) (b c:Nat) (d e f g:Addr) (w:World) (R:Value→WP):Prop :=  RunE Proofs.Tryz.prog Ev 59 [iI 1024,vS none 0 0] w fun v1 w1=>∃ o1,v1 = vP o1∧∃ (x1:lP [(19,shI)]),∃ (x2:lN [(19,shI)]),x1 0 w1∧∀ (I1:Nat→Value) (n1:Int) (w2:World),x1 n1 w2→br (decide (n1 < (↑b:Int))) (idx a b n1 1 fun a1=>∃ n2,World.cell? w2 a1 = some (iI n2)∧∃ o2 k1 k2,World.cell? w2 d = some (vS o2 k1 k2)∧idx o2 k1 n2 1 fun a2=>st1 w2 a2 (vP o1) fun w3=>inI (n1 + 1)∧x1 (n1 + 1) w3∧x2 (n1 + 1) w3 < x2 n1 w2) (∃ (x3:lP [(30,shI)]),∃ (x4:lN [(30,shI)]),x3 0 w2∧∀ (I2:Nat→Value) (n3:Int) (w4:World),x3 n3 w4→br (decide (n3 < (↑b:Int))) (idx a b n3 1 fun a3=>∃ n4,World.cell? w4 a3 = some (iI n4)∧∃ o3 k3 k4,World.cell? w4 e = some (vS o3 k3 k4)∧idx o3 k3 n4 1 fun a4=>∃ o4 k5 k6,World.cell? w4 a4 = some (vS o4 k5 k6)∧RunE Proofs.Tryz.prog Ev 60 [vP o1,vS o4 k5 k6] w4 fun v2 w5=>∃ n5,v2 = iI n5∧∃ o5 k7 k8,World.cell? w5 f = some (vS o5 k7 k8)∧idx o5 k7 n4 1 fun a5=>∃ o6 k9 k10,World.cell? w5 a5 = some (vS o6 k9 k10)∧∃ (x5:lP [(45,shI)]),∃ (x6:lN [(45,shI)]),x5 0 w5∧∀ (I3:Nat→Value) (n6:Int) (w6:World),x5 n6 w6→br (decide (n6 < (↑k9:Int))) (idx o6 k9 n6 1 fun a6=>∃ n7,World.cell? w6 a6 = some (iI n7)∧∃ o7 k11 k12,World.cell? w6 d = some (vS o7 k11 k12)∧idx o7 k11 n7 1 fun a7=>∃ o8,World.cell? w6 a7 = some (vP o8)∧ptrB Proofs.YtndaepmjkbmjmaaGreatDoor.Ty (fun (x7:Sem Value) (I4:Value→Prop)=>∃ v3,Sem.run Proofs.Tryz.prog x7 w6 = Result.ok v3 w6∧I4 v3) BinOp.neq 118 (Operand.tmp 52) (Operand.tmp 53) o8 o1 fun b1=>br b1 (∃ o9 k13 k14,World.cell? w6 d = some (vS o9 k13 k14)∧idx o9 k13 n7 1 fun a8=>∃ o10,World.cell? w6 a8 = some (vP o10)∧new w6 (oC [vP o10] 118) fun k15 w7=>RunE Proofs.Tryz.prog Ev 213 [vP o1,vS (some (aM k15)) 1 1] w7 fun v4 w8=>∃ n8,v4 = iI n8∧inI (n6 + 1)∧x5 (n6 + 1) w8∧x6 (n6 + 1) w8 < x6 n6 w6) (inI (n6 + 1)∧x5 (n6 + 1) w6∧x6 (n6 + 1) w6 < x6 n6 w6)) (inI (n3 + 1)∧x3 (n3 + 1) w6∧x4 (n3 + 1) w6 < x4 n3 w4)) (RunE Proofs.Tryz.prog Ev 61 [vP o1] w4 fun v5 w9=>∃ o11 k16 k17,v5 = vS o11 k16 k17∧∃ (x8:lP [(68,shI)]),∃ (x9:lN [(68,shI)]),x8 0 w9∧∀ (I5:Nat→Value) (n9:Int) (w10:World),x8 n9 w10→br (decide (n9 < (↑b:Int))) (idx a b n9 1 fun a9=>∃ n10,World.cell? w10 a9 = some (iI n10)∧∀ w11,drawn w10 w11→∃ (I6:World→Prop),I6 w11∧∃ o12 k18 k19,(∀ w12,I6 w12→World.cell? w12 g = some (vS o12 k18 k19))∧RunE Proofs.Tryz.prog Ev 214 [vS o11 k16 k17] w11 fun v6 w13=>∃ o13 k20 k21,v6 = vS o13 k20 k21∧I6 w13∧idx o12 k18 n10 1 fun a10=>st1 w13 a10 (vS o13 k20 k21) fun w14=>inI (n9 + 1)∧x8 (n9 + 1) w14∧x9 (n9 + 1) w14 < x9 n9 w10) (R (vT (Array.mk [])) w10)))
set_option maxRecDepth 100000 in
theorem run_digraph_Solve_S2 (a:Option Addr) (b c:Nat) (d e f g:Addr) (w:World) (R:Value→WP) (h:vc_digraph_Solve_S2 a b c d e f g w R):Run Tryz.prog 212 [(.slice a b c),(.pointer (some d)),(.pointer (some e)),(.pointer (some f)),(.pointer (some g))] w R:=rv Tryz.func212 ann_digraph_Solve_S2 (by kernel_rfl) h

abbrev n_digraph_right_S1:FuncId:=243
def ann_digraph_right_S1:Ann:={ rngs:=[],loops:=[],joins:=[],blocks:=[] }
set_option maxRecDepth 100000 in
def vc_digraph_right_S1 (a:Option Addr) (b c:Nat) (d:Addr) (w:World) (R:Value→WP):Prop :=  RunE Proofs.Tryz.prog Ev 209 [vS a b c,Value.func (Fn.func 244) (Array.mk []) (Array.mk [vP (some d)])] w fun v1 w1=>∃ b1,v1 = vB b1∧R (vB b1) w1
set_option maxRecDepth 100000 in
theorem run_digraph_right_S1 (a:Option Addr) (b c:Nat) (d:Addr) (w:World) (R:Value→WP) (h:vc_digraph_right_S1 a b c d w R):Run Tryz.prog 243 [(.slice a b c),(.pointer (some d))] w R:=rv Tryz.func243 ann_digraph_right_S1 (by kernel_rfl) h

abbrev n_digraph_right_S1_S1:FuncId:=244
def ann_digraph_right_S1_S1:Ann:={ rngs:=[],loops:=[],joins:=[],blocks:=[] }
set_option maxRecDepth 100000 in
def vc_digraph_right_S1_S1 (a:Int) (b:Addr) (w:World) (R:Value→WP):Prop :=  br (decide (a < 0)) (R (vB true) w) (∃ o1 k1 k2,World.cell? w b = some (vS o1 k1 k2)∧R (vB (decide ((↑k1:Int)≤a))) w)
set_option maxRecDepth 100000 in
theorem run_digraph_right_S1_S1 (a:Int) (b:Addr) (w:World) (R:Value→WP) (h:vc_digraph_right_S1_S1 a b w R):Run Tryz.prog 244 [(.int .i64 a),(.pointer (some b))] w R:=rv Tryz.func244 ann_digraph_right_S1_S1 (by kernel_rfl) h

abbrev n_digraph_each_S1:FuncId:=246
def ann_digraph_each_S1:Ann:={ rngs:=[],loops:=[],joins:=[],blocks:=[] }
set_option maxRecDepth 100000 in
def vc_digraph_each_S1 (a:Int) (b c d:Addr) (w:World) (R:Value→WP):Prop :=  ∃ o1 k1 k2,World.cell? w b = some (vS o1 k1 k2)∧new w (oC [iI a] 3) fun k3 w1=>RunS Proofs.Tryz.prog (apB 24 (Array.mk [vS o1 k1 k2,vS (some (aM k3)) 1 1])) w1 fun v1 w2=>∃ o2 k4 k5,v1 = vS o2 k4 k5∧st1 w2 b (vS o2 k4 k5) fun w3=>∃ o3 k6 k7,World.cell? w3 c = some (vS o3 k6 k7)∧∃ o4 k8 k9,World.cell? w3 b = some (vS o4 k8 k9)∧idx o3 k6 a 1 fun a1=>st1 w3 a1 (iI (↑k8:Int)) fun w4=>∃ o5 k10 k11,World.cell? w4 d = some (vS o5 k10 k11)∧new w4 (oC [iI a,iI 0] 320) fun k12 w5=>RunS Proofs.Tryz.prog (apB 318 (Array.mk [vS o5 k10 k11,vS (some (aM k12)) 1 1])) w5 fun v2 w6=>∃ o6 k13 k14,v2 = vS o6 k13 k14∧st1 w6 d (vS o6 k13 k14) fun w7=>R (vT (Array.mk [])) w7
set_option maxRecDepth 100000 in
theorem run_digraph_each_S1 (a:Int) (b c d:Addr) (w:World) (R:Value→WP) (h:vc_digraph_each_S1 a b c d w R):Run Tryz.prog 246 [(.int .i64 a),(.pointer (some b)),(.pointer (some c)),(.pointer (some d))] w R:=rv Tryz.func246 ann_digraph_each_S1 (by kernel_rfl) h

end Go.Proofs.YtndaepmjkbmjmaaGreatDoor
set_option linter.unusedVariables false
set_option maxRecDepth 4000
namespace Go.V
def frv (l:List (Nat × Nat)):List Value:=l.flatMap fun x=>[.int .i64 (x.1:Int),.int .i64 (x.2:Int)]
theorem frv_len:∀ l,(frv l).length = l.length * 2
  | []=>rfl
  | x :: l=>by
    have:=frv_len l
    unfold frv at this ⊢
    rw [List.flatMap_cons,List.length_append,this]; simp; omega
theorem frv_snoc (l:List (Nat × Nat)) (a b:Nat):frv l ++ [Value.int .i64 (a:Int),.int .i64 (b:Int)] = frv (l ++ [(a,b)]):=by simp [frv]
def srt (g:List Nat):List Int:=(g.map Int.ofNat).mergeSort fun x y=>decide (x≤y)
theorem flat_len {gs:List (List Nat)} (h:∀ g∈gs,g≠[]):gs.length≤gs.flatten.length:=by
  induction gs with
  | nil=>simp
  | cons g gs ih =>
    have h1:=ih fun x hx=>h x (by simp [hx])
    have h2:=List.length_pos_iff.2 (h g (by simp))
    rw [List.flatten_cons,List.length_append,List.length_cons]; omega
theorem Dig.Good.ne {E:Nat→List Nat} {gs:List (List Nat)} (h:Dig.Good E gs):∀ g∈gs,g≠[]:=fun g hg=>by
  obtain ⟨g1,g2,e⟩:=List.append_of_mem hg
  exact (h.2 g1 g g2 e).1
theorem Dig.Good.len {E:Nat→List Nat} {gs:List (List Nat)} {N:Nat} (h:Dig.Good E gs) (hl:∀ v∈gs.flatten,v < N):gs.length≤N∧∀ g∈gs,g.length≤N:=by
  have h1:=flat_len h.ne
  have h2:=Dig.nd_len h.1 hl
  refine ⟨by omega,fun g hg=>?_⟩
  obtain ⟨g1,g2,e⟩:=List.append_of_mem hg
  rw [e] at h2; simp at h2; omega
end Go.V
namespace Go.Proofs.YtndaepmjkbmjmaaGreatDoor
open Go.V
abbrev Ls:=(Option Addr × Nat) × List Int
def slP' (p:Ls):Value:=.slice p.1.1 p.2.length p.1.2
def owP' (p:Ls):Asn:=own 1 p.1.1 p.2.length p.1.2 (iv p.2)
variable {w:World} {L:List Asn}
abbrev seaL (ko kl kw bl N:Nat) (oa:Option Addr) (oc:Nat) (wa:Option Addr) (wc:Nat) (op low:List Nat) (wk:List (Nat × Nat)):List Asn :=
  [cel ko [.slice oa op.length oc],own 1 oa op.length oc (ivn op),cel kl [.slice (some ⟨bl,0,none⟩) N N],cel bl (ivn low),cel kw [.slice wa wk.length wc],own 2 wa wk.length wc (frv wk)]
theorem d_enter {ko kl kw bl N n:Nat} {oa:Option Addr} {oc:Nat} {wa:Option Addr} {wc:Nat} {op low:List Nat} {wk:List (Nat × Nat)}
    (h:St w (seaL ko kl kw bl N oa oc wa wc op low wk ++ L)) (hN:low.length = N) (hn:n < N) (ho:op.length < N) (hw:wk.length < N) (hb:N * 24≤140737488355328) :
    Run Tryz.prog n_digraph_each_S1 [.int .i64 (n:Int),.pointer (some (aM ko)),.pointer (some (aM kl)),.pointer (some (aM kw))] w fun v w'=>v = .tuple (Array.mk []) ∧
      ∃ oa oc wa wc,St w' (seaL ko kl kw bl N oa oc wa wc (op ++ [n]) (low.set n (op.length + 1)) (wk ++ [(n,0)]) ++ L):=by
  refine run_digraph_each_S1 (n:Int) (aM ko) (aM kl) (aM kw) w _ ?_
  refine ⟨_,_,_,(rdCel 0 h.l).cell0 (sub.refl _),newC_i h fun k3 w1 h=>?_⟩
  refine (app_one tyOk (rfl:kdOfT Ty _ = .slice _) (rfl:kdOfT Ty _ = .slice _) rfl rfl rfl (h.pick 7 [0,2,1,3,4,5,6]) rfl (by simp [oneC]) (by show (op.length + 1) * 8≤_; omega) (by omega)).mono ?_
  rintro _ w2 ⟨oa',oc',rfl,h⟩
  rw [ivn_snoc] at h
  refine ⟨_,_,_,rfl,st1_i (h.pick 7 [2,0,3,4,5,6]) (by simp) fun w3 h=>?_⟩
  refine ⟨_,_,_,(rdCel 2 h.l).cell0 (sub.refl _),_,_,_,(rdCel 0 h.l).cell0 (sub.refl _),idx_i rfl hn ?_⟩
  rw [add_lit0]
  refine st1_i (h.pick 6 [3,0,1,2,4,5]) (by simp [ivn]; omega) fun w4 h=>?_
  refine ⟨_,_,_,(rdCel 4 h.l).cell0 (sub.refl _),newC_i h fun k12 w5 h=>?_⟩
  refine (app_one tyOk (rfl:kdOfT Ty _ = .slice _) (rfl:kdOfT Ty _ = .slice _) rfl rfl rfl (h.pick 7 [0,6,1,2,3,4,5]) rfl (by simp [oneC]) (by show (wk.length + 1) * 16≤_; omega) (by omega)).mono ?_
  rintro _ w6 ⟨wa',wc',rfl,h⟩
  refine ⟨_,_,_,rfl,st1_i (h.pick 7 [6,0,2,3,4,5]) (by simp) fun w7 h=>⟨rfl,oa',oc',wa',wc',?_⟩⟩
  have l1:(op ++ [n]).length = op.length + 1:=by simp
  have l2:(wk ++ [(n,0)]).length = wk.length + 1:=by simp
  unfold seaL
  rw [l1,l2,← ivn_setN,← frv_snoc]
  exact h.pick 6 [3,4,5,2,0,1]
end Go.Proofs.YtndaepmjkbmjmaaGreatDoor
set_option linter.unusedVariables false
set_option maxRecDepth 4000
namespace Go.V
section
variable {w:World} {L:List Asn}
theorem frv_get {l:List (Nat × Nat)}:∀ {i n k:Nat},l[i]? = some (n,k)→(frv l)[i * 2]? = some (.int .i64 (n:Int))∧(frv l)[i * 2 + 1]? = some (.int .i64 (k:Int)):=by
  induction l with
  | nil=>intro i n k h; simp at h
  | cons x l ih =>
    intro i n k h
    have e:frv (x :: l) = Value.int .i64 (x.1:Int) :: Value.int .i64 (x.2:Int) :: frv l:=rfl
    rw [e]
    cases i with
    | zero=>simp at h; subst h; simp
    | succ i =>
      simp only [List.getElem?_cons_succ] at h
      have:=ih h
      rw [show (i + 1) * 2 = i * 2 + 1 + 1 from by omega,show i * 2 + 1 + 1 + 1 = (i * 2 + 1) + 1 + 1 from rfl]
      simpa using this
theorem frv_set1 {l:List (Nat × Nat)}:∀ {i n k:Nat} (k' : Nat),l[i]? = some (n,k)→(frv l).set (i * 2 + 1) (.int .i64 (k' : Int)) = frv (l.set i (n,k')):=by
  induction l with
  | nil=>intro i n k k' h; simp at h
  | cons x l ih =>
    intro i n k k' h
    have e:frv (x :: l) = Value.int .i64 (x.1:Int) :: Value.int .i64 (x.2:Int) :: frv l:=rfl
    rw [e]
    cases i with
    | zero=>simp at h; subst h; rfl
    | succ i =>
      simp only [List.getElem?_cons_succ] at h
      rw [show (i + 1) * 2 + 1 = (i * 2 + 1) + 1 + 1 from by omega,List.set_cons_succ,List.set_cons_succ,ih k' h]; rfl
theorem St.bring {M Q L:List Asn} (h:St w (M ++ (Q ++ L))):St w (Q ++ (M ++ L)):=h.perm (by
  rw [← List.append_assoc,← List.append_assoc]; exact List.perm_append_comm.append_right L)
theorem ivn_eq (xs:List Nat):ivn xs = iv (xs.map Int.ofNat):=by simp [ivn,iv]
end
def wkOf (S:List Dig.Sc):List (Nat × Nat):=(S.map fun s=>(s.1,s.2.1)).reverse
theorem wkOf_cons (n k:Nat) (r:List Nat) (t:List Dig.Sc):wkOf ((n,k,r) :: t) = wkOf t ++ [(n,k)]:=by simp [wkOf]
theorem wkOf_len:∀ (S:List Dig.Sc),(wkOf S).length≤(Dig.opOf S).length
  | []=>by simp [wkOf,Dig.opOf]
  | (n,k,r) :: t=>by
    have:=wkOf_len t
    rw [wkOf_cons,Dig.mem_opOf_len,List.length_append]; simp; omega
def lf (low:List Nat) (v:Nat):Nat:=low.getD v 0
theorem lf_set {low:List Nat} {i x:Nat} (h:i < low.length):lf (low.set i x) = Dig.upd (lf low) i x:=by
  funext j
  unfold lf Dig.upd
  rw [List.getD_eq_getElem?_getD,List.getElem?_set]
  by_cases e:j = i
  · subst e; simp [h]
  · rw [if_neg (fun h=>e h.symm),if_neg e]; exact (List.getD_eq_getElem?_getD).symm
theorem lf_get {low:List Nat} {i:Nat} (h:i < low.length):low[i]? = some (lf low i):=by
  unfold lf; rw [List.getD_eq_getElem?_getD,List.getElem?_eq_getElem h]; rfl
def MapOkD (mp:List (Int × Value)):List Dig.Sc→Prop
  | []=>True
  | (n,_,_) :: t=>assoc (n:Int) mp = some (.int .i64 (((Dig.opOf t).length + 1:Nat):Int))∧MapOkD mp t
theorem MapOkD.put {mp:List (Int × Value)} {m:Nat} {v:Value}:∀ (S:List Dig.Sc),MapOkD mp S→(∀ s∈S,s.1≠m)→MapOkD (aput (m:Int) v mp) S
  | [],_,_=>trivial
  | (n,k,r) :: t,⟨h1,h2⟩,hn=>by
    refine ⟨?_,MapOkD.put t h2 fun s hs=>hn s (by simp [hs])⟩
    have:=hn (n,k,r) (by simp)
    rw [assoc_put,if_neg (by simp at this ⊢; omega)]
    exact h1
theorem sc_mem {S:List Dig.Sc}:∀ s∈S,s.1∈Dig.opOf S:=by
  induction S with
  | nil=>intro s hs; simp at hs
  | cons x t ih =>
    obtain ⟨n,k,r⟩:=x
    intro s hs
    rcases List.mem_cons.1 hs with rfl | hs
    · simp [Dig.opOf]
    · simp [Dig.opOf,ih s hs]
end Go.V
