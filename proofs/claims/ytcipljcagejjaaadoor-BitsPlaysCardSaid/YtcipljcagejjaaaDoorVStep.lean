/- Steps of a proof over a function's proposition. -/
import Derived.Test.YtcipljcagejjaaaDoorVSnd11
import Derived.Deep.AppendSrc
set_option linter.unusedVariables false
namespace Go.V
/- a block of cells, none of them frozen -/
def cel (b : Nat) (vs : List Value) : Asn := fun h => ∃ e, h b = some (.cells ⟨vs⟩ e (0, 0))
section
variable {P : Program} {w w' : World} {L : List Asn} {b : Nat} {vs : List Value} {e : TypeId} {A B C D : Asn}
theorem cel_ex : St w (cel b vs :: L) ↔ ∃ e, St w (blk b (.cells ⟨vs⟩ e (0, 0)) :: L) :=
  ⟨fun ⟨h1, h2, d, s1, s2, ⟨e, ha⟩, hl⟩ => ⟨e, h1, h2, d, s1, s2, ha, hl⟩, fun ⟨e, h1, h2, d, s1, s2, ha, hl⟩ => ⟨h1, h2, d, s1, s2, ⟨e, ha⟩, hl⟩⟩
theorem St.cell (h : St w (cel b vs :: L)) (i : Nat) : w.cell? ⟨b, i, none⟩ = vs[i]? := by
  obtain ⟨e, h⟩ := cel_ex.1 h
  have := h.get
  simp [World.cell?, this]
theorem St.frozen (h : St w (cel b vs :: L)) (i : Nat) (s : Option _) : w.frozen? ⟨b, i, s⟩ = false := by
  obtain ⟨e, h⟩ := cel_ex.1 h
  have := h.get
  simp [World.frozen?, this]
theorem St.setC (h : St w (cel b vs :: L)) (i : Nat) (v : Value) : St (w.setCell ⟨b, i, none⟩ v) (cel b (vs.set i v) :: L) := by
  obtain ⟨e, h⟩ := cel_ex.1 h
  have := St.setCell h i v
  have e2 : (⟨vs⟩ : Array Value).setIfInBounds i v = ⟨vs.set i v⟩ := by simp
  rw [e2] at this
  exact cel_ex.2 ⟨e, this⟩
theorem new_i {o : Obj} {k : Nat → World → Prop} (h : St w L) (hk : ∀ b w', St w' (blk b o :: L) → k b w') (ho : notD o = true := by rfl) : new w o k :=
  fun b w' hb hw => by subst hb; subst hw; exact hk _ _ (h.push o ho)
theorem newC_i {k : Nat → World → Prop} (h : St w L) (hk : ∀ b w', St w' (cel b vs :: L) → k b w') : new w (.cells (Array.mk vs) e) k := new_i h fun b w' h => hk b w' (cel_ex.2 ⟨_, h⟩)
theorem st1_i {i : Nat} {v : Value} {k : World → Prop} (h : St w (cel b vs :: L)) (hi : i < vs.length) (hk : ∀ w', St w' (cel b (vs.set i v) :: L) → k w') (hv : oneC v = true := by rfl) : st1 w ⟨b, i, none⟩ v k :=
  ⟨⟨vs[i], by rw [h.cell]; simp [hi]⟩, h.frozen i none, hv, fun w' hw => by subst hw; exact hk _ (h.setC i v)⟩
theorem St.setCells : ∀ (news pre post : List Value) {w : World}, news.length ≤ post.length → St w (cel b (pre ++ post) :: L) → St (w.setCells b pre.length news) (cel b (pre ++ news ++ post.drop news.length) :: L)
  | [], pre, post, w, _, h => by simpa [World.setCells] using h
  | v :: r, pre, [], w, hl, h => by simp at hl
  | v :: r, pre, p :: post, w, hl, h => by
    have h1 := h.setC pre.length v
    have e1 : (pre ++ p :: post).set pre.length v = (pre ++ [v]) ++ post := by simp
    rw [e1] at h1
    have h2 := St.setCells r (pre ++ [v]) post (by simpa using hl) h1
    have e2 : (pre ++ [v]).length = pre.length + 1 := by simp
    rw [e2] at h2
    simpa [World.setCells] using h2

theorem add_lit (b o j : Nat) : (⟨b, o, none⟩ : Addr).add j = ⟨b, o + j, none⟩ := by cases j <;> simp [Addr.add]
theorem add_lit0 (b j : Nat) : (⟨b, 0, none⟩ : Addr).add j = ⟨b, j, none⟩ := by rw [add_lit]; simp
theorem add_add (a : Addr) (i j : Nat) : (a.add i).add j = a.add (i + j) := by
  unfold Addr.add
  by_cases hi : i = 0
  · subst hi; simp
  · by_cases hj : j = 0
    · subst hj; simp [hi]
    · simp [hi, hj, Nat.add_assoc]
/- a slice that one owns, with all of its array: what stands ahead of it, its elements, its spare places, what stands behind -/
def own (sz : Nat) (a : Option Addr) (l c : Nat) (vs : List Value) : Asn := fun h =>
  (a = none ∧ l = 0 ∧ c = 0 ∧ vs = []) ∨ ∃ b pre cs post, a = some ⟨b, List.length pre, none⟩ ∧ cel b (pre ++ (vs ++ (cs ++ post))) h ∧ vs.length = l * sz ∧ (vs ++ cs).length = c * sz ∧ l ≤ c
theorem own_nil (sz : Nat) (h : St w L) : St w (own sz none 0 0 [] :: L) :=
  ⟨fun _ => none, hp w, fun _ => .inl rfl, fun _ _ h => (nomatch h), sub.refl _, .inl ⟨rfl, rfl, rfl, rfl⟩, h⟩
theorem own_cases {sz l c : Nat} {a : Option Addr} (h : St w (own sz a l c vs :: L)) :
    (a = none ∧ l = 0 ∧ c = 0 ∧ vs = []) ∨ ∃ b pre cs post, a = some ⟨b, List.length pre, none⟩ ∧ St w (cel b (pre ++ (vs ++ (cs ++ post))) :: L) ∧ vs.length = l * sz ∧ (vs ++ cs).length = c * sz ∧ l ≤ c := by
  obtain ⟨h1, h2, d, s1, s2, ha, hl⟩ := h
  rcases ha with ha | ⟨b, pre, cs, post, h3, h4, h5, h6, h7⟩
  · exact .inl ha
  · exact .inr ⟨b, pre, cs, post, h3, ⟨h1, h2, d, s1, s2, h4, hl⟩, h5, h6, h7⟩
theorem own_some' {sz l c : Nat} {pre cs post : List Value} (h : St w (cel b (pre ++ (vs ++ (cs ++ post))) :: L)) (h1 : vs.length = l * sz) (h2 : (vs ++ cs).length = c * sz) (h3 : l ≤ c) : St w (own sz (some ⟨b, pre.length, none⟩) l c vs :: L) :=
  h.head fun h ha => .inr ⟨b, pre, cs, post, rfl, ha, h1, h2, h3⟩
theorem own_some {sz l c : Nat} {cs : List Value} (h : St w (cel b (vs ++ cs) :: L)) (h1 : vs.length = l * sz) (h2 : (vs ++ cs).length = c * sz) (h3 : l ≤ c) : St w (own sz (some ⟨b, 0, none⟩) l c vs :: L) :=
  own_some' (pre := []) (post := []) (by simpa using h) h1 h2 h3
theorem own_len {sz l c : Nat} {a : Option Addr} (h : St w (own sz a l c vs :: L)) : vs.length = l * sz := by
  rcases own_cases h with ⟨_, rfl, _, rfl⟩ | ⟨_, _, _, _, _, _, h, _⟩
  · simp
  · exact h
theorem own_le {sz l c : Nat} {a : Option Addr} (h : St w (own sz a l c vs :: L)) : l ≤ c := by
  rcases own_cases h with ⟨_, rfl, _, rfl⟩ | ⟨_, _, _, _, _, _, _, _, h⟩
  · omega
  · exact h
theorem own_cell {sz l c : Nat} {a : Option Addr} (h : St w (own sz a l c vs :: L)) {j : Nat} {v : Value} (hj : vs[j]? = some v) : ∃ ad, a = some ad ∧ w.cell? (ad.add j) = some v := by
  rcases own_cases h with ⟨_, _, _, rfl⟩ | ⟨b, pre, cs, post, rfl, h, _⟩
  · simp at hj
  · refine ⟨_, rfl, ?_⟩
    rw [add_lit, h.cell, List.getElem?_append_right (by omega), Nat.add_sub_cancel_left, List.getElem?_append_left (List.getElem?_eq_some_iff.1 hj).1]; exact hj
/- more is put behind it -/
theorem app_own {t tx ty : TypeId} {i : TypeInfo} {z : Value} (ht : P.underlying t = some (.slice e)) (hi : P.info? e = some i) (hz : i.zero = some z) (hzs : z.cells.size = i.size)
    {a : Option Addr} {l c : Nat} (h : St w (own i.size a l c vs :: L)) {x : Value} {n : Nat} {news : List Value} (hs : Src P i.size tx x n news w) (hb : (l + n) * i.bytes ≤ 140737488355328) (h63 : l + n ≤ 9223372036854775807) :
    RunS P (Builtin.append_ (Array.mk [t, tx]) ty (Array.mk [.slice a l c, x])) w fun v w' => ∃ a' c', v = .slice a' (l + n) c' ∧ St w' (own i.size a' (l + n) c' (vs ++ news) :: L) := by
  have hnl := hs.newsLen
  have grow : c < l + n → (Builtin.firstCells i.size l (.slice a l c)).run P w.drew = .ok vs.toArray w.drew → (vs.length = l * i.size) → St w L →
      RunS P (Builtin.append_ (Array.mk [t, tx]) ty (Array.mk [.slice a l c, x])) w fun v w' => ∃ a' c', v = .slice a' (l + n) c' ∧ St w' (own i.size a' (l + n) c' (vs ++ news) :: L) := by
    intro hg hold hvl hL
    have hr := run_append_grow_src (P := P) w t tx ty e i z ht hi hz a l c vs hold x n news hs hg (by omega) (growslice_fits hg hb)
    refine ⟨_, _, hr, (Ev.drew w _).trans (Ev.push _ _), _, _, rfl, ?_⟩
    have hge := grownCap_ge w (l + n) c e
    have h1 : St w.drew L := hL.same rfl
    have h2 := h1.push (.cells ((vs ++ news).toArray ++ Builtin.zeroCells z.cells (grownCap w (l + n) c e - (l + n))) e)
    have h3 : St (w.drew.alloc (.cells ((vs ++ news).toArray ++ Builtin.zeroCells z.cells (grownCap w (l + n) c e - (l + n))) e)) (cel w.heap.size ((vs ++ news) ++ (Builtin.zeroCells z.cells (grownCap w (l + n) c e - (l + n))).toList) :: L) := by
      have : ((vs ++ news).toArray ++ Builtin.zeroCells z.cells (grownCap w (l + n) c e - (l + n))) = ⟨(vs ++ news) ++ (Builtin.zeroCells z.cells (grownCap w (l + n) c e - (l + n))).toList⟩ := by apply Array.ext'; simp
      rw [this] at h2 ⊢; exact cel_ex.2 ⟨_, h2⟩
    refine own_some h3 ?_ ?_ hge
    · rw [List.length_append, hvl, hnl, Nat.add_mul]
    · rw [List.length_append, List.length_append, hvl, hnl, ← Nat.add_mul, Array.length_toList, size_zeroCells, hzs, ← Nat.add_mul]
      congr 1; omega
  rcases own_cases h with ⟨rfl, rfl, rfl, rfl⟩ | ⟨b, pre, cs, post, rfl, hc, h1, h2, h3⟩
  · rcases Nat.eq_zero_or_pos n with rfl | hn
    · have : news = [] := List.eq_nil_of_length_eq_zero (by simpa using hnl)
      subst this
      refine ⟨.slice none 0 0, w, ?_, Ev.refl w, none, 0, rfl, h⟩
      rcases hs.kind with ⟨e', hk⟩ | hk <;> simp [Builtin.append_, run_underlying ht, run_underlying hk, sizeOf, typeInfo, hi, hs.len, hs.cells, storeCells]
    · exact grow (by omega) (run_firstCells_none w.drew _ _ _ _) (by simp) h.tail
  · by_cases hroom : l + n ≤ c
    · have hcl : news.length ≤ cs.length := by
        have h4 : (l + n) * i.size ≤ c * i.size := Nat.mul_le_mul_right _ hroom
        rw [List.length_append, h1] at h2
        rw [Nat.add_mul] at h4
        omega
      have hr := run_append_room_src (P := P) w t tx ty e i ht hi b pre.length l c x n news hs hroom
        (fun j hj => by
          rw [hc.cell, ← h1]
          have hlt : pre.length + vs.length + j < (pre ++ (vs ++ (cs ++ post))).length := by simp; omega
          simp only [List.getElem?_eq_getElem hlt, Option.isSome_some])
        (fun j hj => hc.frozen _ _)
      have e0 : pre ++ (vs ++ (cs ++ post)) = (pre ++ vs) ++ (cs ++ post) := by simp
      rw [e0] at hc
      have h5 := hc.setCells news (pre ++ vs) (cs ++ post) (by simp; omega)
      rw [List.length_append, h1] at h5
      refine ⟨_, _, hr, ?_, _, _, rfl, ?_⟩
      · have : ∀ (news : List Value) (w0 w : World) (o : Nat), Ev w0 w → Ev w0 (w.setCells b o news) := by
          intro news
          induction news with
          | nil => exact fun _ _ _ h => h
          | cons v r ih => exact fun w0 w o h => ih w0 _ (o + 1) (h.trans (Ev.setCell w _ v))
        exact this news w w _ (Ev.refl w)
      · have e1 : (pre ++ vs) ++ news ++ (cs ++ post).drop news.length = pre ++ ((vs ++ news) ++ (cs.drop news.length ++ post)) := by
          rw [List.drop_append_of_le_length hcl]; simp
        rw [e1] at h5
        refine own_some' h5 ?_ ?_ hroom
        · rw [List.length_append, h1, hnl, Nat.add_mul]
        · rw [List.length_append] at h2 ⊢
          rw [List.length_append, List.length_drop, ← h2]; omega
    · refine grow (by omega) (run_firstCells_some w.drew _ _ _ _ _ _ h1 fun j v hj => ?_) h1 h.tail
      rw [add_lit]
      have := hc.cell (pre.length + j)
      rw [List.getElem?_append_right (by omega), Nat.add_sub_cancel_left, List.getElem?_append_left (List.getElem?_eq_some_iff.1 hj).1, hj] at this
      exact this
theorem app_own' {Ty : TypeId → Option TyI} (hT : TyOk P Ty) {t tx ty : TypeId} {i : TyI} {z : Value} (hk : kdOfT Ty t = .slice e) (hi : Ty e = some i) (hz : i.zero = some z) (hzs : (cellsOf z).length = i.size)
    {a : Option Addr} {l c : Nat} (h : St w (own i.size a l c vs :: L)) {x : Value} {n : Nat} {news : List Value} (hs : Src P i.size tx x n news w) (hb : (l + n) * i.bytes ≤ 140737488355328) (h63 : l + n ≤ 9223372036854775807) :
    RunS P (Builtin.append_ (Array.mk [t, tx]) ty (Array.mk [.slice a l c, x])) w fun v w' => ∃ a' c', v = .slice a' (l + n) c' ∧ St w' (own i.size a' (l + n) c' (vs ++ news) :: L) := by
  obtain ⟨d, hd, hd'⟩ := undOf hT hk (by simp)
  rw [kd_slice hd'] at hd
  obtain ⟨info, d2, ha⟩ := tyAt hT hi
  have hzz : z.cells.size = info.size := by rw [← ha.size, ← hzs, cellsOf_eq]; simp
  rw [ha.size] at *
  rw [ha.bytes] at hb
  exact app_own hd ha.inf (by rw [← ha.zero, hz]) hzz h hs hb h63
/- what a slice hands to append -/
theorem src_slice {Ty : TypeId → Option TyI} (hT : TyOk P Ty) {tx e' : TypeId} (hk : kdOfT Ty tx = .slice e') {size : Nat} {a : Option Addr} {n c : Nat} {news : List Value} (hl : news.length = n * size)
    (hn : n = 0 ∨ ∃ ad, a = some ad ∧ ∀ j u, news[j]? = some u → w.cell? (ad.add j) = some u) (h1 : ∀ u ∈ news, oneC u = true) : Src P size tx (.slice a n c) n news w := by
  obtain ⟨d, hd, hd'⟩ := undOf hT hk (by simp)
  rw [kd_slice hd'] at hd
  cases a with
  | none =>
    rcases hn with rfl | ⟨ad, h, _⟩
    · have : news = [] := List.eq_nil_of_length_eq_zero (by simpa using hl)
      subst this
      exact Src.ofNil w hd c
    · cases h
  | some ad =>
    refine Src.ofSlice w hd ad n c news hl ?_ fun u hu => by rw [← oneC_eq]; exact h1 u hu
    rcases hn with rfl | ⟨ad', h, hc⟩
    · have : news = [] := List.eq_nil_of_length_eq_zero (by simpa using hl)
      subst this; intro j u hj; simp at hj
    · cases h; exact hc
end
end Go.V
