/- Steps that functions share: one element more; a copy; structs of one slice. -/
import Derived.Test.YtcipljcagejjaaaDoorVRep
import Derived.Laws.IdiomCopy
set_option linter.unusedVariables false
namespace Go.V
section
variable {P : Program} {w w' : World} {L : List Asn} {b : Nat} {us vs : List Value} {e e' : TypeId} {A B C D : Asn}
/- one element goes behind the others -/
theorem app_one {Ty : TypeId → Option TyI} (hT : TyOk P Ty) {t tx ty : TypeId} {i : TyI} {z : Value} (hk : kdOfT Ty t = .slice e) (hkx : kdOfT Ty tx = .slice e') (hi : Ty e = some i) (hz : i.zero = some z) (hzs : (cellsOf z).length = i.size)
    {a : Option Addr} {l c : Nat} (h : St w (cel b vs :: own i.size a l c us :: L)) (hv : vs.length = i.size) (h1 : ∀ u ∈ vs, oneC u = true) (hb : (l + 1) * i.bytes ≤ 140737488355328) (h63 : l < 9223372036854775807) :
    RunS P (Builtin.append_ (Array.mk [t, tx]) ty (Array.mk [.slice a l c, .slice (some ⟨b, 0, none⟩) 1 1])) w fun v w' => ∃ a' c', v = .slice a' (l + 1) c' ∧ St w' (own i.size a' (l + 1) c' (us ++ vs) :: cel b vs :: L) := by
  refine app_own' hT hk hi hz hzs h.swap (n := 1) (news := vs) ?_ hb (by omega)
  refine src_slice hT hkx (by omega) (.inr ⟨_, rfl, fun j u hj => ?_⟩) h1
  rw [add_lit0, h.cell]; exact hj
/- several, read from a slice -/
theorem app_rd {α : Type} [Rep1 α] {Ty : TypeId → Option TyI} (hT : TyOk P Ty) {t tx ty : TypeId} {i : TyI} {z : Value} (hk : kdOfT Ty t = .slice e) (hkx : kdOfT Ty tx = .slice e') (hi : Ty e = some i) (hz : i.zero = some z) (hzs : (cellsOf z).length = i.size)
    {a a2 : Option Addr} {l c n c2 : Nat} {xs : List α} (h : St w (own i.size a l c us :: L)) (hs : i.size = 1) (hx : rdS (hp w) xs a2 n) (h1 : ∀ x : α, oneC (Rep1.val x) = true) (hb : (l + n) * i.bytes ≤ 140737488355328) (h63 : l + n ≤ 9223372036854775807) :
    RunS P (Builtin.append_ (Array.mk [t, tx]) ty (Array.mk [.slice a l c, .slice a2 n c2])) w fun v w' => ∃ a' c', v = .slice a' (l + n) c' ∧ St w' (own i.size a' (l + n) c' (us ++ xs.map Rep1.val) :: L) := by
  have hl := hx.1
  refine app_own' hT hk hi hz hzs h (n := n) (news := xs.map Rep1.val) (src_slice hT hkx (by rw [hs, List.length_map, Nat.mul_one]; exact hx.1) ?_ ?_) hb h63
  · rcases hx.row with hr | ⟨ad, rfl, hc⟩
    · left
      have : xs = [] := by simpa using hr
      subst this; simpa using hl.symm
    · exact .inr ⟨ad, rfl, fun j u hj => cellH_w (hc j u hj)⟩
  · intro u hu
    obtain ⟨x, _, rfl⟩ := List.mem_map.1 hu
    exact h1 x
/- the builtin copy: as many as both have -/
theorem copy_own {Ty : TypeId → Option TyI} (hT : TyOk P Ty) {t tx ty : TypeId} {i : TyI} (hk : kdOfT Ty t = .slice e) (hi : Ty e = some i) (hs : i.size = 1)
    {a a2 : Option Addr} {l c n c2 : Nat} {news : List Value} (h : St w (own 1 a l c us :: L)) (hn : news.length = n) (hx : rdV a2 news (hp w)) (h1 : ∀ u ∈ news, oneC u = true) (hle : n ≤ l) :
    RunS P (Builtin.copy_ (Array.mk [t, tx]) ty (Array.mk [.slice a l c, .slice a2 n c2])) w fun v w' => v = .int .i64 (n : Int) ∧ St w' (own 1 a l c (news ++ us.drop n) :: L) := by
  obtain ⟨d, hd, hd'⟩ := undOf hT hk (by simp)
  rw [kd_slice hd'] at hd
  obtain ⟨info, d2, ha⟩ := tyAt hT hi
  have hsz : (P.info? e).map (·.size) = some 1 := by rw [ha.inf]; simp [← ha.size, hs]
  have zero : n = 0 → RunS P (Builtin.copy_ (Array.mk [t, tx]) ty (Array.mk [.slice a l c, .slice a2 n c2])) w fun v w' => v = .int .i64 (n : Int) ∧ St w' (own 1 a l c (news ++ us.drop n) :: L) := by
    intro hz
    subst hz
    have : news = [] := List.eq_nil_of_length_eq_zero hn
    subst this
    exact ⟨_, _, run_copy_none w t tx ty e a a2 l c 0 c2 hd hsz (by simp), Ev.refl _, rfl, by simpa using h⟩
  rcases own_cases h with ⟨rfl, rfl, rfl, rfl⟩ | ⟨b, pre, cs, post, rfl, hc, h2, h3, h4⟩
  · exact zero (by omega)
  · rcases hx with hx | ⟨ad, rfl, hx⟩
    · subst hx; exact zero hn.symm
    · rw [Nat.mul_one] at h2
      have hr := run_copy_cells (P := P) w t tx ty e b pre.length l c ad n c2 news hd hsz (by rw [hn]; exact (Nat.min_eq_left hle).symm) (fun j v hj => cellH_w (hx j v hj))
        (fun j hj => by
          rw [hc.cell]
          have hlt : pre.length + j < (pre ++ (us ++ (cs ++ post))).length := by simp; omega
          simp only [List.getElem?_eq_getElem hlt, Option.isSome_some]) (fun j hj => hc.frozen _ _) (fun v hv => by rw [← oneC_eq]; exact h1 v hv)
      have h5 := hc.setCells news pre (us ++ (cs ++ post)) (by simp; omega)
      rw [List.drop_append_of_le_length (by omega), List.append_assoc] at h5
      have ev : ∀ (news : List Value) (w0 w : World) (o : Nat), Ev w0 w → Ev w0 (w.setCells b o news) := by
        intro news
        induction news with
        | nil => exact fun _ _ _ h => h
        | cons v r ih => exact fun w0 w o h => ih w0 _ (o + 1) (h.trans (Ev.setCell w _ v))
      refine ⟨_, _, hr, ev news w w _ (Ev.refl w), ?_, ?_⟩
      · rw [hn]; rfl
      · refine own_some' (cs := cs) (post := post) ?_ ?_ ?_ h4
        · rw [hn] at h5; rw [List.append_assoc]; exact h5
        · rw [List.length_append, List.length_drop]; omega
        · rw [List.length_append, List.length_append, List.length_drop, ← h3, List.length_append]; omega
end
end Go.V
