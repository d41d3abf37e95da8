/- Texts of this claim, one behind the other. -/
import Derived.Test.YtaheggomcnbbiaaDoorG2
import Derived.MapKept
import Derived.Laws.RangeAny
import Derived.Laws.Strings
import Derived.Lib.OthersKept
import Derived.Test.YtaheggomcnbbiaaDoorG1
import Derived.Laws.StructEq
/- Laws of sets (5): one step of a script. -/
set_option linter.unusedVariables false
namespace Go.V
theorem rdSS {L : List Asn} {h : Hp} {ps : List Nat} {vss : List (List Bool)} {k p : Nat} {v : List Bool} (i : Nat) (hl : starL L h) (hp : ps[k]? = some p) (hv : vss[k]? = some v) (e : nthA L i = sta (setsA ps vss) := by rfl) (hi : Nat.blt i (lenA L) = true := by rfl) : setR h (bk p) v := by
  obtain ⟨h1, s, ha⟩ := starL_nth i (by simpa [lenA_eq] using hi) hl
  rw [e] at ha
  obtain ⟨h2, s2, hb⟩ := starL_in (A := setO (bk p) v) (List.mem_of_getElem? (i := k) (by unfold setsA; rw [List.getElem?_zipWith, hp, hv])) ha
  exact (setO_R hb).mono (s2.trans s)
theorem rdRR {L : List Asn} {h : Hp} {ps : List Nat} {vss : List (List Bool)} {k p : Nat} {v : List Bool} (i : Nat) (hl : starL L h) (hp : ps[k]? = some p) (hv : vss[k]? = some v) (e : nthA L i = sta (refsA ps vss) := by rfl) (hi : Nat.blt i (lenA L) = true := by rfl) : refR h (bk p) v := by
  obtain ⟨h1, s, ha⟩ := starL_nth i (by simpa [lenA_eq] using hi) hl
  rw [e] at ha
  obtain ⟨h2, s2, hb⟩ := starL_in (A := refO (bk p) v) (List.mem_of_getElem? (i := k) (by unfold refsA; rw [List.getElem?_zipWith, hp, hv])) ha
  exact (refO_R hb).mono (s2.trans s)
/- the others, where one is taken out -/
theorem rdSE {L : List Asn} {h : Hp} {ps : List Nat} {vss : List (List Bool)} {k m p : Nat} {v : List Bool} (i : Nat) (hl : starL L h) (hp : ps[k]? = some p) (hv : vss[k]? = some v) (hk : k ≠ m) (e : nthA L i = sta ((setsA ps vss).eraseIdx m) := by rfl) (hi : Nat.blt i (lenA L) = true := by rfl) : setR h (bk p) v := by
  obtain ⟨h1, s, ha⟩ := starL_nth i (by simpa [lenA_eq] using hi) hl
  rw [e] at ha
  obtain ⟨h2, s2, hb⟩ := starL_in (A := setO (bk p) v) (List.mem_eraseIdx_iff_getElem?.2 ⟨k, hk, by unfold setsA; rw [List.getElem?_zipWith, hp, hv]⟩) ha
  exact (setO_R hb).mono (s2.trans s)
theorem rdRE {L : List Asn} {h : Hp} {ps : List Nat} {vss : List (List Bool)} {k m p : Nat} {v : List Bool} (i : Nat) (hl : starL L h) (hp : ps[k]? = some p) (hv : vss[k]? = some v) (hk : k ≠ m) (e : nthA L i = sta ((refsA ps vss).eraseIdx m) := by rfl) (hi : Nat.blt i (lenA L) = true := by rfl) : refR h (bk p) v := by
  obtain ⟨h1, s, ha⟩ := starL_nth i (by simpa [lenA_eq] using hi) hl
  rw [e] at ha
  obtain ⟨h2, s2, hb⟩ := starL_in (A := refO (bk p) v) (List.mem_eraseIdx_iff_getElem?.2 ⟨k, hk, by unfold refsA; rw [List.getElem?_zipWith, hp, hv]⟩) ha
  exact (refO_R hb).mono (s2.trans s)
theorem rdF {L : List Asn} {h : Hp} {n : Nat} {ks : List Nat} {rs : List (Option Addr)} (i : Nat) (hl : starL L h) (e : nthA L i = frA n ks rs := by rfl) (hi : Nat.blt i (lenA L) = true := by rfl) : frA n ks rs h := by
  obtain ⟨h1, s, ha⟩ := starL_nth i (by simpa [lenA_eq] using hi) hl
  rw [e] at ha
  exact fun j r hr hk => (ha j r hr hk).mono s
theorem rdPt {L : List Asn} {h : Hp} {a : Option Addr} {l c : Nat} {os : List (Option Addr)} (i : Nat) (hl : starL L h) (e : nthA L i = own 1 a l c (pv os) := by rfl) (hi : Nat.blt i (lenA L) = true := by rfl) : os.length = l → rdS h os a l := fun hx => by
  obtain ⟨h1, s, ha⟩ := starL_nth i (by simpa [lenA_eq] using hi) hl
  rw [e] at ha
  exact (rdS_of_row hx (own_rdVh ha)).mono s
theorem rdCel {L : List Asn} {h : Hp} {b : Nat} {vs : List Value} (i : Nat) (hl : starL L h) (e : nthA L i = cel b vs := by rfl) (hi : Nat.blt i (lenA L) = true := by rfl) : rowH h ⟨b, 0, none⟩ vs := by
  obtain ⟨h1, s, ha⟩ := starL_nth i (by simpa [lenA_eq] using hi) hl
  rw [e] at ha
  exact (cel_row ha).mono s
theorem lent_take {h : Hp} {xs : List Int} {a : Option Addr} {l : Nat} (hx : xs.length = l) (hr : rdS h (lentL xs) a (l + 8)) : rdS h xs a l := by
  have := hr.take (k := l) (by omega)
  have e : (lentL xs).take l = xs := by unfold lentL; rw [List.take_append_of_le_length (by omega), List.take_of_length_le (by omega)]
  rwa [e] at this
/- what a step leaves -/
def stepQ (b : Nat) (K : Int) (n : Nat) (h0 : Hp) (w' : World) : Prop := ∃ (ps qs : List Nat) (vss : List (List Bool)), ps.length = vss.length ∧ qs.length = vss.length ∧ vss.length ≤ n + 1 ∧ (vss.length = n ∨ K.tmod 8 = 0 ∨ K.tmod 8 = 6 ∨ K.tmod 8 = -6 ∨ n = 0) ∧
  St w' [wrlA b ps qs vss.length, sta (setsA ps vss), sta (refsA qs vss), has h0]
end Go.V
namespace Go.Proofs.YtaheggomcnbbiaaDoor
open Go.V
section
variable {w : World} {L : List Asn} {a a2 a3 : Option Addr} {l c l2 c2 l3 c3 n : Nat} {p q : Option Addr} {bs cs : List Bool} {xs ys zs : List Int} {os : List (Option Addr)} {vss : List (List Bool)} {ps qs : List Nat}
end
end Go.Proofs.YtaheggomcnbbiaaDoor
/- Maps with numbers or texts as keys. -/
set_option linter.unusedVariables false
namespace Go.V
open MapKept
class MKey (κ : Type) [DecidableEq κ] where
  kd : TypeDesc
  val : κ → Value
  now : ∀ a b : κ, Instr.sameNow kd (val a) (val b) = some (decide (a = b))
  key : ∀ a, IsKey kd (val a)
  bits : ∀ a, Instr.sameBits 10000 (val a) (val a) = true
instance : MKey Int := { kd := .int .i64, val := fun x => .int .i64 x, now := fun a b => by simp [Instr.sameNow]; rfl, key := fun _ => rfl, bits := fun a => by simp [Instr.sameBits] }
instance : MKey ByteArray := { kd := .string, val := fun x => .string x, now := fun a b => by simp only [Instr.sameNow, Option.some.injEq]; rw [Bool.eq_iff_iff, decide_eq_true_eq]; exact bytes_beq a b, key := fun _ => trivial, bits := fun a => by simp only [Instr.sameBits]; exact (bytes_beq a a).2 rfl }
section
variable {κ : Type} [DecidableEq κ] {P : Program} {w : World} {L : List Asn}
def assoc (k : κ) : List (κ × Value) → Option Value
  | [] => none
  | (a, v) :: m => if k = a then some v else assoc k m
def aput (k : κ) (v : Value) : List (κ × Value) → List (κ × Value)
  | [] => [(k, v)]
  | (a, u) :: m => if k = a then (k, v) :: m else (a, u) :: aput k v m
theorem assoc_put (k a : κ) (v : Value) : ∀ m, assoc a (aput k v m) = if a = k then some v else assoc a m
  | [] => by simp [aput, assoc]
  | (b, u) :: m => by
    unfold aput
    by_cases h : k = b
    · subst h
      by_cases ha : a = k
      · simp [assoc, ha]
      · simp [assoc, ha]
    · rw [if_neg h]
      by_cases hab : a = b
      · subst hab
        simp [assoc, Ne.symm h]
      · simp [assoc, hab, assoc_put k a v m]
theorem aput_len (k : κ) (v : Value) : ∀ m, (aput k v m).length = if (assoc k m).isSome then m.length else m.length + 1
  | [] => rfl
  | (b, u) :: m => by
    unfold aput assoc
    by_cases h : k = b
    · simp [h]
    · simp only [if_neg h, List.length_cons, aput_len k v m]
      split <;> rfl
variable [MKey κ]
def mapA (b : Nat) (m : List (κ × Value)) : Asn := fun h => ∃ es clock, h b = some (.map es clock) ∧ es.toList.map (fun e => (e.key, e.val)) = m.map fun x => (MKey.val x.1, x.2)
theorem mapA_ex {b : Nat} {m : List (κ × Value)} : St w (mapA b m :: L) ↔ ∃ es clock, es.toList.map (fun e => (e.key, e.val)) = m.map (fun x => (MKey.val x.1, x.2)) ∧ St w (blk b (.map es clock) :: L) :=
  ⟨fun ⟨h1, h2, d, s1, s2, ⟨es, cl, ha, he⟩, hl⟩ => ⟨es, cl, he, h1, h2, d, s1, s2, ha, hl⟩, fun ⟨es, cl, he, h1, h2, d, s1, s2, ha, hl⟩ => ⟨h1, h2, d, s1, s2, ⟨es, cl, ha, he⟩, hl⟩⟩
theorem mapA_new {b : Nat} (h : St w (blk b (.map #[] 0) :: L)) : St w (mapA b ([] : List (κ × Value)) :: L) := mapA_ex.2 ⟨_, _, rfl, h⟩
theorem findNow_eq (k : κ) : ∀ (es : List MapEntry) (m : List (κ × Value)) (i : Nat), es.map (fun e => (e.key, e.val)) = m.map (fun x => (MKey.val x.1, x.2)) →
    ∃ r, Instr.findNow (MKey.kd κ) (MKey.val k) es i = some r ∧ (r.map (·.2)) = assoc k m ∧ (∀ j v, r = some (j, v) → i ≤ j ∧ j < i + m.length ∧ (m[j - i]?).map (·.1) = some k ∧ ∀ u, aput k u m = m.set (j - i) (k, u)) ∧ (r = none → ∀ u, aput k u m = m ++ [(k, u)])
  | [], [], i, _ => ⟨none, rfl, rfl, fun j v h => (by cases h), fun _ u => rfl⟩
  | [], _ :: _, i, h => by simp at h
  | _ :: _, [], i, h => by simp at h
  | e :: es, (a, v) :: m, i, h => by
    simp only [List.map_cons, List.cons.injEq, Prod.mk.injEq] at h
    obtain ⟨⟨h1, h2⟩, h3⟩ := h
    unfold Instr.findNow
    rw [h1, MKey.now]
    by_cases hk : k = a
    · subst hk
      refine ⟨some (i, e.val), by simp, by simp [assoc, h2], fun j u hj => ?_, fun hn => by cases hn⟩
      cases hj
      simp [aput]
    · obtain ⟨r, q1, q2, q3, q4⟩ := findNow_eq k es m (i + 1) h3
      refine ⟨r, by simp [hk, q1], by simp [assoc, hk, q2], fun j u hj => ?_, fun hn u => by simp [aput, hk, q4 hn u]⟩
      obtain ⟨p1, p2, p3, p4⟩ := q3 j u hj
      have e1 : j - i = (j - (i + 1)) + 1 := by omega
      refine ⟨by omega, by simp; omega, by rw [e1]; simpa using p3, fun u => by rw [e1]; simp [aput, hk, p4 u]⟩
variable {Ty : TypeId → Option TyI}
theorem kd_map' {d : TypeDesc} {k e : TypeId} (h : Kd.map k e = kdOf d) : d = .map k e := by cases d <;> simp [kdOf] at h; obtain ⟨rfl, rfl⟩ := h; rfl
theorem map_lookup (hT : TyOk P Ty) {t kt et : TypeId} {i : TyI} {z : Value} (hk : kdOfT Ty t = .map kt et) (hkt : P.underlying kt = some (MKey.kd κ)) (hi : Ty et = some i) (hz : i.zero = some z) {b : Nat} {m : List (κ × Value)} (h : St w (mapA b m :: L)) (k : κ) :
    RunS P (Instr.lookup t (.map (some b)) (MKey.val k) false) w fun v w' => v = (assoc k m).getD z ∧ w' = w := by
  obtain ⟨d, hd, hd'⟩ := undOf hT hk (by simp)
  rw [kd_map' hd'] at hd
  obtain ⟨es, cl, he, h⟩ := mapA_ex.1 h
  obtain ⟨r, q1, q2, _, _⟩ := findNow_eq k es.toList m 0 he
  have hf := run_findKey (P := P) (w := w) hkt q1
  obtain ⟨info, d2, ha⟩ := tyAt hT hi
  have hzz : (zeroValue et).run P w = .ok z w := run_zero ha.inf (by rw [← ha.zero, hz])
  refine ⟨_, w, ?_, Ev.refl w, rfl, rfl⟩
  have hg := h.get
  have hc := fun e => run_checkKey (P := P) (w := w) hkt (MKey.key k) e 9999
  unfold Instr.lookup
  simp only [Sem.run_bind, run_und hd, Result.andThen_ok, run_getObj_map w b es cl hg, Sem.run_pure, hc, hf]
  rw [← q2]
  cases r with
  | none => simp [Sem.run_bind, hzz]
  | some x => simp
theorem map_update (hT : TyOk P Ty) {t kt et : TypeId} (hk : kdOfT Ty t = .map kt et) (hkt : P.underlying kt = some (MKey.kd κ)) {b : Nat} {m : List (κ × Value)} (h : St w (mapA b m :: L)) (k : κ) (v : Value) :
    RunS P (Instr.mapUpdate t (.map (some b)) (MKey.val k) v) w fun _ w' => St w' (mapA b (aput k v m) :: L) := by
  obtain ⟨d, hd, hd'⟩ := undOf hT hk (by simp)
  rw [kd_map' hd'] at hd
  obtain ⟨es, cl, he, h⟩ := mapA_ex.1 h
  obtain ⟨r, q1, q2, q3, q4⟩ := findNow_eq k es.toList m 0 he
  have hf := run_findKey (P := P) (w := w) hkt q1
  have hg := h.get
  have hc := fun e => run_checkKey (P := P) (w := w) hkt (MKey.key k) e 9999
  have hlen : es.size = m.length := by have := congrArg List.length he; simpa using this
  have ev : ∀ o : Array MapEntry × Nat, Ev w { w with heap := w.heap.setIfInBounds b (.map o.1 o.2) } := fun o => by
    refine ⟨rfl, rfl, rfl, by simp, ?_, ?_⟩ <;>
    · intro x d hx
      rw [Array.getElem?_setIfInBounds_ne]; exact hx
      intro e; subst e; rw [hg] at hx; cases hx
  cases r with
  | none =>
    refine ⟨(), _, ?_, ev (es.push { key := MKey.val k, val := v, born := cl }, cl + 1), mapA_ex.2 ⟨_, _, ?_, h.setObj _⟩⟩
    · unfold Instr.mapUpdate
      simp only [Sem.run_bind, run_und hd, Result.andThen_ok, run_getObj_map w b es cl hg, hc, hf]
      exact run_setObj_map _ hg
    · rw [q4 rfl v]; simp [he]
  | some x =>
    obtain ⟨j, u⟩ := x
    obtain ⟨_, p2, p3, p4⟩ := q3 j u rfl
    rw [Nat.sub_zero] at p3 p4
    have hj : j < es.size := by omega
    have hkey : ((es[j]?).map (·.key)).getD (MKey.val k) = MKey.val k := by
      have h1 := congrArg (fun l => l[j]?) he
      simp only [List.getElem?_map] at h1
      cases hm : m[j]? with
      | none => rw [hm] at p3; cases p3
      | some y =>
        rw [hm] at p3 h1
        simp only [Option.map_some, Option.some.injEq] at p3
        have hjl : j < es.toList.length := by simpa using hj
        rw [List.getElem?_eq_getElem hjl] at h1
        simp only [Option.map_some, Option.some.injEq, Prod.mk.injEq] at h1
        simp [hj]
        have := h1.1
        rw [p3] at this
        simpa using this
    refine ⟨(), _, ?_, ev (es.modify j fun e => { e with key := MKey.val k, val := v }, cl), mapA_ex.2 ⟨_, _, ?_, h.setObj _⟩⟩
    · unfold Instr.mapUpdate
      simp only [Sem.run_bind, run_und hd, Result.andThen_ok, run_getObj_map w b es cl hg, hc, hf, hkey, Instr.keyThatStays, MKey.bits, if_true, Sem.run_pure]
      exact run_setObj_map _ hg
    · rw [p4 v]
      apply List.ext_getElem?
      intro i
      have h1 := congrArg (fun l => l[i]?) he
      simp only [List.getElem?_map, Array.getElem?_toList] at h1
      simp only [List.getElem?_map, Array.getElem?_toList, Array.getElem?_modify, List.getElem?_set]
      by_cases hij : j = i
      · subst hij
        simp [hj, p2]
        omega
      · simp [hij, h1]
theorem map_len (hT : TyOk P Ty) {t kt et ty : TypeId} (hk : kdOfT Ty t = .map kt et) {b : Nat} {m : List (κ × Value)} (h : St w (mapA b m :: L)) : (Builtin.len_ #[t] ty #[.map (some b)]).run P w = .ok (.int .i64 (m.length : Int)) w := by
  obtain ⟨d, hd, hd'⟩ := undOf hT hk (by simp)
  rw [kd_map' hd'] at hd
  obtain ⟨es, cl, he, h⟩ := mapA_ex.1 h
  have hlen : es.size = m.length := by have := congrArg List.length he; simpa using this
  have hg := h.get
  simp [Builtin.len_, run_underlying hd, run_getObj_map w b es cl hg, hlen, goInt]
end
end Go.V
/- Texts of terminals, names; lists of texts and numbers: contracts. -/
set_option linter.unusedVariables false
namespace Go.V
def byt (s : ByteArray) (i : Nat) : Nat := (sb s i).toNat
theorem byt_lt (s : ByteArray) (i : Nat) : byt s i < 256 := (sb s i).toNat_lt
theorem sb_get {s : ByteArray} {i : Nat} (h : i < s.size) : sb s i = s[i]'h := by
  unfold sb
  have : i < s.data.size := h
  rw [Array.getElem?_eq_getElem this]; rfl
theorem toList_data (s : ByteArray) : s.toList = s.data.toList := by rw [ByteArray.toList_eq]
theorem bs_eq (x y : ByteArray) : (x.toList == y.toList) = decide (x = y) := by
  rw [Bool.eq_iff_iff, beq_iff_eq, decide_eq_true_eq, toList_data, toList_data]
  exact ⟨fun h => WideShapes.bytes_inj h, fun h => by rw [h]⟩
theorem bs_empty (x : ByteArray) : (x.toList == ByteArray.toList (ByteArray.mk (Array.mk []))) = decide (x.size = 0) := by
  rw [bs_eq, Bool.eq_iff_iff, decide_eq_true_eq, decide_eq_true_eq]
  constructor
  · rintro rfl; rfl
  · intro h
    refine WideShapes.bytes_inj ?_
    have : x.data.toList.length = 0 := by simpa using h
    rw [List.eq_nil_of_length_eq_zero this]
def okT (c : Nat) : Bool := decide (32 ≤ c) && decide (c ≤ 126) && !decide (c = 39)
def isTermS (s : ByteArray) : Bool := decide (1 ≤ s.size) && decide (s.size ≤ 16) && (List.range s.size).all fun i => okT (byt s i)
def okN (i c : Nat) : Bool := decide (c = 95) || (decide (65 ≤ c) && decide (c ≤ 90)) || (decide (97 ≤ c) && decide (c ≤ 122)) || (decide (i ≠ 0) && decide (48 ≤ c) && decide (c ≤ 57))
def isNameS (s : ByteArray) : Bool := decide (1 ≤ s.size) && decide (s.size ≤ 16) && (List.range s.size).all fun i => okN i (byt s i)
theorem all_range {n : Nat} {p : Nat → Bool} : (List.range n).all p = true ↔ ∀ i, i < n → p i = true := by
  simp [List.all_eq_true]
theorem decode_hi (s : ByteArray) (pos : Nat) (h : pos < s.size) (hb : 128 ≤ (s[pos]'h).toNat) : 128 ≤ (Utf8.decode s pos).1 := by
  have e : s.get! (pos + 0) = s[pos]'h := by
    show s.get! pos = _
    simp [ByteArray.get!, getElem!_pos, h]
    rfl
  have hb0 : 128 ≤ (s.get! (pos + 0)).toNat := by rw [e]; exact hb
  have hx : ∀ k, (s.get! (pos + k)).toNat < 256 := fun k => (s.get! (pos + k)).toNat_lt
  have h0 := hx 0; have h1 := hx 1; have h2 := hx 2; have h3 := hx 3
  simp only [Utf8.decode]
  repeat' split
  all_goals simp_all [Utf8.runeError]
  all_goals omega
theorem wrap_u8 (n : Nat) (h : n < 256) : IntKind.u8.wrap (n : Int) = n := by
  have : (n : Int) % (256 : Int) = n := Int.emod_eq_of_lt (by omega) (by omega)
  simp [IntKind.wrap, IntKind.signed, IntKind.bits, this]
theorem bitI_or8 {a b : Nat} (ha : a < 256) (hb : b < 256) : bitI .or .u8 (a : Int) (b : Int) = ((a ||| b : Nat) : Int) := by
  show IntKind.u8.wrap (((BitVec.ofInt 8 (a : Int)) ||| (BitVec.ofInt 8 (b : Int))).toNat : Int) = _
  have e : ∀ n : Nat, BitVec.ofInt 8 (n : Int) = BitVec.ofNat 8 n := fun n => by apply BitVec.eq_of_toNat_eq; simp
  rw [e, e, BitVec.toNat_or, BitVec.toNat_ofNat, BitVec.toNat_ofNat, Nat.mod_eq_of_lt ha, Nat.mod_eq_of_lt hb]
  exact wrap_u8 _ (Nat.or_lt_two_pow (n := 8) ha hb)
theorem or32 : ∀ c : Fin 256, (decide (97 ≤ (c.val ||| 32)) && decide ((c.val ||| 32) ≤ 122)) = ((decide (65 ≤ c.val) && decide (c.val ≤ 90)) || (decide (97 ≤ c.val) && decide (c.val ≤ 122))) := by decide +kernel
instance instRepList1 {α : Type} [Rep α] : Rep (List α) := inferInstance
def sortedL (xs : List Int) : Prop := ∀ i x y, xs[i]? = some x → xs[i + 1]? = some y → x ≤ y
end Go.V
namespace Go.Proofs.YtaheggomcnbbiaaDoor
open Go.V
section
variable {w : World} {L : List Asn} {a : Option Addr} {l c : Nat} {s : ByteArray} {ss : List ByteArray} {xs : List Int}
theorem g_isTerm1 (r : Int) : Run Tryd.prog n_gram_isTerm_S1 [.int .i32 r] w fun v w' => v = .bool (decide (r < 32) || decide (126 < r) || (r == 39)) ∧ w' = w := by
  refine run_gram_isTerm_S1 _ w _ ?_
  refine br_intro (fun h => ⟨by rw [h]; rfl, rfl⟩) fun h => br_intro (fun h2 => ⟨by rw [h, h2]; rfl, rfl⟩) fun h2 => ⟨by rw [h, h2]; rfl, rfl⟩
theorem g_IndexFunc (hs : s.size ≤ 4611686018427387904) : Run Tryd.prog n_strings_IndexFunc [.string s, .func (.func n_gram_isTerm_S1) #[] #[]] w fun v w' => (∃ n : Int, v = .int .i64 n ∧ (decide (n < 0) = (List.range s.size).all fun i => okT (byt s i))) ∧ Gr w w' := by
  refine run_strings_IndexFunc _ _ _ w _ ?_
  have key : Run Tryd.prog n_strings_indexFunc [.string s, .func (.func n_gram_isTerm_S1) #[] #[], .bool true] w fun v w' => (∃ n : Int, v = .int .i64 n ∧ (decide (n < 0) = (List.range s.size).all fun i => okT (byt s i))) ∧ Gr w w' := by
    refine run_strings_indexFunc _ _ _ _ w _ ?_
    have h0 := St.all w
    refine ⟨_, _, run_range_string w 9 s Tryd.underlying9, Ev.push _ _, _, rfl, ?_⟩
    have h1 := h0.push (.stringIter s 0)
    generalize w.heap.size = b at h1
    refine ⟨fun w' => ∃ p, p ≤ s.size ∧ (∀ i, i < p → okT (byt s i) = true) ∧ St w' (blk b (.stringIter s p) :: all w), fun w' => s.size - w'.iterPos b, ⟨0, by omega, fun i hi => by omega, h1⟩, ?_⟩
    rintro _ w2 ⟨p, hp, hall, h2⟩
    have hk := h2.get
    by_cases hlt : p < s.size
    · have hev : Ev w2 (w2.iterAt b s (p + (Utf8.decode s p).2)) := by
        refine ⟨rfl, rfl, rfl, by simp [World.iterAt], ?_, ?_⟩ <;>
        · intro x d hx
          simp only [World.iterAt]
          rw [Array.getElem?_setIfInBounds_ne]; exact hx
          intro e; subst e; rw [hk] at hx; cases hx
      refine ⟨_, _, Lib.run_next_any_at w2 b s p _ hk hlt, hev, .inr ⟨_, _, rfl, ifT_iff.2 ⟨rfl, (g_isTerm1 _).mono ?_⟩⟩⟩
      have h3 : St (w2.iterAt b s (p + (Utf8.decode s p).2)) (blk b (.stringIter s (p + (Utf8.decode s p).2)) :: all w) := h2.setObj _
      rintro _ _ ⟨rfl, rfl⟩
      refine ⟨_, rfl, ?_⟩
      have hget : byt s p = (s[p]'hlt).toNat := by unfold byt; rw [sb_get hlt]
      refine br_intro (fun h4 => ?_) fun h4 => ?_
      · refine ⟨⟨_, rfl, ?_⟩, h3.tail.has⟩
        have : okT (byt s p) = false := by
          by_cases h5 : (s[p]'hlt).toNat < 128
          · rw [decode_ascii s p hlt h5] at h4
            unfold okT
            rw [hget]
            simp at h4 ⊢
            omega
          · unfold okT; rw [hget]; simp; omega
        have e1 : (List.range s.size).all (fun i => okT (byt s i)) = false := by
          rw [List.all_eq_false]; exact ⟨p, by simpa using hlt, by simp [this]⟩
        rw [e1]; simp
      · have h5 : (s[p]'hlt).toNat < 128 := by
          refine Nat.lt_of_not_le fun h5 => ?_
          have := decode_hi s p hlt h5
          simp at h4; omega
        rw [decode_ascii s p hlt h5] at h3 h4 ⊢
        have hok : okT (byt s p) = true := by
          unfold okT; rw [hget]; simp at h4 ⊢; omega
        refine ⟨⟨p + 1, hlt, fun i hi => ?_, h3⟩, ?_⟩
        · by_cases e : i = p
          · rw [e]; exact hok
          · exact hall i (by omega)
        · have e1 : World.iterPos w2 b = p := by simp [World.iterPos, hk]
          have e2 : World.iterPos (w2.iterAt b s (p + 1)) b = p + 1 := by simp [World.iterPos, h3.get]
          show s.size - World.iterPos (w2.iterAt b s (p + 1)) b < s.size - World.iterPos w2 b
          rw [e1, e2]; omega
    · refine ⟨_, _, Lib.run_next_end_at w2 b s p _ hk hlt, Ev.refl _, .inl ⟨rfl, ⟨_, rfl, ?_⟩, h2.tail.has⟩⟩
      have : (List.range s.size).all (fun i => okT (byt s i)) = true := all_range.2 fun i hi => hall i (by omega)
      rw [this]; rfl
  refine key.mono ?_
  rintro _ w' ⟨⟨n, rfl, hn⟩, hg⟩
  exact ⟨n, rfl, ⟨n, rfl, hn⟩, hg⟩
theorem g_isTerm (hs : s.size ≤ 4611686018427387904) : Run Tryd.prog n_gram_isTerm [.string s] w fun v w' => v = .bool (isTermS s) ∧ Gr w w' := by
  refine run_gram_isTerm _ w _ ?_
  unfold vc_gram_isTerm
  rw [bs_empty]
  unfold isTermS
  refine br_intro (fun h => ?_) fun h => ?_
  · have h : 1 ≤ s.size := by simp only [Bool.not_eq_true', decide_eq_false_iff_not] at h; omega
    refine br_intro (fun h2 => ?_) fun h2 => ?_
    · have h2 : s.size ≤ 16 := by have := of_decide_eq_true h2; omega
      refine (g_IndexFunc hs).mono ?_
      rintro _ w' ⟨⟨n, rfl, hn⟩, hg⟩
      exact ⟨n, rfl, by rw [hn]; simp [h, h2], hg⟩
    · have h2 : ¬ s.size ≤ 16 := by have := of_decide_eq_false h2; omega
      exact ⟨by simp [h2], Gr.refl _⟩
  · have h : ¬ 1 ≤ s.size := by simp only [Bool.not_eq_false', decide_eq_true_eq] at h; omega
    exact ⟨by simp [h], Gr.refl _⟩
theorem g_isName (hs : s.size ≤ 4611686018427387904) : Run Tryd.prog n_gram_isName [.string s] w fun v w' => v = .bool (isNameS s) ∧ w' = w := by
  refine run_gram_isName _ w _ ?_
  unfold vc_gram_isName
  rw [bs_empty]
  refine ⟨fun n w' => ∃ j : Nat, n = j ∧ j ≤ s.size ∧ (∀ i, i < j → okN i (byt s i) = true) ∧ w' = w, fun n _ => s.size - n.toNat, ⟨0, rfl, by omega, fun i hi => by omega, rfl⟩, ?_⟩
  rintro _ n w1 ⟨j, rfl, hj, hall, rfl⟩
  refine br_intro (fun h => ?_) fun h => ?_
  · have h : j < s.size := by have := of_decide_eq_true h; omega
    refine ⟨⟨by omega, by omega⟩, ?_⟩
    rw [Int.toNat_natCast]
    have hlt := byt_lt s j
    have hor := or32 ⟨byt s j, hlt⟩
    have e8 : bitI .or .u8 ((sb s j).toNat : Int) 32 = ((byt s j ||| 32 : Nat) : Int) := bitI_or8 (b := 32) hlt (by omega)
    rw [e8]
    show br (((byt s j : Nat) : Int) != 95) _ _
    have stp : okN j (byt s j) = true → inI ((j : Int) + 1) ∧ (∃ j' : Nat, (j : Int) + 1 = j' ∧ j' ≤ s.size ∧ (∀ i, i < j' → okN i (byt s i) = true) ∧ w1 = w1) ∧ s.size - ((j : Int) + 1).toNat < s.size - (j : Int).toNat := fun hok => by
      refine ⟨⟨by omega, by omega⟩, ⟨j + 1, by simp, by omega, fun i hi => ?_, rfl⟩, msr h⟩
      by_cases e : i = j
      · rw [e]; exact hok
      · exact hall i (by omega)
    have bad : okN j (byt s j) = false → Value.bool false = Value.bool (isNameS s) ∧ w1 = w1 := fun hno => by
      refine ⟨?_, rfl⟩
      have : (List.range s.size).all (fun i => okN i (byt s i)) = false := by
        rw [List.all_eq_false]; exact ⟨j, by simpa using h, by simp [hno]⟩
      unfold isNameS; rw [this]; simp
    have okd : (byt s j = 95 ∨ (97 ≤ (byt s j ||| 32) ∧ (byt s j ||| 32) ≤ 122) ∨ (j ≠ 0 ∧ 48 ≤ byt s j ∧ byt s j ≤ 57)) ↔ okN j (byt s j) = true := by
      have hor' : (97 ≤ (byt s j ||| 32) ∧ (byt s j ||| 32) ≤ 122) ↔ ((65 ≤ byt s j ∧ byt s j ≤ 90) ∨ (97 ≤ byt s j ∧ byt s j ≤ 122)) := by
        have := congrArg (· = true) hor
        simpa using this
      rw [hor']
      unfold okN
      simp only [Bool.or_eq_true, Bool.and_eq_true, decide_eq_true_eq]
      omega
    generalize byt s j ||| 32 = d at *
    have yes : (byt s j = 95 ∨ (97 ≤ d ∧ d ≤ 122) ∨ (j ≠ 0 ∧ 48 ≤ byt s j ∧ byt s j ≤ 57)) → _ := fun hh => stp (okd.1 hh)
    have no : ¬ (byt s j = 95 ∨ (97 ≤ d ∧ d ≤ 122) ∨ (j ≠ 0 ∧ 48 ≤ byt s j ∧ byt s j ≤ 57)) → _ := fun hh => bad (by cases hq : okN j (byt s j); rfl; exact absurd (okd.2 hq) hh)
    clear okd hor e8 stp bad
    refine br_intro (fun h1 => ?_) fun h1 => ?_
    · have h1 : byt s j ≠ 95 := by simp at h1; omega
      refine br_intro (fun h2 => ?_) fun h2 => ?_
      · have h2 : d < 97 := by have := of_decide_eq_true h2; omega
        refine br_intro (fun h3 => no (by simp at h3; omega)) fun h3 => br_intro (fun h4 => no (by have : ((byt s j : Nat) : Int) < 48 := of_decide_eq_true h4; omega)) fun h4 => br_intro (fun h5 => no (by have : 57 < ((byt s j : Nat) : Int) := of_decide_eq_true h5; omega)) fun h5 => yes (.inr (.inr ?_))
        have h4 : ¬ ((byt s j : Nat) : Int) < 48 := of_decide_eq_false h4
        have h5 : ¬ 57 < ((byt s j : Nat) : Int) := of_decide_eq_false h5
        simp at h3; omega
      · have h2 : 97 ≤ d := by have := of_decide_eq_false h2; omega
        refine br_intro (fun h6 => ?_) fun h6 => yes (.inr (.inl ⟨h2, by have := of_decide_eq_false h6; omega⟩))
        have h6 : 122 < d := by have := of_decide_eq_true h6; omega
        refine br_intro (fun h3 => no (by simp at h3; omega)) fun h3 => br_intro (fun h4 => no (by have : ((byt s j : Nat) : Int) < 48 := of_decide_eq_true h4; omega)) fun h4 => br_intro (fun h5 => no (by have : 57 < ((byt s j : Nat) : Int) := of_decide_eq_true h5; omega)) fun h5 => yes (.inr (.inr ?_))
        have h4 : ¬ ((byt s j : Nat) : Int) < 48 := of_decide_eq_false h4
        have h5 : ¬ 57 < ((byt s j : Nat) : Int) := of_decide_eq_false h5
        simp at h3; omega
    · exact yes (.inl (by simp at h1; omega))
  · have h : j = s.size := by have := of_decide_eq_false h; omega
    subst h
    have hall' := all_range.2 hall
    unfold isNameS
    rw [hall']
    refine br_intro (fun h => ?_) fun h => ?_
    · have h : 1 ≤ s.size := by simp only [Bool.not_eq_true', decide_eq_false_iff_not] at h; omega
      refine ⟨?_, rfl⟩
      have e : decide ((s.size : Int) ≤ 16) = decide (s.size ≤ 16) := by rw [Bool.eq_iff_iff]; simp only [decide_eq_true_eq]; omega
      rw [e]; simp [h]
    · have h : ¬ 1 ≤ s.size := by simp only [Bool.not_eq_false', decide_eq_true_eq] at h; omega
      exact ⟨by simp [h], rfl⟩
theorem g_Contains (hx : rdS (hp w) xs a l) (hb : l ≤ 4611686018427387904) (x : Int) : Run Tryd.prog n_slices_Contains_int_int_ [.slice a l c, .int .i64 x] w fun v w' => v = .bool (decide (x ∈ xs)) ∧ w' = w := by
  refine run_slices_Contains_int_int_ _ _ _ _ w _ ?_
  have key : Run Tryd.prog n_slices_Index_int_int_ [.slice a l c, .int .i64 x] w fun v w' => (∃ n : Int, v = .int .i64 n ∧ decide (0 ≤ n) = decide (x ∈ xs)) ∧ w' = w := by
    refine run_slices_Index_int_int_ _ _ _ _ w _ ?_
    have hl := hx.1
    refine ⟨fun n w' => ∃ j : Nat, n = j ∧ j ≤ l ∧ x ∉ xs.take j ∧ w' = w, fun n _ => l - n.toNat, ⟨0, rfl, by omega, by simp, rfl⟩, ?_⟩
    rintro _ n w1 ⟨j, rfl, hj, hni, rfl⟩
    refine br_intro (fun h => ?_) fun h => ?_
    · have h : j < l := by have := of_decide_eq_true h; omega
      obtain ⟨y, ad, hy1, rfl, hy2⟩ := hx.get1 h
      refine idx_i rfl h ⟨y, hy2 _ (sub.refl _), br_intro (fun h2 => ?_) fun h2 => ?_⟩
      · have h2 : x = y := by simpa using h2
        subst h2
        exact ⟨⟨_, rfl, by rw [decide_eq_true (List.mem_of_getElem? hy1)]; simp⟩, rfl⟩
      · have h2 : x ≠ y := by simpa using h2
        refine ⟨⟨by omega, by omega⟩, ⟨j + 1, by simp, by omega, ?_, rfl⟩, msr h⟩
        rw [take_succ_get hy1, List.mem_append]
        simp [hni, h2]
    · have h : j = l := by have := of_decide_eq_false h; omega
      subst h
      rw [← hl, List.take_length] at hni
      exact ⟨⟨_, rfl, by rw [decide_eq_false hni]; rfl⟩, rfl⟩
  refine key.mono ?_
  rintro _ _ ⟨⟨n, rfl, hn⟩, rfl⟩
  exact ⟨n, rfl, by rw [hn], rfl⟩
theorem g_isNaN (x : Int) : Run Tryd.prog n_cmp_isNaN_int_ [.int .i64 x] w fun v w' => v = .bool false ∧ w' = w := run_cmp_isNaN_int_ _ w _ ⟨by simp, rfl⟩
theorem g_Less (x y : Int) : Run Tryd.prog n_cmp_Less_int_ [.int .i64 x, .int .i64 y] w fun v w' => v = .bool (decide (x < y)) ∧ w' = w := by
  refine run_cmp_Less_int_ _ _ w _ ((g_isNaN x).mono ?_)
  rintro _ _ ⟨rfl, rfl⟩
  exact ⟨_, rfl, br_f rfl ⟨rfl, rfl⟩⟩
theorem g_IsSorted (hx : rdS (hp w) xs a l) (hb : l ≤ 4611686018427387904) : Run Tryd.prog n_slices_IsSorted_int_int_ [.slice a l c] w fun v w' => (∃ r : Bool, v = .bool r ∧ (r = true ↔ sortedL xs)) ∧ hp w' = hp w := by
  refine run_slices_IsSorted_int_int_ _ _ _ w _ ?_
  have hl := hx.1
  refine ⟨⟨by omega, by omega⟩, fun n w' => ∃ j : Nat, n = (l : Int) - 1 - j ∧ j ≤ l ∧ (∀ i x y, l - 1 - j ≤ i → xs[i]? = some x → xs[i + 1]? = some y → x ≤ y) ∧ hp w' = hp w, fun n _ => n.toNat, ⟨0, by omega, by omega, ?_, rfl⟩, ?_⟩
  · intro i x y hi h1 h2
    have := (List.getElem?_eq_some_iff.1 h2).1; omega
  rintro _ n w1 ⟨j, rfl, hj, hall, hw⟩
  refine br_intro (fun h => ?_) fun h => ?_
  · have h := of_decide_eq_true h
    have hj2 : j + 1 < l := by omega
    intro w2 hd
    have hw2 := (hp_drawn hd).trans hw
    have e1 : ((l : Int) - 1 - j) = ((l - 1 - j : Nat) : Int) := by omega
    have e2 : (((l - 1 - j : Nat) : Int) - 1) = ((l - 2 - j : Nat) : Int) := by omega
    rw [e1, e2]
    obtain ⟨x, ad, hx1, rfl, hx2⟩ := hx.get1 (by omega : l - 1 - j < l)
    obtain ⟨y, ad2, hy1, e3, hy2⟩ := hx.get1 (by omega : l - 2 - j < l)
    cases e3
    refine ⟨fun w' => hp w' = hp w, hw2, idx_i rfl (by omega) ⟨x, fun w3 h3 => hx2 _ (hp_sub h3), ⟨by omega, by omega⟩, idx_i rfl (by omega) ⟨y, fun w3 h3 => hy2 _ (hp_sub h3), (g_Less x y).mono ?_⟩⟩⟩
    rintro _ _ ⟨rfl, rfl⟩
    refine ⟨_, rfl, br_intro (fun h5 => ?_) fun h5 => ?_⟩
    · have h5 := of_decide_eq_true h5
      refine ⟨⟨false, rfl, by simp; intro hs; have := hs (l - 2 - j) y x hy1 (by rw [show l - 2 - j + 1 = l - 1 - j by omega]; exact hx1); omega⟩, hw2⟩
    · have h5 := of_decide_eq_false h5
      refine ⟨⟨by omega, by omega⟩, ⟨j + 1, by omega, by omega, fun i x' y' hi h1 h2 => ?_, hw2⟩, by dsimp only; omega⟩
      by_cases e : i = l - 2 - j
      · subst e
        rw [hy1] at h1
        rw [show l - 2 - j + 1 = l - 1 - j by omega, hx1] at h2
        cases h1; cases h2; omega
      · exact hall i x' y' (by omega) h1 h2
  · have h := of_decide_eq_false h
    exact ⟨⟨true, rfl, by simp; exact fun i x y h1 h2 => hall i x y (by have := (List.getElem?_eq_some_iff.1 h2).1; omega) h1 h2⟩, hw⟩
theorem g_symbols1 (hs : s.size ≤ 4611686018427387904) : Run Tryd.prog n_gram_symbols_S1 [.string s] w fun v w' => v = .bool (!isNameS s) ∧ w' = w := by
  refine run_gram_symbols_S1 _ w _ ((g_isName hs).mono ?_)
  rintro _ _ ⟨rfl, rfl⟩
  exact ⟨_, rfl, rfl, rfl⟩
theorem g_ContainsNames (hx : rdS (hp w) ss a l) (hb : l ≤ 4611686018427387904) (hs : ∀ s ∈ ss, s.size ≤ 4611686018427387904) : Run Tryd.prog n_slices_ContainsFunc_string_string_ [.slice a l c, .func (.func n_gram_symbols_S1) #[] #[]] w fun v w' => v = .bool (!ss.all isNameS) ∧ w' = w := by
  refine run_slices_ContainsFunc_string_string_ _ _ _ _ _ w _ ?_
  have key : Run Tryd.prog n_slices_IndexFunc_string_string_ [.slice a l c, .func (.func n_gram_symbols_S1) #[] #[]] w fun v w' => (∃ n : Int, v = .int .i64 n ∧ decide (0 ≤ n) = !ss.all isNameS) ∧ w' = w := by
    refine run_slices_IndexFunc_string_string_ _ _ _ _ _ w _ ?_
    have hl := hx.1
    refine ⟨fun n w' => ∃ j : Nat, n = j ∧ j ≤ l ∧ (ss.take j).all isNameS = true ∧ w' = w, fun n _ => l - n.toNat, ⟨0, rfl, by omega, rfl, rfl⟩, ?_⟩
    rintro _ n w1 ⟨j, rfl, hj, hni, rfl⟩
    refine br_intro (fun h => ?_) fun h => ?_
    · have h : j < l := by have := of_decide_eq_true h; omega
      obtain ⟨y, ad, hy1, rfl, hy2⟩ := hx.get1 h
      refine idx_i rfl h ⟨y, hy2 _ (sub.refl _), ifT_iff.2 ⟨rfl, (g_symbols1 (hs y (List.mem_of_getElem? hy1))).mono ?_⟩⟩
      rintro _ _ ⟨rfl, rfl⟩
      refine ⟨_, rfl, br_intro (fun h2 => ?_) fun h2 => ?_⟩
      · have : ss.all isNameS = false := by rw [List.all_eq_false]; exact ⟨y, List.mem_of_getElem? hy1, by simpa using h2⟩
        exact ⟨⟨_, rfl, by rw [this]; simp⟩, rfl⟩
      · refine ⟨⟨by omega, by omega⟩, ⟨j + 1, by simp, by omega, ?_, rfl⟩, msr h⟩
        rw [List.take_add_one, hy1, List.all_append, hni]
        simpa using h2
    · have h : j = l := by have := of_decide_eq_false h; omega
      subst h
      rw [← hl, List.take_length] at hni
      exact ⟨⟨_, rfl, by rw [hni]; rfl⟩, rfl⟩
  refine key.mono ?_
  rintro _ _ ⟨⟨n, rfl, hn⟩, rfl⟩
  exact ⟨n, rfl, by rw [hn], rfl⟩
theorem nodup_snoc {l : List ByteArray} {x : ByteArray} : (l ++ [x]).Nodup ↔ l.Nodup ∧ x ∉ l := by
  rw [List.nodup_append]
  constructor
  · rintro ⟨h1, _, h3⟩; exact ⟨h1, fun h => h3 x h x (by simp) rfl⟩
  · rintro ⟨h1, h2⟩; exact ⟨h1, by simp, fun a ha b hb e => by simp at hb; subst hb; subst e; exact h2 ha⟩
theorem g_unlike (hx : rdS (hp w) ss a l) (hb : l ≤ 4611686018427387904) : Run Tryd.prog n_gram_unlike [.slice a l c] w fun v w' => v = .bool (decide ss.Nodup) ∧ Gr w w' := by
  refine run_gram_unlike _ _ _ w _ ?_
  have hl := hx.1
  refine new_i (St.all w) fun b w1 h => ?_
  have h := mapA_new (κ := ByteArray) h
  refine ⟨fun n w' => ∃ (j : Nat) (m : List (ByteArray × Value)), n = j ∧ j ≤ l ∧ (∀ s, (assoc s m).isSome = true ↔ s ∈ ss.take j) ∧ (∀ s v, assoc s m = some v → ∃ k : Nat, v = .int .i64 (k : Int) ∧ k ≤ j) ∧ m.length ≤ j ∧ (m.length = j ↔ (ss.take j).Nodup) ∧ St w' (mapA b m :: all w), fun n _ => l - n.toNat,
    ⟨0, [], rfl, by omega, by simp [assoc], fun s v h => by simp [assoc] at h, by simp, by simp, h⟩, ?_⟩
  clear h
  rintro _ n w2 ⟨j, m, rfl, hj, hm1, hm2, hm3, hm4, h⟩
  refine br_intro (fun hlt => ?_) fun hlt => ?_
  · have hlt : j < l := by have := of_decide_eq_true hlt; omega
    obtain ⟨s, ad, hs1, rfl, hs2⟩ := hx.get1 hlt
    refine idx_i rfl hlt ⟨s, hs2 _ h.gone1, (map_lookup (κ := ByteArray) tyOk (rfl : kdOfT Ty _ = .map _ _) Tryd.underlying9 rfl rfl h s).mono ?_⟩
    rintro _ _ ⟨rfl, rfl⟩
    obtain ⟨k, hk, hkj⟩ : ∃ k : Nat, (assoc s m).getD (.int .i64 0) = .int .i64 (k : Int) ∧ k ≤ j := by
      cases ha : assoc s m with
      | none => exact ⟨0, rfl, by omega⟩
      | some v => obtain ⟨k, rfl, hk⟩ := hm2 s v ha; exact ⟨k, rfl, hk⟩
    refine ⟨_, hk, ⟨by omega, by omega⟩, (map_update (κ := ByteArray) tyOk (rfl : kdOfT Ty _ = .map _ _) Tryd.underlying9 h s _).mono ?_⟩
    rintro _ w4 h
    have et : ss.take (j + 1) = ss.take j ++ [s] := by rw [List.take_add_one, hs1]; rfl
    refine ⟨⟨by omega, by omega⟩, ⟨j + 1, _, by simp, by omega, fun s' => ?_, fun s' v hv => ?_, ?_, ?_, h⟩, msr hlt⟩
    · rw [assoc_put, et, List.mem_append, ← hm1]
      by_cases e : s' = s <;> simp [e]
    · rw [assoc_put] at hv
      split at hv
      · cases hv; exact ⟨k + 1, by simp, by omega⟩
      · obtain ⟨k', rfl, hk'⟩ := hm2 s' v hv; exact ⟨k', rfl, by omega⟩
    · rw [aput_len]; split <;> omega
    · rw [aput_len, et, nodup_snoc, ← hm4, ← hm1]
      by_cases e : (assoc s m).isSome = true
      · simp [e]; omega
      · simp [e]
  · have hlt : j = l := by have := of_decide_eq_false hlt; omega
    subst hlt
    refine ⟨_, map_len tyOk (rfl : kdOfT Ty _ = .map _ _) h, _, rfl, ?_, h.gone1⟩
    rw [← hl, List.take_length] at hm4
    congr 1
    rw [Bool.eq_iff_iff, decide_eq_true_eq, ← hm4, hl]
    simp only [beq_iff_eq]; omega
end
end Go.Proofs.YtaheggomcnbbiaaDoor
/- Types by their names (written by a program). -/
namespace Go.Proofs.YtaheggomcnbbiaaDoor
abbrev ty_int64 : TypeId := 2
abbrev und_int64 := @Tryd.underlying2
abbrev ty_int : TypeId := 3
abbrev und_int := @Tryd.underlying3
abbrev ty_bool : TypeId := 4
abbrev und_bool := @Tryd.underlying4
abbrev ty_uint8 : TypeId := 5
abbrev und_uint8 := @Tryd.underlying5
abbrev ty_string : TypeId := 9
abbrev und_string := @Tryd.underlying9
abbrev ty_uintptr : TypeId := 12
abbrev und_uintptr := @Tryd.underlying12
abbrev ty_int32 : TypeId := 21
abbrev und_int32 := @Tryd.underlying21
abbrev ty_s_api_Term : TypeId := 22
abbrev und_s_api_Term := @Tryd.underlying22
abbrev ty_s_string : TypeId := 23
abbrev und_s_string := @Tryd.underlying23
abbrev ty_s_int : TypeId := 24
abbrev und_s_int := @Tryd.underlying24
abbrev ty_s_api_Prod : TypeId := 25
abbrev und_s_api_Prod := @Tryd.underlying25
abbrev ty_api_Grammar : TypeId := 27
abbrev und_api_Grammar := @Tryd.underlying27
abbrev ty_s_bool : TypeId := 30
abbrev und_s_bool := @Tryd.underlying30
abbrev ty_api_Errno : TypeId := 31
abbrev und_api_Errno := @Tryd.underlying31
abbrev ty_s_s_int : TypeId := 35
abbrev und_s_s_int := @Tryd.underlying35
abbrev ty_api_Prod : TypeId := 51
abbrev und_api_Prod := @Tryd.underlying51
abbrev ty_s_p_bits_Set : TypeId := 62
abbrev und_s_p_bits_Set := @Tryd.underlying62
abbrev ty_first_sets : TypeId := 64
abbrev und_first_sets := @Tryd.underlying64
abbrev ty_p_first_sets : TypeId := 65
abbrev und_p_first_sets := @Tryd.underlying65
abbrev ty_p_bits_Set : TypeId := 67
abbrev und_p_bits_Set := @Tryd.underlying67
abbrev ty_p_presageref07_Begin : TypeId := 69
abbrev und_p_presageref07_Begin := @Tryd.underlying69
abbrev ty_s_s_bool : TypeId := 71
abbrev und_s_s_bool := @Tryd.underlying71
abbrev ty_presageref07_Begin : TypeId := 73
abbrev und_presageref07_Begin := @Tryd.underlying73
abbrev ty_api_Term : TypeId := 81
abbrev und_api_Term := @Tryd.underlying81
abbrev eqg_api_Term := @Tryd.eqGuardType81
abbrev sih_api_Term := @Tryd.stoodInHeld81
abbrev ty_reach_marks : TypeId := 85
abbrev und_reach_marks := @Tryd.underlying85
abbrev ty_p_presageref06_chart : TypeId := 97
abbrev und_p_presageref06_chart := @Tryd.underlying97
abbrev ty_s_presageref06_spot : TypeId := 100
abbrev und_s_presageref06_spot := @Tryd.underlying100
abbrev ty_s_s_presageref06_spot : TypeId := 101
abbrev und_s_s_presageref06_spot := @Tryd.underlying101
abbrev ty_presageref06_chart : TypeId := 103
abbrev und_presageref06_chart := @Tryd.underlying103
abbrev ty_presageref06_spot : TypeId := 105
abbrev und_presageref06_spot := @Tryd.underlying105
abbrev ty_s_uint64 : TypeId := 109
abbrev und_s_uint64 := @Tryd.underlying109
abbrev ty_bits_words : TypeId := 110
abbrev und_bits_words := @Tryd.underlying110
abbrev ty_bits_Set : TypeId := 112
abbrev und_bits_Set := @Tryd.underlying112
abbrev ty_uint64 : TypeId := 121
abbrev und_uint64 := @Tryd.underlying121
abbrev ty_m_int_int : TypeId := 128
abbrev und_m_int_int := @Tryd.underlying128
abbrev ty_uint : TypeId := 134
abbrev und_uint := @Tryd.underlying134
abbrev ty_m_string_int : TypeId := 138
abbrev und_m_string_int := @Tryd.underlying138
abbrev ty_uint32 : TypeId := 148
abbrev und_uint32 := @Tryd.underlying148
abbrev ty_p_uint8 : TypeId := 152
abbrev und_p_uint8 := @Tryd.underlying152
end Go.Proofs.YtaheggomcnbbiaaDoor
/- Grammars: what they read as; may one be? (1) -/
set_option linter.unusedVariables false
namespace Go.V
structure TermT where
  name : ByteArray
  level : Int
structure ProdT where
  left : Int
  right : List Int
  level : Int
structure GramT where
  terms : List TermT
  nons : List ByteArray
  levels : List Int
  start : Int
  prods : List ProdT
instance : Rep TermT := { n := 2, rd := fun _ t vs => vs = [.string t.name, .int .i64 t.level], mono := fun _ h => h, len := fun h => by rw [h]; rfl }
instance : Rep ProdT := { n := 3, rd := fun h p vs => ∃ a l c, vs = [.int .i64 p.left, .slice a l c, .int .i64 p.level] ∧ l ≤ c ∧ rdS h p.right a l, mono := fun s ⟨a, l, c, h1, h2, h3⟩ => ⟨a, l, c, h1, h2, h3.mono s⟩, len := fun ⟨_, _, _, h, _⟩ => by rw [h]; rfl }
/- where a grammar's lists lie -/
structure GA where
  ta : Option Addr
  tl : Nat
  tc : Nat
  na : Option Addr
  nl : Nat
  nc : Nat
  la : Option Addr
  ll : Nat
  lc : Nat
  s : Int
  pa : Option Addr
  pl : Nat
  pc : Nat
def GA.cells (x : GA) : List Value := [.slice x.ta x.tl x.tc, .slice x.na x.nl x.nc, .slice x.la x.ll x.lc, .int .i64 x.s, .slice x.pa x.pl x.pc]
structure gR (h : Hp) (g : GramT) (x : GA) : Prop where
  t : rdS h g.terms x.ta x.tl
  n : rdS h g.nons x.na x.nl
  l : rdS h g.levels x.la x.ll
  s : x.s = g.start
  p : rdS h g.prods x.pa x.pl
  tc : x.tl ≤ x.tc
  nc : x.nl ≤ x.nc
  lc : x.ll ≤ x.lc
  pc : x.pl ≤ x.pc
theorem gR.mono {h h' : Hp} {g : GramT} {x : GA} (s : sub h h') (r : gR h g x) : gR h' g x := ⟨r.t.mono s, r.n.mono s, r.l.mono s, r.s, r.p.mono s, r.tc, r.nc, r.lc, r.pc⟩
instance : Rep GramT := { n := 5, rd := fun h g vs => ∃ x : GA, vs = x.cells ∧ gR h g x, mono := fun s ⟨x, h1, h2⟩ => ⟨x, h1, h2.mono s⟩, len := fun ⟨_, h, _⟩ => by rw [h]; rfl }
/- sizes that memory bounds -/
def okG (g : GramT) : Prop := g.terms.length ≤ 17592186044416 ∧ g.nons.length ≤ 17592186044416 ∧ g.levels.length ≤ 17592186044416 ∧ g.prods.length * 40 ≤ 140737488351232 ∧ (∀ t ∈ g.terms, t.name.size ≤ 140737488351232 ∧ anyI t.level) ∧ (∀ s ∈ g.nons, s.size ≤ 140737488351232) ∧ (∀ p ∈ g.prods, p.right.length ≤ 17592186043904)
theorem storeRow_st {L : List Asn} {b : Nat} : ∀ (vs us : List Value) (i : Nat) {w : World}, i + vs.length ≤ us.length → St w (cel b us :: L) → St (storeRow w ⟨b, 0, none⟩ i vs) (cel b (us.take i ++ vs ++ us.drop (i + vs.length)) :: L)
  | [], us, i, w, _, h => by simpa [storeRow] using h
  | v :: vs, us, i, w, hl, h => by
    have h1 := h.setC i v
    have h2 := storeRow_st vs (us.set i v) (i + 1) (by simp at hl ⊢; omega) h1
    simp only [List.length_cons] at hl
    have e : (us.set i v).take (i + 1) ++ vs ++ (us.set i v).drop (i + 1 + vs.length) = us.take i ++ v :: vs ++ us.drop (i + (vs.length + 1)) := by
      rw [List.drop_set_of_lt (by omega), List.take_set, List.take_add_one, List.set_append_right _ _ (by simp; omega)]
      have : us[i]? = some (us[i]'(by omega)) := List.getElem?_eq_getElem _
      rw [this]
      have e2 : i - (us.take i).length = 0 := by simp; omega
      rw [e2]
      simp
      congr 1; omega
    rw [e] at h2
    simp only [storeRow, add_lit0, List.length_cons]
    exact h2
theorem mayStore_i {w : World} {L : List Asn} {b : Nat} {us : List Value} (h : St w (cel b us :: L)) : ∀ (vs : List Value) (i : Nat), i + vs.length ≤ us.length → (∀ v ∈ vs, oneC v = true) → mayStore w ⟨b, 0, none⟩ i vs
  | [], i, _, _ => trivial
  | v :: vs, i, hl, h1 => by
    simp only [List.length_cons] at hl
    refine ⟨h1 v (by simp), ⟨us[i]'(by omega), ?_⟩, ?_, mayStore_i h vs (i + 1) (by omega) fun u hu => h1 u (by simp [hu])⟩
    · rw [add_lit0, h.cell]; exact List.getElem?_eq_getElem _
    · rw [add_lit0]; exact h.frozen i none
theorem stR_i {w : World} {L : List Asn} {b : Nat} {us vs : List Value} {k : World → Prop} (h : St w (cel b us :: L)) (hl : us.length = vs.length) (h1 : ∀ v ∈ vs, oneC v = true) (hk : ∀ w', St w' (cel b vs :: L) → k w') : stR w ⟨b, 0, none⟩ vs k := by
  refine ⟨mayStore_i h vs 0 (by omega) h1, fun w' hw => ?_⟩
  subst hw
  have h2 := storeRow_st vs us 0 (by omega) h
  refine hk _ ?_
  have e : us.take 0 ++ vs ++ us.drop (0 + vs.length) = vs := by rw [List.take_zero, List.nil_append, List.drop_of_length_le (by omega), List.append_nil]
  rwa [e] at h2
theorem slc_from {a : Option Addr} {len cap lo sz : Nat} {k : Option Addr → Nat → Nat → Prop} (h1 : lo ≤ len) (h2 : len ≤ cap) (hk : k (slP a lo cap sz) (len - lo) (cap - lo)) : slc a len cap (some (lo : Int)) none none sz k :=
  ⟨.inl rfl, .inl rfl, ⟨by show (0 : Int) ≤ (lo : Int); omega, by show (lo : Int) ≤ (len : Int); omega⟩, by simpa using hk⟩
def SymsOk (g : GramT) (added : Nat) : Prop := g.terms[0]? = some ⟨.empty, 0⟩ ∧ added < g.nons.length ∧ g.terms.length ≤ 65 ∧ g.nons.length ≤ 64 + added ∧ g.terms.length - 1 + (g.nons.length - added) ≤ 64 ∧
  (∀ t ∈ g.terms.drop 1, isTermS t.name = true ∧ 0 ≤ t.level ∧ t.level ≤ g.levels.length) ∧ (∀ (i : Nat) v, g.levels[i]? = some v → 1 ≤ v ∧ v ≤ 3 ∧ ∃ t ∈ g.terms.drop 1, t.level = (i : Int) + 1) ∧
  ((g.terms.drop 1).map TermT.name).Nodup ∧ (g.nons.drop added).Nodup ∧ ∀ s ∈ g.nons.drop added, isNameS s = true
end Go.V
namespace Go.Proofs.YtaheggomcnbbiaaDoor
open Go.V
section
variable {w : World} {L : List Asn} {g : GramT} {x : GA}
theorem cmpTerm (w : World) (xo yo : Operand) (s e : ByteArray) (n m : Int) : Sem.run Tryd.prog (cmpS .neq ty_api_Term xo yo (.agg #[.string s, .int .i64 n]) (.agg #[.string e, .int .i64 m])) w = .ok (.bool (!(decide (s = e) && (n == m)))) w := by
  unfold cmpS
  rw [Sem.run_bind, run_eqGuard_agg w _ _ _ _ _ _ eqg_api_Term]
  simp only [Result.andThen_ok]
  have ht : Tryd.prog.underlying ty_api_Term = some (.struct (Tryd.prog.fieldsOf ty_api_Term)) := by kernel_rfl
  have hi : Tryd.prog.underlying ty_int = some (.int .i64) := und_int
  have hs : Tryd.prog.underlying ty_string = some .string := und_string
  have hf : (Tryd.prog.fieldsOf ty_api_Term).toList = [{ name := "Name", type := ty_string, offset := 0, embedded := false, tag := "", pkgPath := "", byteOffset := 0 }, { name := "Level", type := ty_int, offset := 1, embedded := false, tag := "", pkgPath := "", byteOffset := 16 }] := by kernel_rfl
  have p0 : ∀ (v u : Value) (w : World), (part ty_string #[v, u] 0).run Tryd.prog w = .ok v w := fun v u w => by simp [part, run_isAgg hs, kdOf, Kd.isAgg]
  have p1 : ∀ (v u : Value) (w : World), (part ty_int #[v, u] 1).run Tryd.prog w = .ok u w := fun v u w => by simp [part, run_isAgg hi, kdOf, Kd.isAgg]
  have eqS : ∀ d w, (Op.equalIn (d + 1) ty_string (.string s) (.string e)).run Tryd.prog w = .ok (s.toList == e.toList) w := fun d w => run_equalIn_string w d _ _ _ hs
  have eqI : ∀ d w, (Op.equalIn (d + 1) ty_int (.int .i64 n) (.int .i64 m)).run Tryd.prog w = .ok (n == m) w := fun d w => run_equalIn_int w d _ _ _ _ _ hi
  have key : (Op.equalIn (9998 + 1 + 1) ty_api_Term (.agg #[.string s, .int .i64 n]) (.agg #[.string e, .int .i64 m])).run Tryd.prog w = .ok (decide (s = e) && (n == m)) w := by
    rw [run_equalIn_agg w (9998 + 1) ty_api_Term _ _ ht sih_api_Term, hf]
    unfold Op.eqFields
    simp only [ne_eq, String.reduceEq, not_false_eq_true, if_true, Sem.run_bind, p0, Result.andThen_ok, eqS, bs_eq]
    cases hq : decide (s = e)
    · simp
    · unfold Op.eqFields
      simp only [ne_eq, String.reduceEq, not_false_eq_true, if_true, Sem.run_bind, p1, Result.andThen_ok, eqI, Bool.not_true, Bool.false_eq_true, if_false]
      cases hn : (n == m)
      · simp
      · unfold Op.eqFields; simp
  rw [run_neq_struct]
  show ((Op.equalIn (9998 + 1 + 1) ty_api_Term (.agg #[.string s, .int .i64 n]) (.agg #[.string e, .int .i64 m])).run Tryd.prog w).andThen _ = _
  rw [key]
  rfl
end
end Go.Proofs.YtaheggomcnbbiaaDoor
/- Grammars: symbols that fit. -/
set_option linter.unusedVariables false
namespace Go.V
theorem drop_get {α : Type} {l : List α} {k i : Nat} {x : α} (h : (l.drop k)[i]? = some x) : l[k + i]? = some x := by rwa [List.getElem?_drop] at h
theorem ssv_str (ss : List ByteArray) : ss.map Rep1.val = ss.map fun s => Value.string s := rfl
theorem own_rdT {w : World} {L : List Asn} {a : Option Addr} {l c : Nat} {ss : List ByteArray} (h : St w (own 1 a l c (ss.map fun s => Value.string s) :: L)) : rdS (hp w) ss a l := by
  have hl := own_len h
  obtain ⟨h1, s, ha⟩ := h.first
  exact (rdS_of_row (by simpa using hl) (own_rdVh ha)).mono s
end Go.V
namespace Go.Proofs.YtaheggomcnbbiaaDoor
open Go.V
section
variable {w : World} {L : List Asn} {g : GramT} {x : GA}
set_option maxHeartbeats 1000000 in
theorem g_symbols (hg : gR (hp w) g x) (hb : okG g) (added : Nat) (ha : added ≤ 1) :
    Run Tryd.prog n_gram_symbols [.agg ⟨x.cells⟩, .int .i64 (added : Int)] w fun v w' => (∃ r : Bool, v = .bool r ∧ (r = true ↔ SymsOk g added)) ∧ Gr w w' := by
  refine run_gram_symbols _ _ _ _ _ _ _ _ _ _ _ _ _ _ w _ ?_
  refine newC_i (St.all w) fun k1 w1 h => ?_
  have gw : Gr w w1 := h.gone1
  have hg := hg.mono gw
  have rb : rowH (hp w1) ⟨k1, 0, none⟩ x.cells := h.row
  obtain ⟨b1, b2, b3, b4, b5, b6, b7⟩ := hb
  have tl := hg.t.1
  have nl := hg.n.1
  have ll := hg.l.1
  have hfin : ∀ w', sub (hp w1) (hp w') → Gr w w' := fun w' h => gw.trans h
  have h := St.all w1
  unfold V.all at h
  have c0 := fun (w' : World) (s : sub (hp w1) (hp w')) => rb.cell0 (v := .slice x.ta x.tl x.tc) s
  have c1 := fun (w' : World) (s : sub (hp w1) (hp w')) => rb.cell s (j := 1) (v := .slice x.na x.nl x.nc) rfl
  have c2 := fun (w' : World) (s : sub (hp w1) (hp w')) => rb.cell s (j := 2) (v := .slice x.la x.ll x.lc) rfl
  generalize hp w1 = H at *
  have s1 : sub H (hp w1) := h.has
  have pre : Prop := True
  refine ⟨fun b w' => (b = false ↔ (g.terms[0]? = some ⟨.empty, 0⟩ ∧ added < g.nons.length ∧ g.terms.length ≤ 65 ∧ g.nons.length ≤ 64 + added ∧ g.terms.length - 1 + (g.nons.length - added) ≤ 64)) ∧ w' = w1, ?_, ?_⟩
  · refine ⟨_, _, _, c0 _ s1, br_intro (fun h1 => ⟨?_, rfl⟩) fun h1 => ?_⟩
    · have : g.terms = [] := List.eq_nil_of_length_eq_zero (by simp at h1; omega)
      simp [this]
    have h1 : 0 < x.tl := by simp at h1; omega
    obtain ⟨t0, ad, vs, ht1, hta, ht2, ht3⟩ := hg.t.get h1
    have ht3 : vs = [.string t0.name, .int .i64 t0.level] := ht3
    subst ht3
    have ht2 : rowH H ad [.string t0.name, .int .i64 t0.level] := by simpa [mulS_eq, Addr.add] using ht2
    have e0 : (g.terms[0]? = some ⟨.empty, 0⟩) ↔ (t0.name = .empty ∧ t0.level = 0) := by
      rw [ht1]
      constructor
      · intro e; cases e; exact ⟨rfl, rfl⟩
      · rintro ⟨e1, e2⟩; cases t0; simp_all
    rw [e0]
    refine ⟨_, _, _, c0 _ s1, ⟨ad, hta, by omega, by omega, ?_⟩⟩
    have ez : ad.add (mulS (Int.toNat 0) 2) = ad := by simp [mulS_eq, Addr.add]
    rw [ez]
    refine ⟨_, _, ht2.at s1 rfl, _, cmpTerm _ _ _ _ _ _ _, _, rfl, br_intro (fun h2 => ⟨?_, rfl⟩) fun h2 => ?_⟩
    · simp only [Bool.not_eq_true', Bool.and_eq_false_iff, decide_eq_false_iff_not, beq_eq_false_iff_ne] at h2
      have : ¬ (t0.name = .empty ∧ t0.level = 0) := fun e => h2.elim (fun h => h e.1) (fun h => h e.2)
      simp [this]
    have h2 : t0.name = ByteArray.mk (Array.mk []) ∧ t0.level = 0 := by simpa using h2
    have h2 : t0.name = .empty ∧ t0.level = 0 := h2
    refine ⟨_, _, _, c1 _ s1, br_intro (fun h3 => ⟨?_, rfl⟩) fun h3 => ?_⟩
    · have := of_decide_eq_true h3
      simp; omega
    have h3 := of_decide_eq_false h3
    refine ⟨_, _, _, c0 _ s1, br_intro (fun h4 => ⟨?_, rfl⟩) fun h4 => ?_⟩
    · have := of_decide_eq_true h4
      simp; omega
    have h4 := of_decide_eq_false h4
    refine ⟨_, _, _, c1 _ s1, ⟨by omega, by omega⟩, br_intro (fun h5 => ⟨?_, rfl⟩) fun h5 => ?_⟩
    · have := of_decide_eq_true h5
      simp; omega
    have h5 := of_decide_eq_false h5
    refine ⟨_, _, _, c0 _ s1, ⟨by omega, by omega⟩, _, _, _, c1 _ s1, ⟨by omega, by omega⟩, ⟨by omega, by omega⟩, ?_, rfl⟩
    rw [decide_eq_false_iff_not]
    simp only [h2, true_and, and_true]
    omega
  rintro _ b _ ⟨hpre, rfl⟩
  refine br_intro (fun hbt => ?_) fun hbf => ?_
  · subst hbt
    refine ⟨⟨false, rfl, ?_⟩, hfin _ s1⟩
    constructor
    · intro h; cases h
    · rintro ⟨p1, p2, p3, p4, p5, _⟩
      have := hpre.2 ⟨p1, p2, p3, p4, p5⟩
      cases this
  obtain ⟨p1, p2, p3, p4, p5⟩ := hpre.1 hbf
  have hT : 1 ≤ x.tl := by
    have := (List.getElem?_eq_some_iff.1 p1).1; omega
  refine new_i h fun k16 w3 h => ?_
  have h := mapA_new (κ := Int) h
  refine ⟨_, _, _, c0 _ h.gone1, slc_from (lo := 1) hT hg.tc ?_⟩
  have hts := hg.t.drop hT hg.tc
  have htl : (g.terms.drop 1).length = x.tl - 1 := hts.1
  -- the terminals
  refine ⟨fun o l' c' n w' => ∃ (j : Nat) (m : List (Int × Value)), n = j ∧ j ≤ x.tl - 1 ∧ j = l' ∧ (∀ t ∈ (g.terms.drop 1).take j, isTermS t.name = true ∧ 0 ≤ t.level ∧ t.level ≤ g.levels.length) ∧ (∀ n : Int, assoc n m = if ∃ t ∈ (g.terms.drop 1).take j, t.level = n then some (.int .i64 1) else none) ∧
      St w' [own 1 o j c' (((g.terms.drop 1).take j).map fun t => Value.string t.name), mapA k16 m, has H], fun _ _ _ n _ => x.tl - 1 - n.toNat, ⟨0, [], rfl, by omega, rfl, by simp, by simp [assoc], own_nil 1 h⟩, ?_⟩
  clear h
  rintro _ o10 _ k22 n2 w4 ⟨j, m, rfl, hj, rfl, hok, hm, h⟩
  have s4 : sub H (hp w4) := rdH 2 h.l
  refine br_intro (fun hlt => ?_) fun hlt => ?_
  · have hlt : j < x.tl - 1 := by have := of_decide_eq_true hlt; omega
    obtain ⟨t, ad, vs, ht1, hta, ht2, ht3⟩ := hts.get hlt
    have ht3 : vs = [.string t.name, .int .i64 t.level] := ht3
    subst ht3
    have htm : t ∈ g.terms.drop 1 := List.mem_of_getElem? ht1
    have htg : t ∈ g.terms := List.mem_of_mem_drop htm
    obtain ⟨q1, q2⟩ := b5 t htg
    have et : (g.terms.drop 1).take (j + 1) = (g.terms.drop 1).take j ++ [t] := by rw [List.take_add_one, ht1]; rfl
    refine ⟨ad, hta, by omega, by omega, ?_⟩
    rw [Int.toNat_natCast]
    refine ⟨_, _, ht2.at s4 rfl, newC_i h fun k23 w5 h => stR_i h rfl (by simp [oneC]) fun w6 h => ?_⟩
    refine ⟨fun b w' => (b = false ↔ (isTermS t.name = true ∧ 0 ≤ t.level ∧ t.level ≤ g.levels.length)) ∧ St w' [cel k23 [.string t.name, .int .i64 t.level], own 1 o10 j k22 (((g.terms.drop 1).take j).map fun t => Value.string t.name), mapA k16 m, has H], ?_, ?_⟩
    · refine ⟨_, h.cell 0, (g_isTerm (by omega)).mono ?_⟩
      rintro _ w7 ⟨rfl, hg7⟩
      have h := h.gr hg7
      refine ⟨_, rfl, br_intro (fun h1 => ⟨?_, h⟩) fun h1 => ?_⟩
      · have h1 : isTermS t.name = false := by simpa using h1
        simp [h1]
      have h1 : isTermS t.name = true := by simpa using h1
      have cl : w7.cell? ((⟨k23, 0, none⟩ : Addr).add 1) = some (.int .i64 t.level) := h.row.cell (sub.refl _) rfl
      refine ⟨_, cl, br_intro (fun h2 => ⟨?_, h⟩) fun h2 => ?_⟩
      · have h2 := of_decide_eq_true h2
        simp [h1]; omega
      have h2 := of_decide_eq_false h2
      refine ⟨_, cl, _, _, _, c2 _ (rdH 3 h.l), ?_, h⟩
      rw [decide_eq_false_iff_not]
      simp only [h1, true_and]
      omega
    · clear h
      rintro _ b4 w8 ⟨hb4, h⟩
      refine br_intro (fun hbt => ?_) fun hbf => ?_
      · subst hbt
        refine ⟨⟨false, rfl, ?_⟩, hfin _ (rdH 3 h.l)⟩
        constructor
        · intro h; cases h
        · rintro ⟨_, _, _, _, _, p6, _⟩
          have := hb4.2 (p6 t htm)
          cases this
      have hokt := hb4.1 hbf
      refine ⟨_, h.cell 0, newC_i h fun k26 w9 h => ?_⟩
      refine (app_one tyOk (rfl : kdOfT Ty _ = .slice _) (rfl : kdOfT Ty _ = .slice _) rfl rfl rfl (h.pick 5 [0, 2, 1, 3, 4]) rfl (by simp [oneC]) (by show (j + 1) * 16 ≤ _; omega) (by omega)).mono ?_
      rintro _ w10 ⟨a', c', rfl, h⟩
      have h := h.pick 5 [3, 0, 2, 4]
      refine ⟨_, _, _, rfl, _, (rdCel (b := k23) (vs := [.string t.name, .int .i64 t.level]) 2 h.l).cell (sub.refl _) (j := 1) rfl, ?_⟩
      refine (map_update (κ := Int) tyOk (rfl : kdOfT Ty _ = .map _ _) und_int h t.level (.int .i64 1)).mono ?_
      rintro _ w11 h
      refine ⟨⟨by omega, by omega⟩, ⟨j + 1, aput t.level (.int .i64 1) m, by simp, by omega, rfl, fun t' ht' => ?_, fun n => ?_, ?_⟩, by dsimp only; omega⟩
      · rw [et, List.mem_append] at ht'
        rcases ht' with ht' | ht'
        · exact hok t' ht'
        · simp at ht'; subst ht'; exact hokt
      · rw [assoc_put, hm, et]
        by_cases e : n = t.level
        · subst e
          rw [if_pos rfl, if_pos ⟨t, by simp, rfl⟩]
        · rw [if_neg e]
          have : (∃ t' ∈ (g.terms.drop 1).take j ++ [t], t'.level = n) ↔ ∃ t' ∈ (g.terms.drop 1).take j, t'.level = n := by
            constructor
            · rintro ⟨t', h1, h2⟩
              rcases List.mem_append.1 h1 with h1 | h1
              · exact ⟨t', h1, h2⟩
              · simp at h1; subst h1; exact absurd h2.symm e
            · rintro ⟨t', h1, h2⟩; exact ⟨t', List.mem_append.2 (.inl h1), h2⟩
          simp only [this]
      · have e : (((g.terms.drop 1).take j).map fun t => Value.string t.name) ++ [.string t.name] = ((g.terms.drop 1).take (j + 1)).map fun t => Value.string t.name := by rw [et]; simp
        rw [← e]
        exact h.pick 4 [1, 0, 3]
  have hlt : j = x.tl - 1 := by have := of_decide_eq_false hlt; omega
  subst hlt
  rw [List.take_of_length_le (by omega)] at hok hm h
  refine ⟨_, _, _, c2 _ s4, fun n w' => ∃ i : Nat, n = i ∧ i ≤ x.ll ∧ (∀ (k : Nat) v, k < i → g.levels[k]? = some v → 1 ≤ v ∧ v ≤ 3 ∧ ∃ t ∈ g.terms.drop 1, t.level = (k : Int) + 1) ∧ St w' [own 1 o10 (x.tl - 1) k22 ((g.terms.drop 1).map fun t => Value.string t.name), mapA k16 m, has H], fun n _ => x.ll - n.toNat, ⟨0, rfl, by omega, fun k v hk => by omega, h⟩, ?_⟩
  clear h s4
  rintro _ n7 w12 ⟨i, rfl, hi, hlv, h⟩
  have s12 : sub H (hp w12) := rdH 2 h.l
  have bad : ∀ {v : Int}, g.levels[i]? = some v → ¬ (1 ≤ v ∧ v ≤ 3 ∧ ∃ t ∈ g.terms.drop 1, t.level = (i : Int) + 1) → (∃ r : Bool, Value.bool false = .bool r ∧ (r = true ↔ SymsOk g added)) ∧ Gr w w12 := fun {v} hv hn => by
    refine ⟨⟨false, rfl, ?_⟩, hfin _ s12⟩
    constructor
    · intro h; cases h
    · rintro ⟨_, _, _, _, _, _, p7, _⟩
      exact absurd (p7 i v hv) hn
  refine br_intro (fun hlt => ?_) fun hlt => ?_
  · have hlt : i < x.ll := by have := of_decide_eq_true hlt; omega
    obtain ⟨v, ad, hv1, hva, hv2⟩ := hg.l.get1 hlt
    refine ⟨ad, hva, by omega, by omega, ?_⟩
    rw [Int.toNat_natCast]
    refine ⟨_, hv2 _ s12, br_intro (fun h1 => bad hv1 (by have := of_decide_eq_true h1; omega)) fun h1 => br_intro (fun h2 => bad hv1 (by have := of_decide_eq_true h2; omega)) fun h2 => ⟨⟨by omega, by omega⟩, ?_⟩⟩
    refine (map_lookup (κ := Int) tyOk (rfl : kdOfT Ty _ = .map _ _) und_int rfl rfl (h.pick 3 [1]) ((i : Int) + 1)).mono ?_
    rintro _ _ ⟨rfl, rfl⟩
    rw [hm]
    by_cases he : ∃ t ∈ g.terms.drop 1, t.level = (i : Int) + 1
    · rw [if_pos he]
      refine ⟨_, rfl, br_f rfl ⟨⟨by omega, by omega⟩, ⟨i + 1, by simp, by omega, fun k v' hk hv' => ?_, h⟩, msr hlt⟩⟩
      by_cases e : k = i
      · subst e
        rw [hv1] at hv'; cases hv'
        exact ⟨by have := of_decide_eq_false h1; omega, by have := of_decide_eq_false h2; omega, he⟩
      · exact hlv k v' (by omega) hv'
    · rw [if_neg he]
      exact ⟨_, rfl, br_t rfl (bad hv1 (fun h => he h.2.2))⟩
  have hlt : i = x.ll := by have := of_decide_eq_false hlt; omega
  subst hlt
  have hlv' : ∀ (k : Nat) v, g.levels[k]? = some v → 1 ≤ v ∧ v ≤ 3 ∧ ∃ t ∈ g.terms.drop 1, t.level = (k : Int) + 1 := fun k v hv => hlv k v (by have := (List.getElem?_eq_some_iff.1 hv).1; omega) hv
  refine ⟨_, _, _, c1 _ s12, slc_from (lo := added) (by omega) hg.nc ?_⟩
  have hns := hg.n.drop (k := added) (by omega) hg.nc
  have e1 : ((g.terms.drop 1).map fun t => Value.string t.name) = ((g.terms.drop 1).map TermT.name).map fun s => Value.string s := by rw [List.map_map]; rfl
  rw [e1] at h
  have rt : rdS (hp w12) ((g.terms.drop 1).map TermT.name) o10 (x.tl - 1) := own_rdT h
  refine (g_unlike rt (by omega)).mono ?_
  rintro _ w14 ⟨rfl, g14⟩
  have s14 : sub H (hp w14) := s12.trans g14
  refine ⟨_, rfl, br_intro (fun h1 => ?_) fun h1 => ?_⟩
  · have h1 := of_decide_eq_true h1
    refine (g_unlike (hns.mono s14) (by omega)).mono ?_
    rintro _ w15 ⟨rfl, g15⟩
    have s15 : sub H (hp w15) := s14.trans g15
    refine ⟨_, rfl, br_intro (fun h2 => ?_) fun h2 => ?_⟩
    · have h2 := of_decide_eq_true h2
      refine (g_ContainsNames (hns.mono s15) (by omega) (fun s hs => by have := b6 s (List.mem_of_mem_drop hs); omega)).mono ?_
      rintro _ _ ⟨rfl, rfl⟩
      refine ⟨_, rfl, ⟨_, rfl, ?_⟩, hfin _ s15⟩
      rw [Bool.not_not, List.all_eq_true]
      exact ⟨fun h3 => ⟨p1, p2, p3, p4, p5, hok, hlv', h1, h2, h3⟩, fun ⟨_, _, _, _, _, _, _, _, _, h3⟩ => h3⟩
    · have h2 := of_decide_eq_false h2
      refine ⟨⟨false, rfl, ?_⟩, hfin _ s15⟩
      exact ⟨fun h => (by cases h), fun ⟨_, _, _, _, _, _, _, _, h3, _⟩ => absurd h3 h2⟩
  · have h1 := of_decide_eq_false h1
    refine ⟨⟨false, rfl, ?_⟩, hfin _ s14⟩
    exact ⟨fun h => (by cases h), fun ⟨_, _, _, _, _, _, _, h3, _⟩ => absurd h3 h1⟩
end
end Go.Proofs.YtaheggomcnbbiaaDoor
/- Grammars: productions that fit; may a grammar be? -/
set_option linter.unusedVariables false
namespace Go.V
def addL (acc : List Int) (x : Int) : List Int := if x ∈ acc then acc else acc ++ [x]
def leftsL (l : List Int) : List Int := l.foldl addL []
theorem leftsL_take {l : List Int} {j : Nat} {x : Int} (h : l[j]? = some x) : leftsL (l.take (j + 1)) = addL (leftsL (l.take j)) x := by
  unfold leftsL; rw [List.take_add_one, h, List.foldl_append]; rfl
theorem mem_addL {acc : List Int} {x y : Int} : y ∈ addL acc x ↔ y ∈ acc ∨ y = x := by
  unfold addL; split
  · rename_i h; exact ⟨.inl, fun h' => h'.elim id (fun e => e ▸ h)⟩
  · simp
theorem addL_len (acc : List Int) (x : Int) : acc.length ≤ (addL acc x).length ∧ (addL acc x).length ≤ acc.length + 1 := by
  unfold addL; split <;> simp
theorem addL_nodup {acc : List Int} (x : Int) (h : acc.Nodup) : (addL acc x).Nodup := by
  unfold addL; split
  · exact h
  · rename_i hn
    rw [List.nodup_append]
    exact ⟨h, by simp, fun a ha b hb e => by simp at hb; subst hb; subst e; exact hn ha⟩
theorem foldl_addL (l : List Int) : ∀ acc, acc.Nodup → (l.foldl addL acc).Nodup ∧ (∀ y, y ∈ l.foldl addL acc ↔ y ∈ acc ∨ y ∈ l) ∧ (l.foldl addL acc).length ≤ acc.length + l.length := by
  induction l with
  | nil => intro acc h; exact ⟨h, by simp, by simp⟩
  | cons x l ih =>
    intro acc h
    obtain ⟨h1, h2, h3⟩ := ih _ (addL_nodup x h)
    refine ⟨h1, fun y => ?_, ?_⟩
    · show y ∈ l.foldl addL (addL acc x) ↔ _
      rw [h2, mem_addL, List.mem_cons, or_assoc]
    · show (l.foldl addL (addL acc x)).length ≤ _
      have := (addL_len acc x).2
      simp only [List.length_cons]; omega
theorem leftsL_nodup (l : List Int) : (leftsL l).Nodup := (foldl_addL l [] (by simp)).1
theorem mem_leftsL {l : List Int} {y : Int} : y ∈ leftsL l ↔ y ∈ l := by
  have := (foldl_addL l [] (by simp)).2.1 y
  simpa [leftsL] using this
theorem leftsL_len (l : List Int) : (leftsL l).length ≤ l.length := by
  have := (foldl_addL l [] (by simp)).2.2
  simpa [leftsL] using this
def GramT.T (g : GramT) : Nat := g.terms.length
def GramT.N (g : GramT) : Nat := g.nons.length
def symOk (g : GramT) (added : Nat) (s : Int) : Prop := 1 ≤ s ∧ s < g.T + g.N ∧ ¬ ((g.T : Int) ≤ s ∧ s < g.T + added)
def prodOk (g : GramT) (added : Nat) (p : ProdT) : Prop := ((g.T : Int) + added ≤ p.left ∧ p.left < g.T + g.N ∧ 0 ≤ p.level ∧ p.level ≤ g.levels.length) ∧ ∀ s ∈ p.right, symOk g added s
def leftsG (g : GramT) (added : Nat) : List Int := leftsL ((g.prods.drop added).map ProdT.left)
def PrdsOk (g : GramT) (added : Nat) : Prop := added < g.prods.length ∧ g.prods.length ≤ 96 + added ∧ (∀ p ∈ g.prods.drop added, prodOk g added p) ∧
  ((leftsG g added).length : Int) = (g.N : Int) - added ∧ (g.T : Int) + added ≤ g.start ∧ g.start < g.T + g.N
def ValidP (g : GramT) : Prop := SymsOk g 0 ∧ PrdsOk g 0 ∧ sortedL (leftsG g 0)
def ClosedP (g : GramT) : Prop := g.nons[0]? = some .empty ∧ SymsOk g 1 ∧ PrdsOk g 1 ∧ ∃ p, g.prods[0]? = some p ∧ p.left = (g.T : Int) ∧ p.right = [g.start] ∧ p.level = 0
end Go.V
namespace Go.Proofs.YtaheggomcnbbiaaDoor
open Go.V
section
variable {w : World} {L : List Asn} {g : GramT} {x : GA}
set_option maxHeartbeats 1000000 in
theorem g_productions (hg : gR (hp w) g x) (hb : okG g) (added : Nat) (ha : added ≤ 1) :
    Run Tryd.prog n_gram_productions [.agg ⟨x.cells⟩, .int .i64 (added : Int)] w fun v w' => ∃ (a : Option Addr) (l c : Nat) (xs : List Int) (r : Bool), v = .tuple #[.slice a l c, .bool r] ∧ (r = true ↔ PrdsOk g added) ∧ (r = true → xs = leftsG g added) ∧ St w' (own 1 a l c (iv xs) :: all w) := by
  refine run_gram_productions _ _ _ _ _ _ _ _ _ _ _ _ _ _ w _ ?_
  refine newC_i (St.all w) fun k1 w1 h => ?_
  have gw : Gr w w1 := h.gone1
  have hg := hg.mono gw
  have rb : rowH (hp w1) ⟨k1, 0, none⟩ x.cells := h.row
  obtain ⟨b1, b2, b3, b4, b5, b6, b7⟩ := hb
  have tl := hg.t.1
  have nl := hg.n.1
  have ll := hg.l.1
  have pl := hg.p.1
  have hfin : ∀ w' (A : Asn), St w' [A, has (hp w1)] → St w' [A, has (hp w)] := fun w' A h => h.on1 (has_i gw)
  have h := St.all w1
  unfold V.all at h
  have c0 := fun (w' : World) (s : sub (hp w1) (hp w')) => rb.cell0 (v := .slice x.ta x.tl x.tc) s
  have c1 := fun (w' : World) (s : sub (hp w1) (hp w')) => rb.cell s (j := 1) (v := .slice x.na x.nl x.nc) rfl
  have c2 := fun (w' : World) (s : sub (hp w1) (hp w')) => rb.cell s (j := 2) (v := .slice x.la x.ll x.lc) rfl
  have c3 := fun (w' : World) (s : sub (hp w1) (hp w')) => rb.cell s (j := 3) (v := .int .i64 x.s) rfl
  have c4 := fun (w' : World) (s : sub (hp w1) (hp w')) => rb.cell s (j := 4) (v := .slice x.pa x.pl x.pc) rfl
  unfold V.all
  generalize hp w1 = H at *
  have s1 : sub H (hp w1) := h.has
  have hT : g.T = x.tl := tl
  have hN : g.N = x.nl := nl
  have no : ∀ w', sub H (hp w') → ¬ PrdsOk g added → ∃ (a : Option Addr) (l c : Nat) (xs : List Int) (r : Bool), Value.tuple (Array.mk [.slice none 0 0, .bool false]) = .tuple #[.slice a l c, .bool r] ∧ (r = true ↔ PrdsOk g added) ∧ (r = true → xs = leftsG g added) ∧ St w' [own 1 a l c (iv xs), has (hp w)] := fun w' s hn =>
    ⟨none, 0, 0, [], false, rfl, ⟨fun h => (by cases h), fun h => absurd h hn⟩, fun h => (by cases h), hfin _ _ (own_nil 1 (has_i s))⟩
  refine ⟨fun b w' => (b = false ↔ (added < g.prods.length ∧ g.prods.length ≤ 96 + added)) ∧ w' = w1, ?_, ?_⟩
  · refine ⟨_, _, _, c4 _ s1, br_intro (fun h1 => ⟨?_, rfl⟩) fun h1 => ?_⟩
    · have := of_decide_eq_true h1
      simp; omega
    have h1 := of_decide_eq_false h1
    refine ⟨_, _, _, c4 _ s1, ⟨by omega, by omega⟩, ?_, rfl⟩
    rw [decide_eq_false_iff_not]; omega
  rintro _ b _ ⟨hpre, rfl⟩
  refine br_intro (fun hbt => ?_) fun hbf => ?_
  · subst hbt
    refine no _ s1 ?_
    rintro ⟨p1, p2, _⟩
    have := hpre.2 ⟨p1, p2⟩; cases this
  obtain ⟨p1, p2⟩ := hpre.1 hbf
  refine ⟨_, _, _, c0 _ s1, _, _, _, c1 _ s1, ⟨by omega, by omega⟩, _, _, _, c0 _ s1, ⟨by omega, by omega⟩, _, _, _, c4 _ s1, slc_from (lo := added) (by omega) hg.pc ?_⟩
  have hps := hg.p.drop (k := added) (by omega) hg.pc
  have hpsl := hps.1
  refine ⟨fun o l' c' n w' => ∃ j : Nat, n = j ∧ j ≤ x.pl - added ∧ (leftsL (((g.prods.drop added).map ProdT.left).take j)).length = l' ∧ (∀ p ∈ (g.prods.drop added).take j, prodOk g added p) ∧
      St w' [own 1 o l' c' (iv (leftsL (((g.prods.drop added).map ProdT.left).take j))), has H], fun _ _ _ n _ => x.pl - added - n.toNat, ⟨0, rfl, by omega, rfl, by simp, own_nil 1 h⟩, ?_⟩
  clear h
  rintro _ o8 _ k17 n1 w3 ⟨j, rfl, hj, rfl, hok, h⟩
  have s3 : sub H (hp w3) := rdH 1 h.l
  have hll : (leftsL (((g.prods.drop added).map ProdT.left).take j)).length ≤ j := Nat.le_trans (leftsL_len _) (by simp; omega)
  refine br_intro (fun hlt => ?_) fun hlt => ?_
  · have hlt : j < x.pl - added := by have := of_decide_eq_true hlt; omega
    obtain ⟨p, ad, vs, hp1, hpa, hp2, ra, rl, rc, rfl, hrc, hp3⟩ := hps.get hlt
    have hpm : p ∈ g.prods.drop added := List.mem_of_getElem? hp1
    have hlp : ((g.prods.drop added).map ProdT.left)[j]? = some p.left := by rw [List.getElem?_map, hp1]; rfl
    have rl1 := hp3.1
    have b7' := b7 p (List.mem_of_mem_drop hpm)
    refine ⟨ad, hpa, by omega, by omega, ?_⟩
    rw [Int.toNat_natCast]
    refine ⟨_, _, _, _, _, hp2.at s3 rfl, newC_i h fun k20 w4 h => stR_i h rfl (by simp [oneC]) fun w5 h => ?_⟩
    have hbox : ∀ w', sub (hp w5) (hp w') → rowH (hp w') ⟨k20, 0, none⟩ [.int .i64 p.left, .slice ra rl rc, .int .i64 p.level] := fun w' s => h.row.mono s
    have s5 : sub H (hp w5) := rdH 2 h.l
    have d0 := fun (w' : World) (s : sub (hp w5) (hp w')) => (hbox w' s).cell0 (v := .int .i64 p.left) (sub.refl _)
    have d1 := fun (w' : World) (s : sub (hp w5) (hp w')) => (hbox w' s).cell (sub.refl _) (j := 1) (v := .slice ra rl rc) rfl
    have d2 := fun (w' : World) (s : sub (hp w5) (hp w')) => (hbox w' s).cell (sub.refl _) (j := 2) (v := .int .i64 p.level) rfl
    refine ⟨fun b w' => (b = false ↔ ((g.T : Int) + added ≤ p.left ∧ p.left < g.T + g.N ∧ 0 ≤ p.level ∧ p.level ≤ g.levels.length)) ∧ w' = w5, ?_, ?_⟩
    · refine ⟨_, d0 _ (sub.refl _), br_intro (fun h1 => ⟨?_, rfl⟩) fun h1 => ?_⟩
      · have := of_decide_eq_true h1
        simp; omega
      have h1 := of_decide_eq_false h1
      refine ⟨_, d0 _ (sub.refl _), br_intro (fun h2 => ⟨?_, rfl⟩) fun h2 => ?_⟩
      · have := of_decide_eq_true h2
        simp; omega
      have h2 := of_decide_eq_false h2
      refine ⟨_, d2 _ (sub.refl _), br_intro (fun h3 => ⟨?_, rfl⟩) fun h3 => ?_⟩
      · have := of_decide_eq_true h3
        simp; omega
      have h3 := of_decide_eq_false h3
      refine ⟨_, d2 _ (sub.refl _), _, _, _, c2 _ s5, ?_, rfl⟩
      rw [decide_eq_false_iff_not]; omega
    rintro _ b2 w6 ⟨hb2, rfl⟩
    refine br_intro (fun hbt => ?_) fun hbf => ?_
    · subst hbt
      refine no _ s5 ?_
      rintro ⟨_, _, p3, _⟩
      have := hb2.2 (p3 p hpm).1; cases this
    have hpok := hb2.1 hbf
    refine ⟨_, _, _, d1 _ (sub.refl _), fun n w' => ∃ i : Nat, n = i ∧ i ≤ rl ∧ (∀ (k : Nat) s, k < i → p.right[k]? = some s → symOk g added s) ∧ w' = w6, fun n _ => rl - n.toNat, ⟨0, rfl, by omega, fun k s hk => by omega, rfl⟩, ?_⟩
    rintro _ n8 w7 ⟨i, rfl, hi, hsy, rfl⟩
    refine br_intro (fun hlt2 => ?_) fun hlt2 => ?_
    · have hlt2 : i < rl := by have := of_decide_eq_true hlt2; omega
      obtain ⟨s, ad2, hs1, rfl, hs2⟩ := hp3.get1 hlt2
      have bad : ¬ symOk g added s → _ := fun hn => no w7 s5 (fun hq => hn ((hq.2.2.1 p hpm).2 s (List.mem_of_getElem? hs1)))
      have good : symOk g added s → inI ((i : Int) + 1) ∧ (∃ i' : Nat, (i : Int) + 1 = i' ∧ i' ≤ rl ∧ (∀ (k : Nat) s, k < i' → p.right[k]? = some s → symOk g added s) ∧ w7 = w7) ∧ rl - ((i : Int) + 1).toNat < rl - (i : Int).toNat := fun hgd => by
        refine ⟨⟨by omega, by omega⟩, ⟨i + 1, by simp, by omega, fun k s' hk hs' => ?_, rfl⟩, msr hlt2⟩
        by_cases e : k = i
        · subst e; rw [hs1] at hs'; cases hs'; exact hgd
        · exact hsy k s' (by omega) hs'
      refine idx_i rfl hlt2 ⟨s, hs2 _ s5, br_intro (fun h1 => bad ?_) fun h1 => br_intro (fun h2 => bad ?_) fun h2 => ⟨_, _, _, c0 _ s5, br_intro (fun h3 => br_intro (fun h4 => bad ?_) fun h4 => good ?_) fun h3 => good ?_⟩⟩
      · have := of_decide_eq_true h1; unfold symOk; omega
      · have := of_decide_eq_true h2; unfold symOk; omega
      · have h3 := of_decide_eq_true h3; have h4 := of_decide_eq_true h4; unfold symOk; omega
      · have h1 := of_decide_eq_false h1; have h2 := of_decide_eq_false h2; have h3 := of_decide_eq_true h3; have h4 := of_decide_eq_false h4; unfold symOk; omega
      · have h1 := of_decide_eq_false h1; have h2 := of_decide_eq_false h2; have h3 := of_decide_eq_false h3; unfold symOk; omega
    have hlt2 : i = rl := by have := of_decide_eq_false hlt2; omega
    subst hlt2
    have hpok2 : prodOk g added p := ⟨hpok, fun s hs => by
      obtain ⟨k, hk, e⟩ := List.mem_iff_getElem.1 hs
      exact hsy k s (by omega) (by rw [← e]; exact List.getElem?_eq_getElem hk)⟩
    have hok2 : ∀ q ∈ (g.prods.drop added).take (j + 1), prodOk g added q := fun q hq => by
      rw [List.take_add_one, hp1] at hq
      rcases List.mem_append.1 hq with hq | hq
      · exact hok q hq
      · simp at hq; subst hq; exact hpok2
    have et := leftsL_take hlp
    refine ⟨_, d0 _ (sub.refl _), (g_Contains (own_rdI (h.pick 3 [1])) (by omega) p.left).mono ?_⟩
    rintro _ _ ⟨rfl, rfl⟩
    refine ⟨_, rfl, br_intro (fun h1 => ?_) fun h1 => ?_⟩
    · have h1 : p.left ∉ leftsL (((g.prods.drop added).map ProdT.left).take j) := by simpa using h1
      refine ⟨_, d0 _ (sub.refl _), newC_i h fun k27 w9 h => ?_⟩
      refine (app_one tyOk (rfl : kdOfT Ty _ = .slice _) (rfl : kdOfT Ty _ = .slice _) rfl rfl rfl (h.pick 4 [0, 2, 3]) rfl (by simp [oneC]) (by show (_ + 1) * 8 ≤ _; omega) (by omega)).mono ?_
      rintro _ w10 ⟨a', c', rfl, h⟩
      have e2 : leftsL (((g.prods.drop added).map ProdT.left).take (j + 1)) = leftsL (((g.prods.drop added).map ProdT.left).take j) ++ [p.left] := by rw [et]; unfold addL; rw [if_neg h1]
      refine ⟨_, _, _, rfl, ⟨by omega, by omega⟩, ⟨j + 1, by simp, by omega, by rw [e2]; simp, hok2, ?_⟩, by dsimp only; omega⟩
      rw [e2]
      have e3 : ∀ l : List Int, iv (l ++ [p.left]) = iv l ++ [.int .i64 p.left] := fun l => by simp [iv]
      rw [e3]
      exact h.pick 3 [0, 2]
    · have h1 : p.left ∈ leftsL (((g.prods.drop added).map ProdT.left).take j) := by simpa using h1
      have e2 : leftsL (((g.prods.drop added).map ProdT.left).take (j + 1)) = leftsL (((g.prods.drop added).map ProdT.left).take j) := by rw [et]; unfold addL; rw [if_pos h1]
      refine ⟨⟨by omega, by omega⟩, ⟨j + 1, by simp, by omega, by rw [e2], hok2, ?_⟩, by dsimp only; omega⟩
      rw [e2]
      exact h.pick 3 [1, 2]
  have hlt : j = x.pl - added := by have := of_decide_eq_false hlt; omega
  subst hlt
  have el : ((g.prods.drop added).map ProdT.left).take (x.pl - added) = (g.prods.drop added).map ProdT.left := List.take_of_length_le (by simp; omega)
  rw [el] at h hll ⊢
  rw [List.take_of_length_le (by omega)] at hok
  intro w11 hd
  have h := h.drawn hd
  have s11 : sub H (hp w11) := rdH 1 h.l
  refine ⟨fun w' => sub H (hp w'), s11, _, _, _, fun w' s => c1 _ s, ⟨by omega, by omega⟩, br_intro (fun h1 => ?_) fun h1 => ?_⟩
  · have h1 : ((leftsG g added).length : Int) = (x.nl : Int) - added := by simpa [leftsG] using h1
    refine ⟨_, fun w' s => c3 _ s, br_intro (fun h2 => ?_) fun h2 => ?_⟩
    · have h2 := of_decide_eq_true h2
      refine ⟨_, fun w' s => c3 _ s, _, _, _, _, _, rfl, ?_, fun _ => rfl, hfin _ _ h⟩
      rw [decide_eq_true_eq]
      have hs := hg.s
      constructor
      · intro h3; exact ⟨p1, p2, hok, by rw [hN]; exact h1, by omega, by omega⟩
      · rintro ⟨_, _, _, _, _, q⟩; omega
    · have h2 := of_decide_eq_false h2
      have hs := hg.s
      exact ⟨_, _, _, _, false, rfl, ⟨fun h => (by cases h), fun ⟨_, _, _, _, q, _⟩ => absurd (by omega : (g.T : Int) + added ≤ g.start → False) (by omega)⟩, fun h => (by cases h), hfin _ _ h⟩
  · have h1 : ¬ ((leftsG g added).length : Int) = (x.nl : Int) - added := by simpa [leftsG] using h1
    exact ⟨_, _, _, _, false, rfl, ⟨fun h => (by cases h), fun ⟨_, _, _, q, _⟩ => absurd (by rw [← hN]; exact q) h1⟩, fun h => (by cases h), hfin _ _ h⟩
theorem g_Valid (hg : gR (hp w) g x) (hb : okG g) : Run Tryd.prog n_gram_Valid [.agg ⟨x.cells⟩] w fun v w' => (∃ r : Bool, v = .bool r ∧ (r = true ↔ ValidP g)) ∧ Gr w w' := by
  refine run_gram_Valid _ _ _ _ _ _ _ _ _ _ _ _ _ w _ ?_
  refine newC_i (St.all w) fun k1 w1 h => ?_
  have gw : Gr w w1 := h.gone1
  have hg := hg.mono gw
  have rb : rowH (hp w1) ⟨k1, 0, none⟩ x.cells := h.row
  refine ⟨_, _, _, _, _, _, _, _, _, _, _, _, _, rb.at (sub.refl _) rfl, (g_symbols (x := x) hg hb 0 (by omega)).mono ?_⟩
  rintro _ w2 ⟨⟨r, rfl, hr⟩, g2⟩
  refine ⟨_, rfl, br_intro (fun h1 => ?_) fun h1 => ?_⟩
  · have h1 : r = false := by simpa using h1
    subst h1
    exact ⟨⟨false, rfl, ⟨fun h => (by cases h), fun h => absurd (hr.2 h.1) (by simp)⟩⟩, gw.trans g2⟩
  have h1 : r = true := by simpa using h1
  have hsy := hr.1 h1
  refine ⟨_, _, _, _, _, _, _, _, _, _, _, _, _, (rb.mono g2).at (sub.refl _) rfl, (g_productions (x := x) (hg.mono g2) hb 0 (by omega)).mono ?_⟩
  rintro _ w3 ⟨a, l, c, xs, r2, rfl, hr2, hxs, h3⟩
  have g3 : Gr w w3 := (gw.trans g2).trans h3.gone1
  refine ⟨_, _, _, _, rfl, br_intro (fun h4 => ?_) fun h4 => ?_⟩
  · have hxs := hxs h4
    have hlen := own_len h3
    have hp2 := hr2.1 h4
    have hl2 := leftsL_len ((g.prods.drop 0).map ProdT.left)
    rw [iv_len, hxs] at hlen
    have hl3 : (leftsG g 0).length ≤ 96 := by
      have := hp2.2.1
      simp only [List.length_map, List.length_drop] at hl2
      unfold leftsG; omega
    refine (g_IsSorted (own_rdI h3) (by omega)).mono ?_
    rintro _ w4 ⟨⟨r3, rfl, hr3⟩, hw4⟩
    refine ⟨_, rfl, ⟨r3, rfl, ?_⟩, g3.trans (Gr.of_eq hw4)⟩
    rw [hr3, hxs]
    exact ⟨fun h => ⟨hsy, hp2, h⟩, fun h => h.2.2⟩
  · subst h4
    exact ⟨⟨false, rfl, ⟨fun h => (by cases h), fun h => absurd (hr2.2 h.2.1) (by simp)⟩⟩, g3⟩
end
end Go.Proofs.YtaheggomcnbbiaaDoor
/- The document's grammars that may be (1). -/
set_option linter.unusedVariables false
namespace Go.V
/- a grammar in its box -/
structure GB (H : Hp) (k : Nat) (x : GA) : Prop where
  c0 : ∀ {w : World}, sub H (hp w) → w.cell? ⟨k, 0, none⟩ = some (.slice x.ta x.tl x.tc)
  c1 : ∀ {w : World}, sub H (hp w) → w.cell? ((⟨k, 0, none⟩ : Addr).add 1) = some (.slice x.na x.nl x.nc)
  c2 : ∀ {w : World}, sub H (hp w) → w.cell? ((⟨k, 0, none⟩ : Addr).add 2) = some (.slice x.la x.ll x.lc)
  c3 : ∀ {w : World}, sub H (hp w) → w.cell? ((⟨k, 0, none⟩ : Addr).add 3) = some (.int .i64 x.s)
  c4 : ∀ {w : World}, sub H (hp w) → w.cell? ((⟨k, 0, none⟩ : Addr).add 4) = some (.slice x.pa x.pl x.pc)
  row : ∀ {w : World}, sub H (hp w) → rowAt w ⟨k, 0, none⟩ 0 5 = some x.cells
theorem gb_of {H : Hp} {k : Nat} {x : GA} (r : rowH H ⟨k, 0, none⟩ x.cells) : GB H k x :=
  ⟨fun s => r.cell0 s, fun s => r.cell s (j := 1) rfl, fun s => r.cell s (j := 2) rfl, fun s => r.cell s (j := 3) rfl, fun s => r.cell s (j := 4) rfl, fun s => r.at s rfl⟩
theorem gbox {w : World} {g : GramT} {x : GA} {e : TypeId} {k : Nat → World → Prop} (hg : gR (hp w) g x) (hk : ∀ k1 w1, Gr w w1 → gR (hp w1) g x → GB (hp w1) k1 x → k k1 w1) : new w (.cells (Array.mk x.cells) e) k :=
  newC_i (St.all w) fun k1 w1 h => hk k1 w1 h.gone1 (hg.mono h.gone1) (gb_of h.row)
theorem idx_0 {a : Option Addr} {len sz : Nat} {k : Addr → Prop} {ad : Addr} (ha : a = some ad) (hi : 0 < len) (hk : k ad) : idx a len 0 sz k :=
  ⟨ad, ha, by omega, by omega, by simpa [mulS_eq, Addr.add] using hk⟩
theorem nodup_le : ∀ {l m : List Int}, l.Nodup → (∀ x ∈ l, x ∈ m) → l.length ≤ m.length
  | [], m, _, _ => Nat.zero_le _
  | a :: l, m, h, hs => by
    rw [List.nodup_cons] at h
    have ham := hs a (by simp)
    have := nodup_le (l := l) (m := m.erase a) h.2 fun x hx => (List.mem_erase_of_ne (fun e => h.1 (by subst e; exact hx))).2 (hs x (by simp [hx]))
    rw [List.length_erase_of_mem ham] at this
    have := List.length_pos_of_mem ham
    simp only [List.length_cons]; omega
def TermsP (g : GramT) : Prop := g.terms[0]? = some ⟨.empty, 0⟩ ∧ (∀ t ∈ g.terms.drop 1, isTermS t.name = true ∧ 0 ≤ t.level ∧ t.level ≤ g.levels.length) ∧ ((g.terms.drop 1).map TermT.name).Nodup
def LevelsP (g : GramT) : Prop := ∀ (i : Nat) v, g.levels[i]? = some v → 1 ≤ v ∧ v ≤ 3 ∧ ∃ t ∈ g.terms, t.level = (i : Int) + 1
def NonsP (g : GramT) (added : Nat) : Prop := (g.nons.drop added).Nodup ∧ ∀ s ∈ g.nons.drop added, isNameS s = true
theorem levels_len {g : GramT} {added : Nat} (h : SymsOk g added) : g.levels.length ≤ 64 := by
  obtain ⟨_, _, h3, _, _, _, h7, _⟩ := h
  have := nodup_le (l := (List.range g.levels.length).map fun (k : Nat) => (k : Int) + 1) (m := (g.terms.drop 1).map TermT.level) (by
    rw [List.nodup_iff_pairwise_ne, List.pairwise_map]
    exact List.Pairwise.imp (fun h e => h (by omega)) List.nodup_range) (fun x hx => by
    obtain ⟨k, hk, rfl⟩ := List.mem_map.1 hx
    rw [List.mem_range] at hk
    obtain ⟨_, _, t, ht, e⟩ := h7 k _ (List.getElem?_eq_getElem hk)
    exact List.mem_map.2 ⟨t, ht, e⟩)
  simp at this; omega
theorem syms_iff {g : GramT} {added : Nat} : SymsOk g added ↔ added < g.nons.length ∧ g.terms.length ≤ 65 ∧ g.nons.length ≤ 64 + added ∧ g.levels.length ≤ 64 ∧ g.terms.length - 1 + (g.nons.length - added) ≤ 64 ∧ TermsP g ∧ LevelsP g ∧ NonsP g added := by
  constructor
  · intro h
    have hl := levels_len h
    obtain ⟨h1, h2, h3, h4, h5, h6, h7, h8, h9, h10⟩ := h
    exact ⟨h2, h3, h4, hl, h5, ⟨h1, h6, h8⟩, fun i v hv => by obtain ⟨a, b, t, ht, e⟩ := h7 i v hv; exact ⟨a, b, t, List.mem_of_mem_drop ht, e⟩, h9, h10⟩
  · rintro ⟨h2, h3, h4, hl, h5, ⟨h1, h6, h8⟩, h7, h9, h10⟩
    refine ⟨h1, h2, h3, h4, h5, h6, fun i v hv => ?_, h8, h9, h10⟩
    obtain ⟨a, b, t, ht, e⟩ := h7 i v hv
    refine ⟨a, b, t, ?_, e⟩
    cases hg : g.terms with
    | nil => rw [hg] at ht; cases ht
    | cons t0 ts =>
      rw [hg] at ht h1
      cases h1
      rcases List.mem_cons.1 ht with rfl | ht
      · exact absurd e (by show (0 : Int) ≠ _; omega)
      · exact ht
end Go.V
namespace Go.Proofs.YtaheggomcnbbiaaDoor
open Go.V
section
variable {w : World} {L : List Asn} {g : GramT} {x : GA} {s : ByteArray}
theorem d_IsTerm (hs : s.size ≤ 4611686018427387904) : Run Tryd.prog n_presageref02_IsTerm [.string s] w fun v w' => v = .bool (isTermS s) ∧ w' = w := by
  refine run_presageref02_IsTerm _ w _ ?_
  refine ⟨fun n w' => ∃ j : Nat, n = j ∧ j ≤ s.size ∧ (∀ i, i < j → okT (byt s i) = true) ∧ w' = w, fun n _ => s.size - n.toNat, ⟨0, rfl, by omega, fun i hi => by omega, rfl⟩, ?_⟩
  rintro _ n w1 ⟨j, rfl, hj, hall, rfl⟩
  refine br_intro (fun h => ?_) fun h => ?_
  · have h : j < s.size := by have := of_decide_eq_true h; omega
    have hin : inS (j : Int) s.size := ⟨by omega, by omega⟩
    have bad : okT (byt s j) = false → Value.bool false = Value.bool (isTermS s) ∧ w1 = w1 := fun hno => by
      refine ⟨?_, rfl⟩
      have : (List.range s.size).all (fun i => okT (byt s i)) = false := by
        rw [List.all_eq_false]; exact ⟨j, by simpa using h, by simp [hno]⟩
      unfold isTermS; rw [this]; simp
    rw [Int.toNat_natCast]
    refine ⟨hin, br_intro (fun h1 => bad ?_) fun h1 => ⟨hin, br_intro (fun h2 => bad ?_) fun h2 => ⟨hin, br_intro (fun h3 => bad ?_) fun h3 => ?_⟩⟩⟩
    · have h1 : ((byt s j : Nat) : Int) < 32 := of_decide_eq_true h1
      unfold okT; simp; omega
    · have h2 : 126 < ((byt s j : Nat) : Int) := of_decide_eq_true h2
      unfold okT; simp; omega
    · have h3 : ((byt s j : Nat) : Int) = 39 := eq_of_beq h3
      unfold okT; simp; omega
    · have h1 : ¬ ((byt s j : Nat) : Int) < 32 := of_decide_eq_false h1
      have h2 : ¬ 126 < ((byt s j : Nat) : Int) := of_decide_eq_false h2
      have h3 : ¬ ((byt s j : Nat) : Int) = 39 := beq_eq_false_iff_ne.1 h3
      refine ⟨⟨by omega, by omega⟩, ⟨j + 1, by simp, by omega, fun i hi => ?_, rfl⟩, msr h⟩
      by_cases e : i = j
      · subst e; unfold okT; simp; omega
      · exact hall i (by omega)
  · have h : j = s.size := by have := of_decide_eq_false h; omega
    subst h
    have hall' := all_range.2 hall
    unfold isTermS
    rw [hall']
    refine br_intro (fun h => ⟨?_, rfl⟩) fun h => ⟨?_, rfl⟩
    · have h : 1 ≤ s.size := by have := of_decide_eq_true h; omega
      have e : decide ((s.size : Int) ≤ 16) = decide (s.size ≤ 16) := by rw [Bool.eq_iff_iff]; simp only [decide_eq_true_eq]; omega
      rw [e]; simp [h]
    · have h : ¬ 1 ≤ s.size := by have := of_decide_eq_false h; omega
      simp [h]
set_option maxHeartbeats 1000000 in
theorem d_termsFit (hg : gR (hp w) g x) (hb : okG g) : Run Tryd.prog n_presageref02_termsFit [.agg ⟨x.cells⟩] w fun v w' => (∃ r : Bool, v = .bool r ∧ (r = true ↔ TermsP g)) ∧ Gr w w' := by
  refine run_presageref02_termsFit _ _ _ _ _ _ _ _ _ _ _ _ _ w _ ?_
  refine gbox hg fun k1 w1 gw hg B => ?_
  obtain ⟨b1, b2, b3, b4, b5, b6, b7⟩ := hb
  have tl := hg.t.1
  have ll := hg.l.1
  have no : ∀ {w'}, Gr w1 w' → ¬ TermsP g → (∃ r : Bool, Value.bool false = .bool r ∧ (r = true ↔ TermsP g)) ∧ Gr w w' := fun {w'} gg hn => ⟨⟨false, rfl, ⟨fun h => (by cases h), fun h => absurd h hn⟩⟩, gw.trans gg⟩
  have at' : ∀ {i : Nat}, i < x.tl → ∃ t ad, g.terms[i]? = some t ∧ x.ta = some ad ∧ (∀ w', Gr w1 w' → w'.cell? (ad.add (mulS i 2)) = some (.string t.name)) ∧ (∀ w', Gr w1 w' → w'.cell? ((ad.add (mulS i 2)).add 1) = some (.int .i64 t.level)) := fun {i} hi => by
    obtain ⟨t, ad, vs, h1, h2, h3, h4⟩ := hg.t.get hi
    have h4 : vs = [.string t.name, .int .i64 t.level] := h4
    subst h4
    exact ⟨t, ad, h1, h2, fun w' s => h3.cell0 s, fun w' s => h3.cell s (j := 1) rfl⟩
  refine ⟨fun b w' => (b = false ↔ g.terms[0]? = some ⟨.empty, 0⟩) ∧ w' = w1, ?_, ?_⟩
  · refine ⟨_, _, _, B.c0 (sub.refl _), br_intro (fun h1 => ⟨?_, rfl⟩) fun h1 => ?_⟩
    · have : g.terms = [] := List.eq_nil_of_length_eq_zero (by simp at h1; omega)
      simp [this]
    have h1 : 0 < x.tl := by simp at h1; omega
    obtain ⟨t0, ad, ht1, hta, q1, q2⟩ := at' h1
    have q1 : w1.cell? ad = some (.string t0.name) := by simpa [mulS_eq, Addr.add] using q1 w1 (Gr.refl _)
    have q2 : w1.cell? (ad.add 1) = some (.int .i64 t0.level) := by
      have := q2 w1 (Gr.refl _)
      rw [add_add] at this
      simpa [mulS_eq] using this
    refine ⟨_, _, _, B.c0 (sub.refl _), idx_0 hta h1 ⟨_, q1, br_intro (fun h2 => ⟨?_, rfl⟩) fun h2 => ?_⟩⟩
    · rw [bs_eq] at h2
      have h2 : t0.name ≠ ByteArray.mk (Array.mk []) := by simpa using h2
      rw [ht1]
      simp only [reduceCtorEq, false_iff]
      intro e; cases e; exact h2 rfl
    · rw [bs_eq] at h2
      have h2 : t0.name = ByteArray.mk (Array.mk []) := by simpa using h2
      refine ⟨_, _, _, B.c0 (sub.refl _), idx_0 hta h1 ⟨_, q2, ?_, rfl⟩⟩
      rw [ht1]
      constructor
      · intro e
        have : t0.level = 0 := by simpa using e
        cases t0; simp_all; rfl
      · intro e; cases e; rfl
  rintro _ b w2 ⟨hpre, rfl⟩
  refine br_intro (fun hbt => ?_) fun hbf => ?_
  · subst hbt
    exact no (Gr.refl _) fun h => by have := hpre.2 h.1; cases this
  have p1 := hpre.1 hbf
  have hT : 1 ≤ x.tl := by have := (List.getElem?_eq_some_iff.1 p1).1; omega
  refine ⟨fun n w' => ∃ j : Nat, n = (j : Int) + 1 ∧ j + 1 ≤ x.tl ∧ (∀ t ∈ (g.terms.drop 1).take j, isTermS t.name = true ∧ 0 ≤ t.level ∧ t.level ≤ g.levels.length) ∧ (((g.terms.drop 1).take j).map TermT.name).Nodup ∧ Gr w2 w', fun n _ => x.tl - n.toNat, ⟨0, rfl, by omega, by simp, by simp, Gr.refl _⟩, ?_⟩
  rintro _ n w3 ⟨j, rfl, hj, hok, hnd, g3⟩
  refine ⟨_, _, _, B.c0 g3, br_intro (fun hlt => ?_) fun hlt => ?_⟩
  · have hlt : j + 1 < x.tl := by have := of_decide_eq_true hlt; omega
    obtain ⟨t, ad, ht1, hta, q1, q2⟩ := at' hlt
    have ht1' : (g.terms.drop 1)[j]? = some t := by rw [List.getElem?_drop, Nat.add_comm]; exact ht1
    have htm := List.mem_of_getElem? ht1'
    obtain ⟨u1, u2⟩ := b5 t (List.mem_of_mem_drop htm)
    have et : (g.terms.drop 1).take (j + 1) = (g.terms.drop 1).take j ++ [t] := by rw [List.take_add_one, ht1']; rfl
    have ej : ((j : Int) + 1) = ((j + 1 : Nat) : Int) := by omega
    rw [ej]
    refine ⟨_, _, _, B.c0 g3, idx_n hta hlt ⟨_, q1 _ g3, (d_IsTerm (by omega)).mono ?_⟩⟩
    rintro _ w4 ⟨rfl, rfl⟩
    refine ⟨_, rfl, fun b w' => (b = false ↔ (isTermS t.name = true ∧ 0 ≤ t.level ∧ t.level ≤ g.levels.length)) ∧ Gr w2 w', ?_, ?_⟩
    · intro w5 hd
      have g5 : Gr w2 w5 := g3.trans (Gr.of_eq (hp_drawn hd))
      refine ⟨fun w' => Gr w2 w', g5, br_intro (fun h1 => ⟨?_, g5⟩) fun h1 => ?_⟩
      · have h1 : isTermS t.name = false := by simpa using h1
        simp [h1]
      have h1 : isTermS t.name = true := by simpa using h1
      refine ⟨_, _, _, fun w' s => B.c0 s, idx_n hta hlt ⟨_, fun w' s => q2 _ s, br_intro (fun h2 => ⟨?_, g5⟩) fun h2 => ?_⟩⟩
      · have h2 := of_decide_eq_true h2
        simp [h1]; omega
      have h2 := of_decide_eq_false h2
      refine ⟨_, _, _, fun w' s => B.c0 s, idx_n hta hlt ⟨_, fun w' s => q2 _ s, _, _, _, fun w' s => B.c2 s, ?_, g5⟩⟩
      rw [decide_eq_false_iff_not]
      simp only [h1, true_and]; omega
    rintro _ b3 w11 ⟨hb3, g11⟩
    refine br_intro (fun hbt => ?_) fun hbf => ?_
    · subst hbt
      exact no g11 fun h => by have := hb3.2 (h.2.1 t htm); cases this
    have hokt := hb3.1 hbf
    refine ⟨fun n w' => ∃ k : Nat, n = (k : Int) + 1 ∧ k ≤ j ∧ (∀ u ∈ (g.terms.drop 1).take k, u.name ≠ t.name) ∧ Gr w2 w', fun n _ => x.tl - n.toNat, ⟨0, rfl, by omega, by simp, g11⟩, ?_⟩
    rintro _ n5 w12 ⟨k, rfl, hk, hne, g12⟩
    refine br_intro (fun hlt2 => ?_) fun hlt2 => ?_
    · have hlt2 : k < j := by have := of_decide_eq_true hlt2; omega
      obtain ⟨u, ad', hu1, hua, r1, _⟩ := at' (by omega : k + 1 < x.tl)
      rw [hta] at hua; cases hua
      have hu1' : (g.terms.drop 1)[k]? = some u := by rw [List.getElem?_drop, Nat.add_comm]; exact hu1
      have ek : ((k : Int) + 1) = ((k + 1 : Nat) : Int) := by omega
      intro w13 hd
      have g13 : Gr w2 w13 := g12.trans (Gr.of_eq (hp_drawn hd))
      rw [ek]
      refine ⟨fun w' => Gr w2 w', g13, _, _, _, fun w' s => B.c0 s, idx_n hta (by omega) ⟨_, fun w' s => r1 _ s, _, _, _, fun w' s => B.c0 s, idx_n hta hlt ⟨_, fun w' s => q1 _ s, ?_⟩⟩⟩
      rw [bs_eq]
      refine br_intro (fun h => ?_) fun h => ?_
      · have h := of_decide_eq_true h
        refine no g13 fun hp => ?_
        have hnn := hp.2.2
        have e1 : ((g.terms.drop 1).map TermT.name)[k]? = some t.name := by rw [List.getElem?_map, hu1', ← h]; rfl
        have e2 : ((g.terms.drop 1).map TermT.name)[j]? = some t.name := by rw [List.getElem?_map, ht1']; rfl
        have := (List.getElem?_inj (List.getElem?_eq_some_iff.1 e1).1 hnn).1 (e1.trans e2.symm)
        omega
      · have h := of_decide_eq_false h
        refine ⟨⟨by omega, by omega⟩, ⟨k + 1, by simp, by omega, fun u' hu' => ?_, g13⟩, by dsimp only; omega⟩
        rw [List.take_add_one, hu1'] at hu'
        rcases List.mem_append.1 hu' with hu' | hu'
        · exact hne u' hu'
        · simp at hu'; subst hu'; exact h
    · have hlt2 : k = j := by have := of_decide_eq_false hlt2; omega
      subst hlt2
      refine ⟨⟨by omega, by omega⟩, ⟨k + 1, by simp, by omega, fun t' ht' => ?_, ?_, g12⟩, by dsimp only; omega⟩
      · rw [et] at ht'
        rcases List.mem_append.1 ht' with ht' | ht'
        · exact hok t' ht'
        · simp at ht'; subst ht'; exact hokt
      · rw [et, List.map_append]
        exact nodup_snoc.2 ⟨hnd, fun hm => by obtain ⟨u, hu, e⟩ := List.mem_map.1 hm; exact hne u hu e⟩
  · have hlt : j + 1 = x.tl := by have := of_decide_eq_false hlt; omega
    rw [List.take_of_length_le (by simp; omega)] at hok hnd
    exact ⟨⟨true, rfl, ⟨fun _ => ⟨p1, hok, hnd⟩, fun _ => rfl⟩⟩, gw.trans g3⟩
end
end Go.Proofs.YtaheggomcnbbiaaDoor
/- The document's grammars that may be (2). -/
set_option linter.unusedVariables false
namespace Go.V
def FitsP (g : GramT) (added : Nat) : Prop := SymsOk g added ∧ PrdsOk g added
theorem leftsL_pos {l : List Int} (h : 0 < l.length) : 0 < (leftsL l).length := by
  obtain ⟨x, hx⟩ := List.exists_mem_of_length_pos h
  exact List.length_pos_of_mem (mem_leftsL.2 hx)
/- the rest of what fits, where sizes do -/
def fitSizes (g : GramT) (added : Nat) : Prop := g.nons.length ≤ 64 + added ∧ g.terms.length ≤ 65 ∧ g.prods.length ≤ 96 + added ∧ added < g.prods.length ∧ g.levels.length ≤ 64
theorem fits_iff {g : GramT} {added : Nat} : FitsP g added ↔ fitSizes g added ∧ (g.terms.length : Int) - 1 + g.nons.length - added ≤ 64 ∧ TermsP g ∧ LevelsP g ∧ NonsP g added ∧ (∀ p ∈ g.prods.drop added, prodOk g added p) ∧ ((leftsG g added).length : Int) = (g.N : Int) - added ∧ (g.T : Int) + added ≤ g.start ∧ g.start < g.T + g.N := by
  unfold FitsP
  rw [syms_iff]
  constructor
  · rintro ⟨⟨h1, h2, h3, h4, h5, h6, h7, h8⟩, p1, p2, p3, p4, p5, p6⟩
    exact ⟨⟨h3, h2, p2, p1, h4⟩, by omega, h6, h7, h8, p3, p4, p5, p6⟩
  · rintro ⟨⟨h3, h2, p2, p1, h4⟩, h5, h6, h7, h8, p3, p4, p5, p6⟩
    have hpos : 0 < (leftsG g added).length := leftsL_pos (by simp; omega)
    have hN : g.N = g.nons.length := rfl
    have hT : 1 ≤ g.terms.length := by have := (List.getElem?_eq_some_iff.1 h6.1).1; omega
    exact ⟨⟨by omega, h2, h3, h4, by omega, h6, h7, h8⟩, p1, p2, p3, p4, p5, p6⟩
/- rising without gaps -/
theorem rising {l : List Int} {T N : Nat} (hn : l.Nodup) (hr : ∀ x ∈ l, (T : Int) ≤ x ∧ x < T + N) (hl : l.length = N) : sortedL l ↔ ∀ (i : Nat) x, l[i]? = some x → x = T + i := by
  constructor
  · intro hs
    have lo : ∀ (i : Nat) x, l[i]? = some x → (T : Int) + i ≤ x := by
      intro i
      induction i with
      | zero => intro x hx; have := (hr x (List.mem_of_getElem? hx)).1; omega
      | succ i ih =>
        intro x hx
        have hlt := (List.getElem?_eq_some_iff.1 hx).1
        obtain ⟨y, hy⟩ : ∃ y, l[i]? = some y := ⟨l[i]'(by omega), List.getElem?_eq_getElem _⟩
        have h1 := ih y hy
        have h2 := hs i y x hy hx
        have h3 : y ≠ x := fun e => by
          subst e
          have := (List.getElem?_inj (by omega : i < l.length) hn).1 (hy.trans hx.symm)
          omega
        omega
    have hi : ∀ (k i : Nat) x, i + k + 1 = N → l[i]? = some x → x ≤ (T : Int) + i := by
      intro k
      induction k with
      | zero => intro i x hk hx; have := (hr x (List.mem_of_getElem? hx)).2; omega
      | succ k ih =>
        intro i x hk hx
        obtain ⟨y, hy⟩ : ∃ y, l[i + 1]? = some y := ⟨l[i + 1]'(by omega), List.getElem?_eq_getElem _⟩
        have h1 := ih (i + 1) y (by omega) hy
        have h2 := hs i x y hx hy
        have h3 : x ≠ y := fun e => by
          subst e
          have := (List.getElem?_inj (by omega : i < l.length) hn).1 (hx.trans hy.symm)
          omega
        omega
    intro i x hx
    have hlt := (List.getElem?_eq_some_iff.1 hx).1
    have h1 := lo i x hx
    have h2 := hi (N - 1 - i) i x (by omega) hx
    omega
  · intro h i x y hx hy
    have h1 := h i x hx
    have h2 := h (i + 1) y hy
    omega
theorem valid_iff {g : GramT} : ValidP g ↔ FitsP g 0 ∧ ∀ (i : Nat) y, (leftsG g 0)[i]? = some y → y = (g.T : Int) + i := by
  unfold ValidP FitsP
  constructor
  · rintro ⟨h1, h2, h3⟩
    refine ⟨⟨h1, h2⟩, ?_⟩
    refine (rising (N := g.N) (leftsL_nodup _) (fun y hy => ?_) ?_).1 h3
    · have := mem_leftsL.1 hy
      obtain ⟨p, hp, rfl⟩ := List.mem_map.1 this
      have := (h2.2.2.1 p hp).1; omega
    · have := h2.2.2.2.1; have hN : g.N = g.nons.length := rfl; show (leftsG g 0).length = g.N; omega
  · rintro ⟨⟨h1, h2⟩, h3⟩
    refine ⟨h1, h2, ?_⟩
    refine (rising (T := g.T) (N := g.N) (leftsL_nodup _) (fun y hy => ?_) ?_).2 h3
    · have := mem_leftsL.1 hy
      obtain ⟨p, hp, rfl⟩ := List.mem_map.1 this
      have := (h2.2.2.1 p hp).1; omega
    · have := h2.2.2.2.1; have hN : g.N = g.nons.length := rfl; show (leftsG g 0).length = g.N; omega
end Go.V
namespace Go.Proofs.YtaheggomcnbbiaaDoor
open Go.V
section
variable {w : World} {L : List Asn} {g : GramT} {x : GA} {s : ByteArray}
def lett (c : Nat) : Bool := decide (c = 95) || (decide (65 ≤ c) && decide (c ≤ 90)) || (decide (97 ≤ c) && decide (c ≤ 122))
theorem okN_lett {i c : Nat} : okN i c = (lett c || (decide (i ≠ 0) && decide (48 ≤ c) && decide (c ≤ 57))) := rfl
theorem d_IsName (hs : s.size ≤ 4611686018427387904) : Run Tryd.prog n_presageref02_IsName [.string s] w fun v w' => v = .bool (isNameS s) ∧ w' = w := by
  refine run_presageref02_IsName _ w _ ?_
  refine ⟨fun n w' => ∃ j : Nat, n = j ∧ j ≤ s.size ∧ (∀ i, i < j → okN i (byt s i) = true) ∧ w' = w, fun n _ => s.size - n.toNat, ⟨0, rfl, by omega, fun i hi => by omega, rfl⟩, ?_⟩
  rintro _ n w1 ⟨j, rfl, hj, hall, rfl⟩
  refine br_intro (fun h => ?_) fun h => ?_
  · have h : j < s.size := by have := of_decide_eq_true h; omega
    have hin : inS (j : Int) s.size := ⟨by omega, by omega⟩
    have hc : ((sb s j).toNat : Int) = (byt s j : Nat) := rfl
    rw [Int.toNat_natCast, hc]
    refine ⟨fun w' => okN j (byt s j) = true ∧ w' = w1, ⟨fun b w' => b = lett (byt s j) ∧ w' = w1, ⟨hin, ?_⟩, ?_⟩, ?_⟩
    · generalize byt s j = c
      have h95 : ((c : Int) == 95) = decide (c = 95) := by rw [Bool.eq_iff_iff]; simp only [beq_iff_eq, decide_eq_true_eq]; omega
      unfold lett
      rw [h95]
      refine br_intro (fun h1 => ⟨hin, br_intro (fun h2 => ⟨?_, rfl⟩) fun h2 => ⟨hin, br_intro (fun h3 => ⟨hin, br_intro (fun h4 => ⟨?_, rfl⟩) fun h4 => ⟨hin, ?_, rfl⟩⟩) fun h3 => ⟨hin, ?_, rfl⟩⟩⟩) fun h1 => ⟨hin, br_intro (fun h3 => ⟨hin, br_intro (fun h4 => ⟨?_, rfl⟩) fun h4 => ⟨hin, ?_, rfl⟩⟩) fun h3 => ⟨hin, ?_, rfl⟩⟩
      all_goals
        rw [Bool.eq_iff_iff]
        simp only [Bool.or_eq_true, Bool.and_eq_true, decide_eq_true_eq, decide_eq_false_iff_not, true_iff] at *
        omega
    · rintro _ b w2 ⟨hb, rfl⟩
      rw [okN_lett, ← hb]
      have bad : okN j (byt s j) = false → Value.bool false = Value.bool (isNameS s) ∧ w2 = w2 := fun hno => by
        refine ⟨?_, rfl⟩
        have : (List.range s.size).all (fun i => okN i (byt s i)) = false := by
          rw [List.all_eq_false]; exact ⟨j, by simpa using h, by simp [hno]⟩
        unfold isNameS; rw [this]; simp
      rw [okN_lett, ← hb] at bad
      generalize byt s j = c at bad
      refine ⟨hin, br_intro (fun h1 => ⟨hin, br_intro (fun h2 => br_intro (fun h3 => br_intro (fun h4 => bad ?_) fun h4 => ⟨?_, rfl⟩) fun h3 => ⟨?_, rfl⟩) fun h2 => br_intro (fun h3 => bad ?_) fun h3 => ⟨?_, rfl⟩⟩) fun h1 => br_intro (fun h3 => bad ?_) fun h3 => ⟨?_, rfl⟩⟩
      all_goals cases b
      all_goals first | (cases h3; done) | simp [okN_lett]
      all_goals
        simp only [Bool.not_eq_true', Bool.not_eq_false', decide_eq_true_eq, decide_eq_false_iff_not] at *
        omega
    · rintro _ w2 ⟨hok, rfl⟩
      refine ⟨⟨by omega, by omega⟩, ⟨j + 1, by simp, by omega, fun i hi => ?_, rfl⟩, by dsimp only; omega⟩
      by_cases e : i = j
      · subst e; exact hok
      · exact hall i (by omega)
  · have h : j = s.size := by have := of_decide_eq_false h; omega
    have hall' : (List.range s.size).all (fun i => okN i (byt s i)) = true := all_range.2 (by rw [← h]; exact hall)
    unfold isNameS
    rw [hall']
    refine br_intro (fun h => ?_) fun h => ?_
    · have h : 1 ≤ s.size := by have := of_decide_eq_true h; omega
      refine ⟨?_, rfl⟩
      have e : decide ((s.size : Int) ≤ 16) = decide (s.size ≤ 16) := by rw [Bool.eq_iff_iff]; simp only [decide_eq_true_eq]; omega
      rw [e]; simp [h]
    · have h : ¬ 1 ≤ s.size := by have := of_decide_eq_false h; omega
      exact ⟨by simp [h], rfl⟩
theorem d_levelsFit (hg : gR (hp w) g x) (hb : okG g) : Run Tryd.prog n_presageref02_levelsFit [.agg ⟨x.cells⟩] w fun v w' => (∃ r : Bool, v = .bool r ∧ (r = true ↔ LevelsP g)) ∧ Gr w w' := by
  refine run_presageref02_levelsFit _ _ _ _ _ _ _ _ _ _ _ _ _ w _ ?_
  refine gbox hg fun k1 w1 gw hg B => ?_
  obtain ⟨b1, b2, b3, b4, b5, b6, b7⟩ := hb
  have tl := hg.t.1
  have ll := hg.l.1
  have no : ∀ {w'}, Gr w1 w' → ¬ LevelsP g → (∃ r : Bool, Value.bool false = .bool r ∧ (r = true ↔ LevelsP g)) ∧ Gr w w' := fun {w'} gg hn => ⟨⟨false, rfl, ⟨fun h => (by cases h), fun h => absurd h hn⟩⟩, gw.trans gg⟩
  refine ⟨fun n w' => ∃ i : Nat, n = i ∧ i ≤ x.ll ∧ (∀ (k : Nat) v, k < i → g.levels[k]? = some v → 1 ≤ v ∧ v ≤ 3 ∧ ∃ t ∈ g.terms, t.level = (k : Int) + 1) ∧ w' = w1, fun n _ => x.ll - n.toNat, ⟨0, rfl, by omega, fun k v hk => by omega, rfl⟩, ?_⟩
  rintro _ n1 w2 ⟨i, rfl, hi, hok, rfl⟩
  refine ⟨_, _, _, B.c2 (sub.refl _), br_intro (fun hlt => ?_) fun hlt => ?_⟩
  · have hlt : i < x.ll := by have := of_decide_eq_true hlt; omega
    obtain ⟨v, ad, hv1, hva, hv2⟩ := hg.l.get1 hlt
    refine ⟨fun b n w' => ∃ k : Nat, n = k ∧ k ≤ x.tl ∧ (b = true ↔ ∃ t ∈ g.terms.take k, t.level = (i : Int) + 1) ∧ w' = w2, fun b n _ => x.tl - n.toNat, ⟨0, rfl, by omega, by simp, rfl⟩, ?_⟩
    rintro _ b n2 w3 ⟨k, rfl, hk, hbk, rfl⟩
    refine ⟨_, _, _, B.c0 (sub.refl _), br_intro (fun hlt2 => ?_) fun hlt2 => ?_⟩
    · have hlt2 : k < x.tl := by have := of_decide_eq_true hlt2; omega
      obtain ⟨t, ad2, vs, ht1, hta, ht2, ht3⟩ := hg.t.get hlt2
      have ht3 : vs = [.string t.name, .int .i64 t.level] := ht3
      subst ht3
      have et : g.terms.take (k + 1) = g.terms.take k ++ [t] := by rw [List.take_add_one, ht1]; rfl
      refine br_intro (fun h1 => ?_) fun h1 => ?_
      · subst h1
        refine ⟨⟨by omega, by omega⟩, ⟨k + 1, by simp, by omega, ?_, rfl⟩, msr hlt2⟩
        obtain ⟨t', h1, h2⟩ := hbk.1 rfl
        exact ⟨fun _ => ⟨t', by rw [et]; exact List.mem_append.2 (.inl h1), h2⟩, fun _ => rfl⟩
      · subst h1
        refine ⟨_, _, _, B.c0 (sub.refl _), idx_n hta hlt2 ⟨_, ht2.cell (sub.refl _) (j := 1) rfl, ⟨by omega, by omega⟩, ⟨by omega, by omega⟩, ⟨k + 1, by simp, by omega, ?_, rfl⟩, msr hlt2⟩⟩
        rw [et]
        constructor
        · intro h; exact ⟨t, by simp, by simpa using h⟩
        · rintro ⟨t', h1, h2⟩
          rcases List.mem_append.1 h1 with h1 | h1
          · have := hbk.2 ⟨t', h1, h2⟩; cases this
          · simp at h1; subst h1; simpa using h2
    · have hlt2 : k = x.tl := by have := of_decide_eq_false hlt2; omega
      rw [List.take_of_length_le (by omega)] at hbk
      refine br_intro (fun h1 => no (Gr.refl _) fun hp => ?_) fun h1 => ?_
      · have := hbk.2 (hp i v hv1).2.2
        rw [this] at h1; cases h1
      have h1 : b = true := by simpa using h1
      refine ⟨_, _, _, B.c2 (sub.refl _), idx_i hva hlt ⟨_, hv2 _ (sub.refl _), br_intro (fun h2 => no (Gr.refl _) fun hp => ?_) fun h2 => ⟨_, _, _, B.c2 (sub.refl _), idx_i hva hlt ⟨_, hv2 _ (sub.refl _), br_intro (fun h3 => no (Gr.refl _) fun hp => ?_) fun h3 => ?_⟩⟩⟩⟩
      · have := of_decide_eq_true h2; have := (hp i v hv1).1; omega
      · have := of_decide_eq_true h3; have := (hp i v hv1).2.1; omega
      · have h2 := of_decide_eq_false h2
        have h3 := of_decide_eq_false h3
        refine ⟨⟨by omega, by omega⟩, ⟨i + 1, by simp, by omega, fun k' v' hk' hv' => ?_, rfl⟩, msr hlt⟩
        by_cases e : k' = i
        · subst e; rw [hv1] at hv'; cases hv'; exact ⟨by omega, by omega, hbk.1 h1⟩
        · exact hok k' v' (by omega) hv'
  · have hlt : i = x.ll := by have := of_decide_eq_false hlt; omega
    subst hlt
    exact ⟨⟨true, rfl, ⟨fun _ i v hv => hok i v (by have := (List.getElem?_eq_some_iff.1 hv).1; omega) hv, fun _ => rfl⟩⟩, gw⟩
theorem d_nonsFit (hg : gR (hp w) g x) (hb : okG g) (added : Nat) : Run Tryd.prog n_presageref02_nonsFit [.agg ⟨x.cells⟩, .int .i64 (added : Int)] w fun v w' => (∃ r : Bool, v = .bool r ∧ (r = true ↔ NonsP g added)) ∧ Gr w w' := by
  refine run_presageref02_nonsFit _ _ _ _ _ _ _ _ _ _ _ _ _ _ w _ ?_
  refine gbox hg fun k1 w1 gw hg B => ?_
  obtain ⟨b1, b2, b3, b4, b5, b6, b7⟩ := hb
  have nl := hg.n.1
  have no : ∀ {w'}, Gr w1 w' → ¬ NonsP g added → (∃ r : Bool, Value.bool false = .bool r ∧ (r = true ↔ NonsP g added)) ∧ Gr w w' := fun {w'} gg hn => ⟨⟨false, rfl, ⟨fun h => (by cases h), fun h => absurd h hn⟩⟩, gw.trans gg⟩
  refine ⟨fun n w' => ∃ i : Nat, n = ((added + i : Nat) : Int) ∧ (added + i ≤ x.nl ∨ i = 0) ∧ ((g.nons.drop added).take i).Nodup ∧ (∀ s ∈ (g.nons.drop added).take i, isNameS s = true) ∧ Gr w1 w', fun n _ => x.nl - n.toNat, ⟨0, rfl, .inr rfl, by simp, by simp, Gr.refl _⟩, ?_⟩
  rintro _ n1 w2 ⟨i, rfl, hi, hnd, hok, g2⟩
  refine ⟨_, _, _, B.c1 g2, br_intro (fun hlt => ?_) fun hlt => ?_⟩
  · have hlt : added + i < x.nl := by have := of_decide_eq_true hlt; omega
    obtain ⟨s, ad, hs1, hsa, hs2⟩ := hg.n.get1 hlt
    have hs1' : (g.nons.drop added)[i]? = some s := by rw [List.getElem?_drop]; exact hs1
    have hsm := List.mem_of_getElem? hs1'
    have et : (g.nons.drop added).take (i + 1) = (g.nons.drop added).take i ++ [s] := by rw [List.take_add_one, hs1']; rfl
    refine ⟨_, _, _, B.c1 g2, idx_i hsa hlt ⟨_, hs2 _ g2, (d_IsName (by have := b6 s (List.mem_of_mem_drop hsm); omega)).mono ?_⟩⟩
    rintro _ w2 ⟨rfl, rfl⟩
    refine ⟨_, rfl, br_intro (fun h1 => no g2 fun hp => ?_) fun h1 => ?_⟩
    · rw [hp.2 s hsm] at h1; cases h1
    have h1 : isNameS s = true := by simpa using h1
    refine ⟨fun n w' => ∃ k : Nat, n = ((added + k : Nat) : Int) ∧ k ≤ i ∧ (∀ u ∈ (g.nons.drop added).take k, u ≠ s) ∧ Gr w1 w', fun n _ => x.nl - n.toNat, ⟨0, rfl, by omega, by simp, g2⟩, ?_⟩
    rintro _ n2 w4 ⟨k, rfl, hk, hne, g4⟩
    refine br_intro (fun hlt2 => ?_) fun hlt2 => ?_
    · have hlt2 : k < i := by have := of_decide_eq_true hlt2; omega
      obtain ⟨u, ad', hu1, hua, hu2⟩ := hg.n.get1 (by omega : added + k < x.nl)
      rw [hsa] at hua; cases hua
      have hu1' : (g.nons.drop added)[k]? = some u := by rw [List.getElem?_drop]; exact hu1
      intro w5 hd
      have g5 : Gr w1 w5 := g4.trans (Gr.of_eq (hp_drawn hd))
      refine ⟨fun w' => Gr w1 w', g5, _, _, _, fun w' s => B.c1 s, idx_i hsa (by omega) ⟨_, fun w' s => hu2 _ s, _, _, _, fun w' s => B.c1 s, idx_i hsa hlt ⟨_, fun w' s => hs2 _ s, ?_⟩⟩⟩
      rw [bs_eq]
      refine br_intro (fun h => no g5 fun hp => ?_) fun h => ?_
      · have h := of_decide_eq_true h
        subst h
        have := (List.getElem?_inj (List.getElem?_eq_some_iff.1 hu1').1 hp.1).1 (hu1'.trans hs1'.symm)
        omega
      · have h := of_decide_eq_false h
        refine ⟨⟨by omega, by omega⟩, ⟨k + 1, by omega, by omega, fun u' hu' => ?_, g5⟩, by dsimp only; omega⟩
        rw [List.take_add_one, hu1'] at hu'
        rcases List.mem_append.1 hu' with hu' | hu'
        · exact hne u' hu'
        · simp at hu'; subst hu'; exact h
    · have hlt2 : k = i := by have := of_decide_eq_false hlt2; omega
      subst hlt2
      refine ⟨⟨by omega, by omega⟩, ⟨k + 1, by omega, by omega, ?_, fun t' ht' => ?_, g4⟩, by dsimp only; omega⟩
      · rw [et]; exact nodup_snoc.2 ⟨hnd, fun hm => hne s hm rfl⟩
      · rw [et] at ht'
        rcases List.mem_append.1 ht' with ht' | ht'
        · exact hok t' ht'
        · simp at ht'; subst ht'; exact h1
  · have hlt := of_decide_eq_false hlt
    rw [List.take_of_length_le (by simp; omega)] at hok hnd
    exact ⟨⟨true, rfl, ⟨fun _ => ⟨hnd, hok⟩, fun _ => rfl⟩⟩, gw.trans g2⟩
theorem d_Symbols (hg : gR (hp w) g x) (hb : okG g) : Run Tryd.prog n_presageref02_Symbols [.agg ⟨x.cells⟩] w fun v w' => v = .int .i64 ((g.T : Int) + g.N) ∧ Gr w w' := by
  refine run_presageref02_Symbols _ _ _ _ _ _ _ _ _ _ _ _ _ w _ ?_
  refine gbox hg fun k1 w1 gw hg B => ?_
  have tl := hg.t.1
  have nl := hg.n.1
  obtain ⟨b1, b2, b3, b4, b5, b6, b7⟩ := hb
  exact ⟨_, _, _, B.c0 (sub.refl _), _, _, _, B.c1 (sub.refl _), ⟨by omega, by omega⟩, by unfold GramT.T GramT.N; rw [tl, nl], gw⟩
set_option maxHeartbeats 1000000 in
theorem d_prodsFit (hg : gR (hp w) g x) (hb : okG g) (added : Nat) : Run Tryd.prog n_presageref02_prodsFit [.agg ⟨x.cells⟩, .int .i64 (added : Int), .int .i64 ((g.T : Int) + added)] w fun v w' => (∃ r : Bool, v = .bool r ∧ (r = true ↔ ∀ p ∈ g.prods.drop added, prodOk g added p)) ∧ Gr w w' := by
  refine run_presageref02_prodsFit _ _ _ _ _ _ _ _ _ _ _ _ _ _ _ w _ ?_
  refine gbox hg fun k1 w1 gw hg B => ?_
  have hb' := hb
  obtain ⟨b1, b2, b3, b4, b5, b6, b7⟩ := hb
  have tl : g.T = x.tl := hg.t.1
  have nl : g.N = x.nl := hg.n.1
  have ll := hg.l.1
  have pl := hg.p.1
  have no : ∀ {w'}, Gr w1 w' → ¬ (∀ p ∈ g.prods.drop added, prodOk g added p) → (∃ r : Bool, Value.bool false = .bool r ∧ (r = true ↔ ∀ p ∈ g.prods.drop added, prodOk g added p)) ∧ Gr w w' := fun {w'} gg hn => ⟨⟨false, rfl, ⟨fun h => (by cases h), fun h => absurd h hn⟩⟩, gw.trans gg⟩
  refine ⟨fun n w' => ∃ j : Nat, n = ((added + j : Nat) : Int) ∧ (added + j ≤ x.pl ∨ j = 0) ∧ (∀ p ∈ (g.prods.drop added).take j, prodOk g added p) ∧ Gr w1 w', fun n _ => x.pl - n.toNat, ⟨0, rfl, .inr rfl, by simp, Gr.refl _⟩, ?_⟩
  rintro _ n1 w2 ⟨j, rfl, hj, hok, g2⟩
  refine ⟨_, _, _, B.c4 g2, br_intro (fun hlt => ?_) fun hlt => ?_⟩
  · have hlt : added + j < x.pl := by have := of_decide_eq_true hlt; omega
    obtain ⟨p, ad, vs, hp1, hpa, hp2, ra, rl, rc, rfl, hrc, hp3⟩ := hg.p.get hlt
    have hp1' : (g.prods.drop added)[j]? = some p := by rw [List.getElem?_drop]; exact hp1
    have hpm := List.mem_of_getElem? hp1'
    have rl1 := hp3.1
    have b7' := b7 p (List.mem_of_mem_drop hpm)
    refine ⟨_, _, _, B.c4 g2, idx_n hpa hlt ⟨_, _, _, _, _, hp2.at g2 rfl, newC_i (St.all w2) fun k8 w3 h => stR_i h rfl (by simp [oneC]) fun w4 h => ?_⟩⟩
    have g4 : Gr w1 w4 := g2.trans h.gone1
    have hbox : rowH (hp w4) ⟨k8, 0, none⟩ [.int .i64 p.left, .slice ra rl rc, .int .i64 p.level] := h.row
    have d0 := fun (w' : World) (s : Gr w4 w') => hbox.cell0 s
    have d1 := fun (w' : World) (s : Gr w4 w') => hbox.cell s (j := 1) (v := .slice ra rl rc) rfl
    have d2 := fun (w' : World) (s : Gr w4 w') => hbox.cell s (j := 2) (v := .int .i64 p.level) rfl
    refine ⟨fun b w' => (b = false ↔ ((g.T : Int) + added ≤ p.left ∧ p.left < g.T + g.N ∧ 0 ≤ p.level ∧ p.level ≤ g.levels.length)) ∧ Gr w4 w', ?_, ?_⟩
    · intro w5 hd
      have g5 : Gr w4 w5 := Gr.of_eq (hp_drawn hd)
      refine ⟨fun w' => Gr w4 w', g5, _, fun w' s => d0 _ s, br_intro (fun h1 => ⟨?_, g5⟩) fun h1 => ?_⟩
      · have := of_decide_eq_true h1
        simp; omega
      have h1 := of_decide_eq_false h1
      refine ⟨_, fun w' s => d0 _ s, _, _, _, _, _, _, _, _, _, _, _, _, _, fun w' s => B.row (g4.trans s), (d_Symbols (x := x) (hg.mono (g4.trans g5)) hb').mono ?_⟩
      rintro _ w9 ⟨rfl, g9⟩
      have g9 : Gr w4 w9 := g5.trans g9
      refine ⟨_, rfl, fun w' => Gr w4 w', g9, fun _ h => h, br_intro (fun h2 => ⟨?_, g9⟩) fun h2 => ?_⟩
      · have := of_decide_eq_true h2
        simp; omega
      have h2 := of_decide_eq_false h2
      refine ⟨_, fun w' s => d2 _ s, br_intro (fun h3 => ⟨?_, g9⟩) fun h3 => ?_⟩
      · have := of_decide_eq_true h3
        simp; omega
      have h3 := of_decide_eq_false h3
      refine ⟨_, fun w' s => d2 _ s, _, _, _, fun w' s => B.c2 (g4.trans s), ?_, g9⟩
      rw [decide_eq_false_iff_not]; omega
    rintro _ b2 w13 ⟨hb2, g13⟩
    refine br_intro (fun hbt => ?_) fun hbf => ?_
    · subst hbt
      exact no (g4.trans g13) fun h => by have := hb2.2 (h p hpm).1; cases this
    have hpok := hb2.1 hbf
    refine ⟨fun n w' => ∃ i : Nat, n = i ∧ i ≤ rl ∧ (∀ (k : Nat) s, k < i → p.right[k]? = some s → symOk g added s) ∧ Gr w4 w', fun n _ => rl - n.toNat, ⟨0, rfl, by omega, fun k s hk => by omega, g13⟩, ?_⟩
    rintro _ n8 w14 ⟨i, rfl, hi, hsy, g14⟩
    refine ⟨_, _, _, d1 _ g14, br_intro (fun hlt2 => ?_) fun hlt2 => ?_⟩
    · have hlt2 : i < rl := by have := of_decide_eq_true hlt2; omega
      obtain ⟨s, ad2, hs1, hsa, hs2⟩ := hp3.get1 hlt2
      have bad : ∀ {w'}, Gr w4 w' → ¬ symOk g added s → _ := fun {w'} gg hn => no (g4.trans gg) (fun hq => hn ((hq p hpm).2 s (List.mem_of_getElem? hs1)))
      have good : ∀ {w'}, Gr w4 w' → symOk g added s → inI ((i : Int) + 1) ∧ (∃ i' : Nat, (i : Int) + 1 = i' ∧ i' ≤ rl ∧ (∀ (k : Nat) s, k < i' → p.right[k]? = some s → symOk g added s) ∧ Gr w4 w') ∧ rl - ((i : Int) + 1).toNat < rl - (i : Int).toNat := fun {w'} gg hgd => by
        refine ⟨⟨by omega, by omega⟩, ⟨i + 1, by simp, by omega, fun k s' hk hs' => ?_, gg⟩, msr hlt2⟩
        by_cases e : k = i
        · subst e; rw [hs1] at hs'; cases hs'; exact hgd
        · exact hsy k s' (by omega) hs'
      refine ⟨_, _, _, d1 _ g14, idx_i hsa hlt2 ⟨s, hs2 _ (g4.trans g14), br_intro (fun h1 => bad g14 ?_) fun h1 => ?_⟩⟩
      · have := of_decide_eq_true h1; unfold symOk; omega
      refine ⟨_, _, _, _, _, _, _, _, _, _, _, _, _, B.row (g4.trans g14), (d_Symbols (x := x) (hg.mono (g4.trans g14)) hb').mono ?_⟩
      rintro _ w15 ⟨rfl, g15⟩
      have g15 : Gr w4 w15 := g14.trans g15
      refine ⟨_, rfl, br_intro (fun h2 => bad g15 ?_) fun h2 => ⟨_, _, _, B.c0 (g4.trans g15), br_intro (fun h3 => br_intro (fun h4 => bad g15 ?_) fun h4 => good g15 ?_) fun h3 => good g15 ?_⟩⟩
      · have := of_decide_eq_true h2; unfold symOk; omega
      · have h3 := of_decide_eq_true h3; have h4 := of_decide_eq_true h4; unfold symOk; omega
      · have h1 := of_decide_eq_false h1; have h2 := of_decide_eq_false h2; have h3 := of_decide_eq_true h3; have h4 := of_decide_eq_false h4; unfold symOk; omega
      · have h1 := of_decide_eq_false h1; have h2 := of_decide_eq_false h2; have h3 := of_decide_eq_false h3; unfold symOk; omega
    have hlt2 : i = rl := by have := of_decide_eq_false hlt2; omega
    subst hlt2
    refine ⟨⟨by omega, by omega⟩, ⟨j + 1, by omega, by omega, fun q hq => ?_, g4.trans g14⟩, by dsimp only; omega⟩
    rw [List.take_add_one, hp1'] at hq
    rcases List.mem_append.1 hq with hq | hq
    · exact hok q hq
    · simp at hq; subst hq
      exact ⟨hpok, fun s hs => by
        obtain ⟨k, hk, e⟩ := List.mem_iff_getElem.1 hs
        exact hsy k s (by omega) (by rw [← e]; exact List.getElem?_eq_getElem hk)⟩
  · have hlt := of_decide_eq_false hlt
    rw [List.take_of_length_le (by simp; omega)] at hok
    exact ⟨⟨true, rfl, ⟨fun _ => hok, fun _ => rfl⟩⟩, gw.trans g2⟩
set_option maxHeartbeats 1000000 in
theorem d_lefts (hg : gR (hp w) g x) (hb : okG g) (added : Nat) : Run Tryd.prog n_presageref02_lefts [.agg ⟨x.cells⟩, .int .i64 (added : Int)] w fun v w' => ∃ a c, v = .slice a (leftsG g added).length c ∧ St w' (own 1 a (leftsG g added).length c (iv (leftsG g added)) :: all w) := by
  refine run_presageref02_lefts _ _ _ _ _ _ _ _ _ _ _ _ _ _ w _ ?_
  refine gbox hg fun k1 w1 gw hg B => ?_
  obtain ⟨b1, b2, b3, b4, b5, b6, b7⟩ := hb
  have pl := hg.p.1
  have hfin : ∀ {w' : World} {A : Asn}, St w' (A :: all w1) → St w' (A :: all w) := fun h => h.on1 (has_i gw)
  refine ⟨fun o l' c' n w' => ∃ j : Nat, n = ((added + j : Nat) : Int) ∧ (added + j ≤ x.pl ∨ j = 0) ∧ (leftsL (((g.prods.drop added).map ProdT.left).take j)).length = l' ∧
      St w' (own 1 o l' c' (iv (leftsL (((g.prods.drop added).map ProdT.left).take j))) :: all w1), fun _ _ _ n _ => x.pl - n.toNat, ⟨0, rfl, .inr rfl, rfl, own_nil 1 (St.all w1)⟩, ?_⟩
  rintro _ o1 _ c1 n1 w2 ⟨j, rfl, hj, rfl, h⟩
  have g2 : Gr w1 w2 := h.gone1
  have hll : (leftsL (((g.prods.drop added).map ProdT.left).take j)).length ≤ j := Nat.le_trans (leftsL_len _) (by simp; omega)
  refine ⟨_, _, _, B.c4 g2, br_intro (fun hlt => ?_) fun hlt => ?_⟩
  · have hlt : added + j < x.pl := by have := of_decide_eq_true hlt; omega
    obtain ⟨p, ad, vs, hp1, hpa, hp2, ra, rl, rc, rfl, hrc, hp3⟩ := hg.p.get hlt
    have hp1' : (g.prods.drop added)[j]? = some p := by rw [List.getElem?_drop]; exact hp1
    have hlp : ((g.prods.drop added).map ProdT.left)[j]? = some p.left := by rw [List.getElem?_map, hp1']; rfl
    have et := leftsL_take hlp
    generalize hLJ : leftsL (((g.prods.drop added).map ProdT.left).take j) = LJ at *
    refine ⟨fun b n w' => ∃ k : Nat, n = k ∧ k ≤ LJ.length ∧ (b = true ↔ p.left ∈ LJ.take k) ∧ St w' (own 1 o1 LJ.length c1 (iv LJ) :: all w1), fun b n _ => LJ.length - n.toNat, ⟨0, rfl, by omega, by simp, h⟩, ?_⟩
    clear h g2
    rintro _ b n2 w3 ⟨k, rfl, hk, hbk, h⟩
    refine br_intro (fun hlt2 => ?_) fun hlt2 => ?_
    · have hlt2 : k < LJ.length := by have := of_decide_eq_true hlt2; omega
      intro w4 hd
      have h := h.drawn hd
      have g4 : Gr w1 w4 := h.gone1
      obtain ⟨y, ad2, hy1, rfl, hy2⟩ := (own_rdI h).get1 hlt2
      have ey : LJ.take (k + 1) = LJ.take k ++ [y] := take_succ_get hy1
      refine ⟨fun w' => Gr w4 w', Gr.refl _, br_intro (fun h1 => ?_) fun h1 => ?_⟩
      · subst h1
        exact ⟨⟨by omega, by omega⟩, ⟨k + 1, by simp, by omega, ⟨fun _ => by rw [ey]; exact List.mem_append.2 (.inl (hbk.1 rfl)), fun _ => rfl⟩, h⟩, msr hlt2⟩
      · subst h1
        refine idx_i rfl hlt2 ⟨y, fun w' s => hy2 _ s, _, _, _, fun w' s => B.c4 (g4.trans s), idx_n hpa hlt ⟨_, fun w' s => hp2.cell0 (g4.trans s), ⟨by omega, by omega⟩, ⟨k + 1, by simp, by omega, ?_, h⟩, msr hlt2⟩⟩
        rw [ey, List.mem_append]
        have : p.left ∉ LJ.take k := fun hm => by have := hbk.2 hm; cases this
        simp only [this, false_or, List.mem_singleton, beq_iff_eq]
        exact eq_comm
    · have hlt2 : k = LJ.length := by have := of_decide_eq_false hlt2; omega
      subst hlt2
      rw [List.take_length] at hbk
      refine br_intro (fun h1 => ?_) fun h1 => ?_
      · have h1 : p.left ∉ LJ := fun hm => by rw [hbk.2 hm] at h1; cases h1
        refine ⟨_, _, _, B.c4 h.gone1, idx_n hpa hlt ⟨_, hp2.cell0 h.gone1, newC_i h fun k10 w8 h => ?_⟩⟩
        refine (app_one tyOk (rfl : kdOfT Ty _ = .slice _) (rfl : kdOfT Ty _ = .slice _) rfl rfl rfl h rfl (by simp [oneC]) (by show (_ + 1) * 8 ≤ _; omega) (by omega)).mono ?_
        rintro _ w10 ⟨a', c', rfl, h⟩
        have e2 : leftsL (((g.prods.drop added).map ProdT.left).take (j + 1)) = LJ ++ [p.left] := by rw [et]; unfold addL; rw [if_neg h1]
        refine ⟨_, _, _, rfl, ⟨by omega, by omega⟩, ⟨j + 1, by omega, by omega, by rw [e2]; simp, ?_⟩, by dsimp only; omega⟩
        rw [e2]
        have e3 : ∀ l : List Int, iv (l ++ [p.left]) = iv l ++ [.int .i64 p.left] := fun l => by simp [iv]
        rw [e3]
        exact h.pick 3 [0, 2]
      · have h1 : p.left ∈ LJ := hbk.1 (by simpa using h1)
        have e2 : leftsL (((g.prods.drop added).map ProdT.left).take (j + 1)) = LJ := by rw [et]; unfold addL; rw [if_pos h1]
        refine ⟨⟨by omega, by omega⟩, ⟨j + 1, by omega, by omega, by rw [e2], ?_⟩, by dsimp only; omega⟩
        rw [e2]; exact h
  · have hlt := of_decide_eq_false hlt
    have el : ((g.prods.drop added).map ProdT.left).take j = (g.prods.drop added).map ProdT.left := List.take_of_length_le (by simp; omega)
    rw [el] at h ⊢
    exact ⟨o1, c1, rfl, hfin h⟩
end
end Go.Proofs.YtaheggomcnbbiaaDoor
/- The document's grammars that may be (3). -/
set_option linter.unusedVariables false
namespace Go.V
theorem Gr.drawn {w w' : World} (h : V.drawn w w') : Gr w w' := Gr.of_eq (hp_drawn h)
theorem own_rdI {w : World} {L : List Asn} {a : Option Addr} {l c : Nat} {xs : List Int} (h : St w (own 1 a l c (iv xs) :: L)) : rdS (hp w) xs a l := by
  have hl := own_len h
  obtain ⟨h1, s, ha⟩ := h.first
  exact (rdS_of_row (by simpa [iv] using hl) (own_rdVh ha)).mono s
theorem closed_iff {g : GramT} : ClosedP g ↔ (2 ≤ g.nons.length ∧ g.nons[0]? = some .empty ∧ 2 ≤ g.prods.length ∧ ∃ p, g.prods[0]? = some p ∧ p.left = (g.T : Int) ∧ p.right = [g.start] ∧ p.level = 0) ∧ FitsP g 1 := by
  unfold ClosedP FitsP
  constructor
  · rintro ⟨h1, h2, h3, h4⟩
    have := (syms_iff.1 h2).1
    have := (fits_iff.1 ⟨h2, h3⟩).1.2.2.2.1
    exact ⟨⟨by omega, h1, by omega, h4⟩, h2, h3⟩
  · rintro ⟨⟨_, h1, _, h4⟩, h2, h3⟩
    exact ⟨h1, h2, h3, h4⟩
end Go.V
namespace Go.Proofs.YtaheggomcnbbiaaDoor
open Go.V
section
variable {w : World} {L : List Asn} {g : GramT} {x : GA} {s : ByteArray}
set_option maxHeartbeats 1000000 in
theorem d_fits (hg : gR (hp w) g x) (hb : okG g) (added : Nat) (ha : added ≤ 1) : Run Tryd.prog n_presageref02_fits [.agg ⟨x.cells⟩, .int .i64 (added : Int)] w fun v w' => (∃ r : Bool, v = .bool r ∧ (r = true ↔ FitsP g added)) ∧ Gr w w' := by
  refine run_presageref02_fits _ _ _ _ _ _ _ _ _ _ _ _ _ _ w _ ?_
  refine gbox hg fun k1 w1 gw hg B => ?_
  have hb' := hb
  obtain ⟨b1, b2, b3, b4, b5, b6, b7⟩ := hb
  have tl := hg.t.1
  have nl := hg.n.1
  have ll := hg.l.1
  have pl := hg.p.1
  have hT : g.T = x.tl := tl
  have hN : g.N = x.nl := nl
  have hst := hg.s
  rw [fits_iff]
  unfold fitSizes
  rw [hT, hN, tl, nl, ll, pl]
  generalize hP : (_ ∧ _ : Prop) = P
  have no : ∀ {w'}, Gr w1 w' → ¬ P → (∃ r : Bool, Value.bool false = .bool r ∧ (r = true ↔ P)) ∧ Gr w w' := fun {w'} gg hn => ⟨⟨false, rfl, ⟨fun h => (by cases h), fun h => absurd h hn⟩⟩, gw.trans gg⟩
  refine ⟨fun b w' => (b = false ↔ (x.nl ≤ 64 + added ∧ x.tl ≤ 65 ∧ x.pl ≤ 96 + added ∧ added < x.pl ∧ x.ll ≤ 64)) ∧ w' = w1, ?_, ?_⟩
  · refine ⟨_, _, _, B.c1 (sub.refl _), ⟨by omega, by omega⟩, br_intro (fun h1 => ⟨?_, rfl⟩) fun h1 => ⟨_, _, _, B.c0 (sub.refl _), br_intro (fun h2 => ⟨?_, rfl⟩) fun h2 => ⟨_, _, _, B.c4 (sub.refl _), ⟨by omega, by omega⟩, br_intro (fun h3 => ⟨?_, rfl⟩) fun h3 => ⟨_, _, _, B.c4 (sub.refl _), ⟨by omega, by omega⟩, br_intro (fun h4 => ⟨?_, rfl⟩) fun h4 => ⟨_, _, _, B.c2 (sub.refl _), ?_, rfl⟩⟩⟩⟩⟩
    all_goals simp only [decide_eq_true_eq, decide_eq_false_iff_not, Bool.true_eq_false, false_iff] at *
    all_goals omega
  rintro _ b w2 ⟨hb0, rfl⟩
  refine br_intro (fun h1 => no (Gr.refl _) fun hp => ?_) fun h1 => ?_
  · rw [← hP] at hp
    have := hb0.2 hp.1
    rw [h1] at this; cases this
  obtain ⟨z1, z2, z3, z4, z5⟩ := hb0.1 h1
  refine ⟨_, _, _, B.c0 (sub.refl _), ⟨by omega, by omega⟩, _, _, _, B.c1 (sub.refl _), ⟨by omega, by omega⟩, ⟨by omega, by omega⟩, br_intro (fun h2 => no (Gr.refl _) fun hp => ?_) fun h2 => ?_⟩
  · rw [← hP] at hp
    have := of_decide_eq_true h2; have := hp.2.1; omega
  have h2 := of_decide_eq_false h2
  refine ⟨_, _, _, _, _, _, _, _, _, _, _, _, _, B.row (sub.refl _), (d_termsFit (x := x) hg hb').mono ?_⟩
  rintro _ w3 ⟨⟨r1, rfl, e1⟩, g3⟩
  refine ⟨_, rfl, br_intro (fun h3 => no g3 fun hp => ?_) fun h3 => ?_⟩
  · rw [← hP] at hp
    have := e1.2 hp.2.2.1; rw [this] at h3; cases h3
  have h3 : r1 = true := by simpa using h3
  have e1 := e1.1 h3
  refine ⟨_, _, _, _, _, _, _, _, _, _, _, _, _, B.row g3, (d_levelsFit (x := x) (hg.mono g3) hb').mono ?_⟩
  rintro _ w4 ⟨⟨r2, rfl, e2⟩, g4⟩
  have g4 : Gr w2 w4 := g3.trans g4
  refine ⟨_, rfl, _, _, _, _, _, _, _, _, _, _, _, _, _, B.row g4, (d_nonsFit (x := x) (hg.mono g4) hb' added).mono ?_⟩
  rintro _ w5 ⟨⟨r3, rfl, e3⟩, g5⟩
  have g5 : Gr w2 w5 := g4.trans g5
  have hpf := d_prodsFit (x := x) (hg.mono g5) hb' added
  rw [hT] at hpf
  refine ⟨_, rfl, _, _, _, _, _, _, _, _, _, _, _, _, _, B.row g5, _, _, _, B.c0 g5, ⟨by omega, by omega⟩, hpf.mono ?_⟩
  rintro _ w6 ⟨⟨r4, rfl, e4⟩, g6⟩
  have g6 : Gr w2 w6 := g5.trans g6
  refine ⟨_, rfl, _, _, _, _, _, _, _, _, _, _, _, _, _, B.row g6, (d_lefts (x := x) (hg.mono g6) hb' added).mono ?_⟩
  rintro _ w7 ⟨a, c, rfl, h7⟩
  have g7 : Gr w2 w7 := g6.trans h7.gone1
  refine ⟨_, _, _, rfl, fun w8 hd => ⟨fun w' => Gr w2 w', g7.trans (Gr.drawn hd), ?_⟩⟩
  have g8 : Gr w2 w8 := g7.trans (Gr.drawn hd)
  refine br_intro (fun i1 => br_intro (fun i2 => br_intro (fun i3 => ⟨_, _, _, fun w' s => B.c1 s, ⟨by omega, by omega⟩, br_intro (fun i4 => ⟨_, fun w' s => B.c3 s, _, _, _, fun w' s => B.c0 s, ⟨by omega, by omega⟩, br_intro (fun i5 => ⟨_, fun w' s => B.c3 s, _, _, _, _, _, _, _, _, _, _, _, _, _, fun w' s => B.row s, (d_Symbols (x := x) (hg.mono g8) hb').mono ?_⟩) fun i5 => no g8 fun hp => ?_⟩) fun i4 => no g8 fun hp => ?_⟩) fun i3 => no g8 fun hp => ?_) fun i2 => no g8 fun hp => ?_) fun i1 => no g8 fun hp => ?_
  · rintro _ w9 ⟨rfl, g9⟩
    have g9 : Gr w2 w9 := g8.trans g9
    refine ⟨_, rfl, g9, ⟨_, rfl, ?_⟩, gw.trans g9⟩
    rw [← hP, hT, hN, decide_eq_true_eq, ← hst]
    have i4 := eq_of_beq i4
    have i5 := of_decide_eq_true i5
    exact ⟨fun h => ⟨⟨z1, z2, z3, z4, z5⟩, by omega, e1, e2.1 i1, e3.1 i2, e4.1 i3, i4, i5, h⟩, fun h => h.2.2.2.2.2.2.2.2⟩
  · rw [← hP, ← hst] at hp
    have := of_decide_eq_false i5; have := hp.2.2.2.2.2.2.2.1; omega
  · rw [← hP] at hp
    have := hp.2.2.2.2.2.2.1
    simp only [beq_eq_false_iff_ne, ne_eq] at i4
    omega
  · rw [← hP] at hp
    rw [e4.2 hp.2.2.2.2.2.1] at i3; cases i3
  · rw [← hP] at hp
    rw [e3.2 hp.2.2.2.2.1] at i2; cases i2
  · rw [← hP] at hp
    rw [e2.2 hp.2.2.2.1] at i1; cases i1
set_option maxHeartbeats 1000000 in
theorem d_Valid (hg : gR (hp w) g x) (hb : okG g) : Run Tryd.prog n_presageref02_Valid [.agg ⟨x.cells⟩] w fun v w' => (∃ r : Bool, v = .bool r ∧ (r = true ↔ ValidP g)) ∧ Gr w w' := by
  refine run_presageref02_Valid _ _ _ _ _ _ _ _ _ _ _ _ _ w _ ?_
  refine gbox hg fun k1 w1 gw hg B => ?_
  have hT : g.T = x.tl := hg.t.1
  rw [valid_iff]
  have no : ∀ {w'}, Gr w1 w' → ¬ (FitsP g 0 ∧ ∀ (i : Nat) y, (leftsG g 0)[i]? = some y → y = (g.T : Int) + i) → (∃ r : Bool, Value.bool false = .bool r ∧ (r = true ↔ (FitsP g 0 ∧ ∀ (i : Nat) y, (leftsG g 0)[i]? = some y → y = (g.T : Int) + i))) ∧ Gr w w' := fun {w'} gg hn => ⟨⟨false, rfl, ⟨fun h => (by cases h), fun h => absurd h hn⟩⟩, gw.trans gg⟩
  refine ⟨_, _, _, _, _, _, _, _, _, _, _, _, _, B.row (sub.refl _), (d_fits (x := x) hg hb 0 (by omega)).mono ?_⟩
  rintro _ w2 ⟨⟨r, rfl, e⟩, g2⟩
  refine ⟨_, rfl, br_intro (fun h1 => no g2 fun hp => ?_) fun h1 => ?_⟩
  · rw [e.2 hp.1] at h1; cases h1
  have h1 : r = true := by simpa using h1
  have hf := e.1 h1
  have hz := (fits_iff.1 hf).1
  refine ⟨_, _, _, _, _, _, _, _, _, _, _, _, _, B.row g2, (d_lefts (x := x) (hg.mono g2) hb 0).mono ?_⟩
  rintro _ w3 ⟨a, c, rfl, h3⟩
  have hl : (leftsG g 0).length ≤ 96 := by
    refine Nat.le_trans (leftsL_len _) ?_
    have := hz.2.2.1
    simp; omega
  have hsm := hz.2.1
  have ht : g.T = g.terms.length := rfl
  refine ⟨_, _, _, rfl, fun n w' => ∃ i : Nat, n = i ∧ i ≤ (leftsG g 0).length ∧ (∀ (k : Nat) y, k < i → (leftsG g 0)[k]? = some y → y = (g.T : Int) + k) ∧ St w' (own 1 a (leftsG g 0).length c (iv (leftsG g 0)) :: all w2), fun n _ => (leftsG g 0).length - n.toNat, ⟨0, rfl, by omega, fun k y hk => by omega, h3⟩, ?_⟩
  rintro _ n w4 ⟨i, rfl, hi, hok, h4⟩
  refine br_intro (fun hlt => ?_) fun hlt => ?_
  · have hlt : i < (leftsG g 0).length := by have := of_decide_eq_true hlt; omega
    intro w5 hd
    have h5 := h4.drawn hd
    have g5 : Gr w1 w5 := g2.trans h5.gone1
    obtain ⟨y, ad, hy1, hya, hy2⟩ := (own_rdI h5).get1 hlt
    refine ⟨fun w' => sub (hp w5) (hp w'), sub.refl _, idx_i hya hlt ⟨y, fun w' s => hy2 _ s, _, _, _, fun w' s => B.c0 (sub.trans g5 s), ⟨by omega, by omega⟩, br_intro (fun h6 => no g5 fun hp => ?_) fun h6 => ?_⟩⟩
    · have := hp.2 i y hy1
      simp only [bne_iff_ne, ne_eq] at h6; omega
    · have h6 : y = (x.tl : Int) + i := by simpa using h6
      refine ⟨⟨by omega, by omega⟩, ⟨i + 1, by simp, by omega, fun k z hk hz' => ?_, h5⟩, msr hlt⟩
      by_cases ek : k = i
      · subst ek; rw [hy1] at hz'; cases hz'; rw [hT]; exact h6
      · exact hok k z (by omega) hz'
  · have hlt : i = (leftsG g 0).length := by have := of_decide_eq_false hlt; omega
    subst hlt
    exact ⟨⟨true, rfl, ⟨fun _ => ⟨hf, fun i y hy => hok i y (List.getElem?_eq_some_iff.1 hy).1 hy⟩, fun _ => rfl⟩⟩, gw.trans (g2.trans h4.gone1)⟩
end
end Go.Proofs.YtaheggomcnbbiaaDoor
/- The document's grammars that may be (4): closed ones; the program's closed ones. -/
set_option linter.unusedVariables false
namespace Go.V
def EitherP (g : GramT) : Prop := ValidP g ∨ ClosedP g
theorem add0 (ad : Addr) (n : Nat) : ad.add (mulS 0 n) = ad := by simp [mulS_eq, Addr.add]
end Go.V
namespace Go.Proofs.YtaheggomcnbbiaaDoor
open Go.V
section
variable {w : World} {L : List Asn} {g : GramT} {x : GA} {s : ByteArray}
set_option maxHeartbeats 1000000 in
theorem d_Closed (hg : gR (hp w) g x) (hb : okG g) : Run Tryd.prog n_presageref02_Closed [.agg ⟨x.cells⟩] w fun v w' => (∃ r : Bool, v = .bool r ∧ (r = true ↔ ClosedP g)) ∧ Gr w w' := by
  refine run_presageref02_Closed _ _ _ _ _ _ _ _ _ _ _ _ _ w _ ?_
  refine gbox hg fun k1 w1 gw hg B => ?_
  have tl := hg.t.1
  have nl := hg.n.1
  have pl := hg.p.1
  have hT : g.T = x.tl := tl
  have hst := hg.s
  rw [closed_iff]
  generalize hP : (_ ∧ _ : Prop) = P
  have no : ∀ {w'}, Gr w1 w' → ¬ P → (∃ r : Bool, Value.bool false = .bool r ∧ (r = true ↔ P)) ∧ Gr w w' := fun {w'} gg hn => ⟨⟨false, rfl, ⟨fun h => (by cases h), fun h => absurd h hn⟩⟩, gw.trans gg⟩
  refine ⟨fun b w' => (b = false ↔ (2 ≤ g.nons.length ∧ g.nons[0]? = some .empty ∧ 2 ≤ g.prods.length)) ∧ w' = w1, ?_, ?_⟩
  · refine ⟨_, _, _, B.c1 (sub.refl _), br_intro (fun h1 => ⟨?_, rfl⟩) fun h1 => ?_⟩
    · have := of_decide_eq_true h1; simp; omega
    have h1 := of_decide_eq_false h1
    obtain ⟨s, ad, hs1, hsa, hs2⟩ := hg.n.get1 (i := 0) (by omega)
    refine ⟨_, _, _, B.c1 (sub.refl _), idx_0 hsa (by omega) ⟨s, hs2 _ (sub.refl _), ?_⟩⟩
    rw [bs_eq]
    change br (!decide (s = .empty)) _ _
    refine br_intro (fun h2 => ⟨?_, rfl⟩) fun h2 => ⟨_, _, _, B.c4 (sub.refl _), ?_, rfl⟩
    · have h2 : s ≠ .empty := by simpa using h2
      rw [hs1]; simp [h2]
    · have h2 : s = .empty := by simpa using h2
      rw [hs1, decide_eq_false_iff_not]; simp [h2]; omega
  rintro _ b w2 ⟨hb0, rfl⟩
  refine br_intro (fun h1 => no (Gr.refl _) fun hp => ?_) fun h1 => ?_
  · rw [← hP] at hp
    have := hb0.2 ⟨hp.1.1, hp.1.2.1, hp.1.2.2.1⟩
    rw [h1] at this; cases this
  obtain ⟨z1, z2, z3⟩ := hb0.1 h1
  obtain ⟨p, ad, vs, hp1, hpa, hp2, a, l, c, rfl, hlc, hp3⟩ := hg.p.get (i := 0) (by omega)
  rw [add0] at hp2
  refine ⟨_, _, _, B.c4 (sub.refl _), idx_0 hpa (by omega) ⟨_, _, _, _, _, hp2.at (sub.refl _) rfl, newC_i (St.all w2) fun k w3 h3 => stR_i h3 rfl (by intro v hv; simp at hv; rcases hv with rfl | rfl | rfl <;> rfl) fun w4 h4 => ?_⟩⟩
  intro w5 hd
  have h5 := h4.drawn hd
  have g5 : Gr w2 w5 := h5.gone1
  have rb := h5.row
  have pr := hp3.mono g5
  have hP' : P ↔ ((p.left = (x.tl : Int) ∧ l = 1 ∧ p.right = [g.start] ∧ p.level = 0) ∧ FitsP g 1) := by
    rw [← hP]
    constructor
    · rintro ⟨⟨_, _, _, q, hq, q1, q2, q3⟩, hf⟩
      rw [hp1] at hq; cases hq
      exact ⟨⟨by omega, by rw [← hp3.1, q2]; rfl, q2, q3⟩, hf⟩
    · rintro ⟨⟨q1, _, q2, q3⟩, hf⟩
      exact ⟨⟨z1, z2, z3, p, hp1, by omega, q2, q3⟩, hf⟩
  refine ⟨fun w' => sub (hp w5) (hp w'), sub.refl _, _, fun w' s => rb.cell0 s, _, _, _, fun w' s => B.c0 (sub.trans g5 s), br_intro (fun h6 => no g5 fun hp => ?_) fun h6 => ⟨_, _, _, fun w' s => rb.cell s (j := 1) rfl, br_intro (fun h7 => no g5 fun hp => ?_) fun h7 => ?_⟩⟩
  · have := (hP'.1 hp).1.1
    simp only [bne_iff_ne, ne_eq] at h6; omega
  · have := (hP'.1 hp).1.2.1
    simp only [bne_iff_ne, ne_eq] at h7; omega
  have h6 : p.left = (x.tl : Int) := by simpa using h6
  have h7 : l = 1 := by have h7 : (l : Int) = 1 := by simpa using h7
                        omega
  obtain ⟨y, ad2, hy1, hya, hy2⟩ := pr.get1 (i := 0) (by omega)
  have hr : p.right = [y] := by
    have hl := pr.1
    match hq : p.right, hl, hy1 with
    | [z], _, hy1 => simp at hy1; rw [hy1]
    | [], hl, _ => simp at hl; omega
    | _ :: _ :: _, hl, _ => simp at hl; omega
  refine ⟨_, _, _, fun w' s => rb.cell s (j := 1) rfl, idx_0 hya (by omega) ⟨y, fun w' s => hy2 _ s, _, fun w' s => B.c3 (sub.trans g5 s), br_intro (fun h8 => no g5 fun hp => ?_) fun h8 => ⟨_, fun w' s => rb.cell s (j := 2) rfl, br_intro (fun h9 => no g5 fun hp => ?_) fun h9 => ?_⟩⟩⟩
  · have := (hP'.1 hp).1.2.2.1
    rw [hr] at this
    simp only [bne_iff_ne, ne_eq] at h8
    simp at this; omega
  · have := (hP'.1 hp).1.2.2.2
    simp only [bne_iff_ne, ne_eq] at h9; omega
  have h8 : y = x.s := by simpa using h8
  have h9 : p.level = 0 := by simpa using h9
  refine ⟨_, _, _, _, _, _, _, _, _, _, _, _, _, B.row g5, (d_fits (x := x) (hg.mono g5) hb 1 (by omega)).mono ?_⟩
  rintro _ w6 ⟨⟨r, rfl, e⟩, g6⟩
  refine ⟨_, rfl, ⟨r, rfl, ?_⟩, gw.trans (g5.trans g6)⟩
  rw [hP', e]
  exact ⟨fun h => ⟨⟨h6, h7, by rw [hr, h8, hst], h9⟩, h⟩, fun h => h.2⟩
set_option maxHeartbeats 1000000 in
theorem d_Either (hg : gR (hp w) g x) (hb : okG g) : Run Tryd.prog n_presageref02_Either [.agg ⟨x.cells⟩] w fun v w' => (∃ r : Bool, v = .bool r ∧ (r = true ↔ EitherP g)) ∧ Gr w w' := by
  refine run_presageref02_Either _ _ _ _ _ _ _ _ _ _ _ _ _ w _ ?_
  refine gbox hg fun k1 w1 gw hg B => ?_
  refine ⟨_, _, _, _, _, _, _, _, _, _, _, _, _, B.row (sub.refl _), (d_Valid (x := x) hg hb).mono ?_⟩
  rintro _ w2 ⟨⟨r1, rfl, e1⟩, g2⟩
  refine ⟨_, rfl, _, _, _, _, _, _, _, _, _, _, _, _, _, B.row g2, (d_Closed (x := x) (hg.mono g2) hb).mono ?_⟩
  rintro _ w3 ⟨⟨r2, rfl, e2⟩, g3⟩
  have g3 : Gr w w3 := gw.trans (g2.trans g3)
  unfold EitherP
  rw [← e1, ← e2]
  refine ⟨_, rfl, br_intro (fun h1 => ⟨⟨true, rfl, by simp [h1]⟩, g3⟩) fun h1 => ⟨⟨r2, rfl, by simp [h1]⟩, g3⟩⟩
set_option maxHeartbeats 1000000 in
theorem g_Closed (hg : gR (hp w) g x) (hb : okG g) : Run Tryd.prog n_gram_Closed [.agg ⟨x.cells⟩] w fun v w' => (∃ r : Bool, v = .bool r ∧ (r = true ↔ ClosedP g)) ∧ Gr w w' := by
  refine run_gram_Closed _ _ _ _ _ _ _ _ _ _ _ _ _ w _ ?_
  refine gbox hg fun k1 w1 gw hg B => ?_
  have tl := hg.t.1
  have nl := hg.n.1
  have pl := hg.p.1
  have hT : g.T = x.tl := tl
  have hst := hg.s
  have no : ∀ {w'}, Gr w1 w' → ¬ ClosedP g → (∃ r : Bool, Value.bool false = .bool r ∧ (r = true ↔ ClosedP g)) ∧ Gr w w' := fun {w'} gg hn => ⟨⟨false, rfl, ⟨fun h => (by cases h), fun h => absurd h hn⟩⟩, gw.trans gg⟩
  refine ⟨fun b w' => (b = false ↔ (g.nons[0]? = some .empty ∧ SymsOk g 1)) ∧ Gr w1 w', ?_, ?_⟩
  · refine ⟨_, _, _, B.c1 (sub.refl _), br_intro (fun h1 => ⟨?_, Gr.refl _⟩) fun h1 => ?_⟩
    · have h1 : x.nl = 0 := by have := eq_of_beq h1; omega
      have : g.nons[0]? = none := List.getElem?_eq_none (by omega)
      rw [this]; simp
    have h1 : x.nl ≠ 0 := fun h => by rw [h] at h1; simp at h1
    obtain ⟨s, ad, hs1, hsa, hs2⟩ := hg.n.get1 (i := 0) (by omega)
    refine ⟨_, _, _, B.c1 (sub.refl _), idx_0 hsa (by omega) ⟨s, hs2 _ (sub.refl _), ?_⟩⟩
    rw [bs_eq]
    change br (!decide (s = .empty)) _ _
    refine br_intro (fun h2 => ⟨?_, Gr.refl _⟩) fun h2 => ⟨_, _, _, _, _, _, _, _, _, _, _, _, _, B.row (sub.refl _), (g_symbols (x := x) hg hb 1 (by omega)).mono ?_⟩
    · have h2 : s ≠ .empty := by simpa using h2
      rw [hs1]; simp [h2]
    · have h2 : s = .empty := by simpa using h2
      rintro _ w2 ⟨⟨r, rfl, e⟩, g2⟩
      refine ⟨_, rfl, ?_, g2⟩
      rw [hs1, ← e]; simp [h2]
  rintro _ b w2 ⟨hb0, g2⟩
  refine br_intro (fun h1 => no g2 fun hp => ?_) fun h1 => ?_
  · have := hb0.2 ⟨hp.1, hp.2.1⟩
    rw [h1] at this; cases this
  obtain ⟨z1, z2⟩ := hb0.1 h1
  refine ⟨_, _, _, _, _, _, _, _, _, _, _, _, _, B.row g2, (g_productions (x := x) (hg.mono g2) hb 1 (by omega)).mono ?_⟩
  rintro _ w3 ⟨a3, l3, c3, xs, r2, rfl, hr2, hxs, h3⟩
  have g3 : Gr w1 w3 := g2.trans h3.gone1
  refine ⟨_, _, _, _, rfl, _, _, _, B.c4 g3, fun w5 hd => ?_⟩
  have g5 : Gr w1 w5 := g3.trans (Gr.drawn hd)
  refine ⟨fun w' => sub (hp w5) (hp w'), sub.refl _, br_intro (fun h4 => ?_) fun h4 => no g5 fun hp => ?_⟩
  rotate_left
  · rw [hr2.2 hp.2.2.1] at h4; cases h4
  have hpr := hr2.1 h4
  have hpl : 0 < x.pl := by have := hpr.1; omega
  obtain ⟨p, ad, vs, hp1, hpa, hp2, a, l, c, rfl, hlc, hp3⟩ := hg.p.get (i := 0) hpl
  rw [add0] at hp2
  have pr := hp3.mono g5
  have rb := hp2.mono g5
  have hP' : ClosedP g ↔ (p.left = (x.tl : Int) ∧ l = 1 ∧ p.right = [g.start] ∧ p.level = 0) := by
    unfold ClosedP
    constructor
    · rintro ⟨_, _, _, q, hq, q1, q2, q3⟩
      rw [hp1] at hq; cases hq
      exact ⟨by omega, by rw [← hp3.1, q2]; rfl, q2, q3⟩
    · rintro ⟨q1, _, q2, q3⟩
      exact ⟨z1, z2, hpr, p, hp1, by omega, q2, q3⟩
  refine idx_0 hpa hpl ⟨_, fun w' s => rb.cell0 s, _, _, _, fun w' s => B.c0 (sub.trans g5 s), br_intro (fun h6 => ?_) fun h6 => no g5 fun hp => ?_⟩
  rotate_left
  · have := (hP'.1 hp).1
    simp only [beq_eq_false_iff_ne, ne_eq] at h6; omega
  have h6 := eq_of_beq h6
  refine idx_0 hpa hpl ⟨_, _, _, fun w' s => rb.cell s (j := 1) rfl, br_intro (fun h7 => ?_) fun h7 => no g5 fun hp => ?_⟩
  rotate_left
  · have := (hP'.1 hp).2.1
    simp only [beq_eq_false_iff_ne, ne_eq] at h7; omega
  have h7 : l = 1 := by have := eq_of_beq h7; omega
  obtain ⟨y, ad2, hy1, hya, hy2⟩ := pr.get1 (i := 0) (by omega)
  have hr : p.right = [y] := by
    have hl := pr.1
    match hq : p.right, hl, hy1 with
    | [z], _, hy1 => simp at hy1; rw [hy1]
    | [], hl, _ => simp at hl; omega
    | _ :: _ :: _, hl, _ => simp at hl; omega
  refine idx_0 hpa hpl ⟨_, _, _, fun w' s => rb.cell s (j := 1) rfl, idx_0 hya (by omega) ⟨y, fun w' s => hy2 _ s, _, fun w' s => B.c3 (sub.trans g5 s), br_intro (fun h8 => ?_) fun h8 => no g5 fun hp => ?_⟩⟩
  rotate_left
  · have := (hP'.1 hp).2.2.1
    rw [hr] at this
    simp only [beq_eq_false_iff_ne, ne_eq] at h8
    simp at this; omega
  have h8 := eq_of_beq h8
  refine idx_0 hpa hpl ⟨_, fun w' s => rb.cell s (j := 2) rfl, ⟨_, rfl, ?_⟩, gw.trans g5⟩
  rw [hP', beq_iff_eq]
  exact ⟨fun h => ⟨h6, h7, by rw [hr, h8, hst], h⟩, fun h => h.2.2.2⟩
end
end Go.Proofs.YtaheggomcnbbiaaDoor
/- The propositions of this seat's functions (written by a program). -/
set_option linter.unusedVariables false
namespace Go.Proofs.YtaheggomcnbbiaaDoor
open Go.V
/- presage/first.Nullable -/
abbrev n_first_Nullable : FuncId := 15
def ann_first_Nullable : Ann := { rngs := [], loops := [], joins := [], blocks := [] }
set_option maxRecDepth 100000 in
def vc_first_Nullable (p0g_0a : Option Addr) (p0g_0l : Nat) (p0g_0c : Nat) (p0g_1a : Option Addr) (p0g_1l : Nat) (p0g_1c : Nat) (p0g_2a : Option Addr) (p0g_2l : Nat) (p0g_2c : Nat) (p0g_3 : Int) (p0g_4a : Option Addr) (p0g_4l : Nat) (p0g_4c : Nat) (w : World) (R : Value → World → Prop) : Prop :=
  new w
  (Obj.cells
  (Array.mk [Value.slice p0g_0a p0g_0l p0g_0c, Value.slice p0g_1a p0g_1l p0g_1c, Value.slice p0g_2a p0g_2l p0g_2c, Value.int IntKind.i64 p0g_3, Value.slice p0g_4a p0g_4l p0g_4c])
  27)
  fun (k1 : Nat) (w1 : World) =>
  ∃ (o1 : Option Addr),
  ∃ (k2 : Nat),
  ∃ (k3 : Nat),
  ∃ (o2 : Option Addr),
  ∃ (k4 : Nat),
  ∃ (k5 : Nat),
  ∃ (o3 : Option Addr),
  ∃ (k6 : Nat),
  ∃ (k7 : Nat),
  ∃ (n1 : Int),
  ∃ (o4 : Option Addr),
  ∃ (k8 : Nat),
  ∃ (k9 : Nat),
  V.rowAt w1 (Addr.mk k1 0 none) 0 5 =
  some [Value.slice o1 k2 k3, Value.slice o2 k4 k5, Value.slice o3 k6 k7, Value.int IntKind.i64 n1, Value.slice o4 k8 k9] ∧
  RunE Proofs.Tryd.prog Ev 48
  [Value.agg (Array.mk [Value.slice o1 k2 k3, Value.slice o2 k4 k5, Value.slice o3 k6 k7, Value.int IntKind.i64 n1, Value.slice o4 k8 k9])] w1
  fun (v1 : Value) (w2 : World) =>
  ∃ (b1 : Bool),
  v1 = Value.bool b1 ∧
  br (!b1) (R (Value.tuple (Array.mk [Value.slice none 0 0, Value.int IntKind.i64 1])) w2)
  (∀ (w3 : World),
  drawn w2 w3 →
  ∃ (I1 : World → Prop),
  I1 w3 ∧
  ∃ (o5 : Option Addr),
  ∃ (k10 : Nat),
  ∃ (k11 : Nat),
  ∃ (o6 : Option Addr),
  ∃ (k12 : Nat),
  ∃ (k13 : Nat),
  ∃ (o7 : Option Addr),
  ∃ (k14 : Nat),
  ∃ (k15 : Nat),
  ∃ (n2 : Int),
  ∃ (o8 : Option Addr),
  ∃ (k16 : Nat),
  ∃ (k17 : Nat),
  (∀ (w4 : World),
  I1 w4 →
  V.rowAt w4 (Addr.mk k1 0 none) 0 5 =
  some
  [Value.slice o5 k10 k11, Value.slice o6 k12 k13, Value.slice o7 k14 k15, Value.int IntKind.i64 n2,
  Value.slice o8 k16 k17]) ∧
  ∃ (o9 : Option Addr),
  ∃ (k18 : Nat),
  ∃ (k19 : Nat),
  (∀ (w5 : World), I1 w5 → World.cell? w5 (Addr.mk k1 0 none) = some (Value.slice o9 k18 k19)) ∧
  RunE Proofs.Tryd.prog Ev 49
  [Value.agg
  (Array.mk
  [Value.slice o5 k10 k11, Value.slice o6 k12 k13, Value.slice o7 k14 k15,
  Value.int IntKind.i64 n2, Value.slice o8 k16 k17])]
  w3 fun (v2 : Value) (w6 : World) =>
  ∃ (o10 : Option Addr),
  v2 = Value.pointer o10 ∧
  ∃ (I2 : World → Prop),
  I2 w6 ∧
  (∀ (w7 : World), I2 w7 → I1 w7) ∧
  nn o10 fun (a1 : Addr) =>
  ∃ (o11 : Option Addr),
  ∃ (k20 : Nat),
  ∃ (k21 : Nat),
  (∀ (w8 : World),
  I2 w8 → World.cell? w8 (Addr.add a1 5) = some (Value.slice o11 k20 k21)) ∧
  slc o11 k20 k21 (some (↑k18 : Int)) none none 1
  fun (o12 : Option Addr) (k22 k23 : Nat) =>
  R
  (Value.tuple
  (Array.mk [Value.slice o12 k22 k23, Value.int IntKind.i64 0]))
  w6)
set_option maxRecDepth 100000 in
theorem run_first_Nullable (p0g_0a : Option Addr) (p0g_0l : Nat) (p0g_0c : Nat) (p0g_1a : Option Addr) (p0g_1l : Nat) (p0g_1c : Nat) (p0g_2a : Option Addr) (p0g_2l : Nat) (p0g_2c : Nat) (p0g_3 : Int) (p0g_4a : Option Addr) (p0g_4l : Nat) (p0g_4c : Nat) (w : World) (R : Value → World → Prop) (h : vc_first_Nullable p0g_0a p0g_0l p0g_0c p0g_1a p0g_1l p0g_1c p0g_2a p0g_2l p0g_2c p0g_3 p0g_4a p0g_4l p0g_4c w R) : Run Tryd.prog 15 [(.agg #[(.slice p0g_0a p0g_0l p0g_0c), (.slice p0g_1a p0g_1l p0g_1c), (.slice p0g_2a p0g_2l p0g_2c), (.int .i64 p0g_3), (.slice p0g_4a p0g_4l p0g_4c)])] w R :=
  run_ev tyOk fnOk mixed Tryd.func15 ann_first_Nullable ((by kernel_rfl : fnV Tryd.prog Ty Fn Ev ann_first_Nullable Tryd.f15 [(.agg #[(.slice p0g_0a p0g_0l p0g_0c), (.slice p0g_1a p0g_1l p0g_1c), (.slice p0g_2a p0g_2l p0g_2c), (.int .i64 p0g_3), (.slice p0g_4a p0g_4l p0g_4c)])] w R = vc_first_Nullable p0g_0a p0g_0l p0g_0c p0g_1a p0g_1l p0g_1c p0g_2a p0g_2l p0g_2c p0g_3 p0g_4a p0g_4l p0g_4c w R) ▸ h)

/- presage/first.Sets -/
abbrev n_first_Sets : FuncId := 18
def ann_first_Sets : Ann := { rngs := [], loops := [(6, [(5, (.one .slice)), (15, (.one (.int .i64)))])], joins := [], blocks := [] }
set_option maxRecDepth 100000 in
def vc_first_Sets (p0g_0a : Option Addr) (p0g_0l : Nat) (p0g_0c : Nat) (p0g_1a : Option Addr) (p0g_1l : Nat) (p0g_1c : Nat) (p0g_2a : Option Addr) (p0g_2l : Nat) (p0g_2c : Nat) (p0g_3 : Int) (p0g_4a : Option Addr) (p0g_4l : Nat) (p0g_4c : Nat) (w : World) (R : Value → World → Prop) : Prop :=
  new w
  (Obj.cells
  (Array.mk [Value.slice p0g_0a p0g_0l p0g_0c, Value.slice p0g_1a p0g_1l p0g_1c, Value.slice p0g_2a p0g_2l p0g_2c, Value.int IntKind.i64 p0g_3, Value.slice p0g_4a p0g_4l p0g_4c])
  27)
  fun (k1 : Nat) (w1 : World) =>
  ∃ (o1 : Option Addr),
  ∃ (k2 : Nat),
  ∃ (k3 : Nat),
  ∃ (o2 : Option Addr),
  ∃ (k4 : Nat),
  ∃ (k5 : Nat),
  ∃ (o3 : Option Addr),
  ∃ (k6 : Nat),
  ∃ (k7 : Nat),
  ∃ (n1 : Int),
  ∃ (o4 : Option Addr),
  ∃ (k8 : Nat),
  ∃ (k9 : Nat),
  V.rowAt w1 (Addr.mk k1 0 none) 0 5 =
  some [Value.slice o1 k2 k3, Value.slice o2 k4 k5, Value.slice o3 k6 k7, Value.int IntKind.i64 n1, Value.slice o4 k8 k9] ∧
  RunE Proofs.Tryd.prog Ev 48
  [Value.agg (Array.mk [Value.slice o1 k2 k3, Value.slice o2 k4 k5, Value.slice o3 k6 k7, Value.int IntKind.i64 n1, Value.slice o4 k8 k9])] w1
  fun (v1 : Value) (w2 : World) =>
  ∃ (b1 : Bool),
  v1 = Value.bool b1 ∧
  br (!b1) (R (Value.tuple (Array.mk [Value.slice none 0 0, Value.int IntKind.i64 1])) w2)
  (∃ (o5 : Option Addr),
  ∃ (k10 : Nat),
  ∃ (k11 : Nat),
  ∃ (o6 : Option Addr),
  ∃ (k12 : Nat),
  ∃ (k13 : Nat),
  ∃ (o7 : Option Addr),
  ∃ (k14 : Nat),
  ∃ (k15 : Nat),
  ∃ (n2 : Int),
  ∃ (o8 : Option Addr),
  ∃ (k16 : Nat),
  ∃ (k17 : Nat),
  V.rowAt w2 (Addr.mk k1 0 none) 0 5 =
  some
  [Value.slice o5 k10 k11, Value.slice o6 k12 k13, Value.slice o7 k14 k15, Value.int IntKind.i64 n2,
  Value.slice o8 k16 k17] ∧
  RunE Proofs.Tryd.prog Ev 49
  [Value.agg
  (Array.mk
  [Value.slice o5 k10 k11, Value.slice o6 k12 k13, Value.slice o7 k14 k15, Value.int IntKind.i64 n2,
  Value.slice o8 k16 k17])]
  w2 fun (v2 : Value) (w3 : World) =>
  ∃ (o9 : Option Addr),
  v2 = Value.pointer o9 ∧
  ∃ (o10 : Option Addr),
  ∃ (k18 : Nat),
  ∃ (k19 : Nat),
  World.cell? w3 (Addr.add (Addr.mk k1 0 none) 1) = some (Value.slice o10 k18 k19) ∧
  ∃ (x1 : arrS (shs [(5, S1.one Cs.slice), (15, S1.one (Cs.int IntKind.i64))]) (World → Prop)),
  ∃ (x2 : arrS (shs [(5, S1.one Cs.slice), (15, S1.one (Cs.int IntKind.i64))]) (World → Nat)),
  x1 none 0 0 0 w3 ∧
  ∀ (I1 : Nat → Value) (o11 : Option Addr) (k20 k21 : Nat) (n3 : Int) (w4 : World),
  x1 o11 k20 k21 n3 w4 →
  br (decide (n3 < (↑k18 : Int)))
  (∀ (w5 : World),
  drawn w4 w5 →
  ∃ (I2 : World → Prop),
  I2 w5 ∧
  nn o9 fun (a1 : Addr) =>
  ∃ (o12 : Option Addr),
  ∃ (k22 : Nat),
  ∃ (k23 : Nat),
  (∀ (w6 : World),
  I2 w6 →
  World.cell? w6 (Addr.add a1 6) = some (Value.slice o12 k22 k23)) ∧
  ∃ (o13 : Option Addr),
  ∃ (k24 : Nat),
  ∃ (k25 : Nat),
  (∀ (w7 : World),
  I2 w7 →
  World.cell? w7 (Addr.mk k1 0 none) =
  some (Value.slice o13 k24 k25)) ∧
  inI ((↑k24 : Int) + n3) ∧
  idx o12 k22 ((↑k24 : Int) + n3) 1 fun (a2 : Addr) =>
  ∃ (o14 : Option Addr),
  (∀ (w8 : World),
  I2 w8 →
  World.cell? w8 a2 = some (Value.pointer o14)) ∧
  RunE Proofs.Tryd.prog Ev 52 [Value.pointer o14] w5
  fun (v3 : Value) (w9 : World) =>
  ∃ (o15 : Option Addr),
  ∃ (k26 : Nat),
  ∃ (k27 : Nat),
  v3 = Value.slice o15 k26 k27 ∧
  I2 w9 ∧
  new w9
  (Obj.cells
  (Array.mk [Value.slice o15 k26 k27])
  24)
  fun (k28 : Nat) (w10 : World) =>
  I2 w10 ∧
  RunS Proofs.Tryd.prog
  (Builtin.append_ (Array.mk [35, 35])
  35
  (Array.mk
  [Value.slice o11 k20 k21,
  Value.slice
  (some (Addr.mk k28 0 none))
  1 1]))
  w10
  fun (v4 : Value) (w11 : World) =>
  ∃ (o16 : Option Addr),
  ∃ (k29 : Nat),
  ∃ (k30 : Nat),
  v4 = Value.slice o16 k29 k30 ∧
  I2 w11 ∧
  inI (n3 + 1) ∧
  x1 o16 k29 k30 (n3 + 1)
  w11 ∧
  x2 o16 k29 k30
  (n3 + 1) w11 <
  x2 o11 k20 k21 n3
  w4)
  (R (Value.tuple (Array.mk [Value.slice o11 k20 k21, Value.int IntKind.i64 0])) w4))
set_option maxRecDepth 100000 in
theorem run_first_Sets (p0g_0a : Option Addr) (p0g_0l : Nat) (p0g_0c : Nat) (p0g_1a : Option Addr) (p0g_1l : Nat) (p0g_1c : Nat) (p0g_2a : Option Addr) (p0g_2l : Nat) (p0g_2c : Nat) (p0g_3 : Int) (p0g_4a : Option Addr) (p0g_4l : Nat) (p0g_4c : Nat) (w : World) (R : Value → World → Prop) (h : vc_first_Sets p0g_0a p0g_0l p0g_0c p0g_1a p0g_1l p0g_1c p0g_2a p0g_2l p0g_2c p0g_3 p0g_4a p0g_4l p0g_4c w R) : Run Tryd.prog 18 [(.agg #[(.slice p0g_0a p0g_0l p0g_0c), (.slice p0g_1a p0g_1l p0g_1c), (.slice p0g_2a p0g_2l p0g_2c), (.int .i64 p0g_3), (.slice p0g_4a p0g_4l p0g_4c)])] w R :=
  run_ev tyOk fnOk mixed Tryd.func18 ann_first_Sets ((by kernel_rfl : fnV Tryd.prog Ty Fn Ev ann_first_Sets Tryd.f18 [(.agg #[(.slice p0g_0a p0g_0l p0g_0c), (.slice p0g_1a p0g_1l p0g_1c), (.slice p0g_2a p0g_2l p0g_2c), (.int .i64 p0g_3), (.slice p0g_4a p0g_4l p0g_4c)])] w R = vc_first_Sets p0g_0a p0g_0l p0g_0c p0g_1a p0g_1l p0g_1c p0g_2a p0g_2l p0g_2c p0g_3 p0g_4a p0g_4l p0g_4c w R) ▸ h)

/- presage/first.Row -/
abbrev n_first_Row : FuncId := 22
def ann_first_Row : Ann := { rngs := [], loops := [(4, [(17, (.one (.int .i64)))])], joins := [], blocks := [] }
set_option maxRecDepth 100000 in
def vc_first_Row (p0g_0a : Option Addr) (p0g_0l : Nat) (p0g_0c : Nat) (p0g_1a : Option Addr) (p0g_1l : Nat) (p0g_1c : Nat) (p0g_2a : Option Addr) (p0g_2l : Nat) (p0g_2c : Nat) (p0g_3 : Int) (p0g_4a : Option Addr) (p0g_4l : Nat) (p0g_4c : Nat) (p1symsa : Option Addr) (p1symsl : Nat) (p1symsc : Nat) (w : World) (R : Value → World → Prop) : Prop :=
  new w
  (Obj.cells
  (Array.mk [Value.slice p0g_0a p0g_0l p0g_0c, Value.slice p0g_1a p0g_1l p0g_1c, Value.slice p0g_2a p0g_2l p0g_2c, Value.int IntKind.i64 p0g_3, Value.slice p0g_4a p0g_4l p0g_4c])
  27)
  fun (k1 : Nat) (w1 : World) =>
  ∃ (o1 : Option Addr),
  ∃ (k2 : Nat),
  ∃ (k3 : Nat),
  ∃ (o2 : Option Addr),
  ∃ (k4 : Nat),
  ∃ (k5 : Nat),
  ∃ (o3 : Option Addr),
  ∃ (k6 : Nat),
  ∃ (k7 : Nat),
  ∃ (n1 : Int),
  ∃ (o4 : Option Addr),
  ∃ (k8 : Nat),
  ∃ (k9 : Nat),
  V.rowAt w1 (Addr.mk k1 0 none) 0 5 =
  some [Value.slice o1 k2 k3, Value.slice o2 k4 k5, Value.slice o3 k6 k7, Value.int IntKind.i64 n1, Value.slice o4 k8 k9] ∧
  RunE Proofs.Tryd.prog Ev 48
  [Value.agg (Array.mk [Value.slice o1 k2 k3, Value.slice o2 k4 k5, Value.slice o3 k6 k7, Value.int IntKind.i64 n1, Value.slice o4 k8 k9])] w1
  fun (v1 : Value) (w2 : World) =>
  ∃ (b1 : Bool),
  v1 = Value.bool b1 ∧
  br (!b1) (R (Value.tuple (Array.mk [Value.slice none 0 0, Value.bool false, Value.int IntKind.i64 1])) w2)
  (∃ (x1 : arrS (shs [(17, S1.one (Cs.int IntKind.i64))]) (World → Prop)),
  ∃ (x2 : arrS (shs [(17, S1.one (Cs.int IntKind.i64))]) (World → Nat)),
  x1 0 w2 ∧
  ∀ (I1 : Nat → Value) (n2 : Int) (w3 : World),
  x1 n2 w3 →
  br (decide (n2 < (↑p1symsl : Int)))
  (idx p1symsa p1symsl n2 1 fun (a1 : Addr) =>
  ∃ (n3 : Int),
  World.cell? w3 a1 = some (Value.int IntKind.i64 n3) ∧
  br (decide (n3 < 0)) (R (Value.tuple (Array.mk [Value.slice none 0 0, Value.bool false, Value.int IntKind.i64 1])) w3)
  (∃ (o5 : Option Addr),
  ∃ (k10 : Nat),
  ∃ (k11 : Nat),
  World.cell? w3 (Addr.mk k1 0 none) = some (Value.slice o5 k10 k11) ∧
  ∃ (o6 : Option Addr),
  ∃ (k12 : Nat),
  ∃ (k13 : Nat),
  World.cell? w3 (Addr.add (Addr.mk k1 0 none) 1) = some (Value.slice o6 k12 k13) ∧
  inI ((↑k10 : Int) + (↑k12 : Int)) ∧
  br (decide ((↑k10 : Int) + (↑k12 : Int) ≤ n3))
  (R (Value.tuple (Array.mk [Value.slice none 0 0, Value.bool false, Value.int IntKind.i64 1])) w3)
  (inI (n2 + 1) ∧ x1 (n2 + 1) w3 ∧ x2 (n2 + 1) w3 < x2 n2 w3)))
  (∃ (o7 : Option Addr),
  ∃ (k14 : Nat),
  ∃ (k15 : Nat),
  World.cell? w3 (Addr.mk k1 0 none) = some (Value.slice o7 k14 k15) ∧
  RunE Proofs.Tryd.prog Ev 55 [Value.int IntKind.i64 (↑k14 : Int), Value.slice none 0 0] w3 fun (v2 : Value) (w4 : World) =>
  ∃ (o8 : Option Addr),
  v2 = Value.pointer o8 ∧
  ∃ (o9 : Option Addr),
  ∃ (k16 : Nat),
  ∃ (k17 : Nat),
  ∃ (o10 : Option Addr),
  ∃ (k18 : Nat),
  ∃ (k19 : Nat),
  ∃ (o11 : Option Addr),
  ∃ (k20 : Nat),
  ∃ (k21 : Nat),
  ∃ (n4 : Int),
  ∃ (o12 : Option Addr),
  ∃ (k22 : Nat),
  ∃ (k23 : Nat),
  V.rowAt w4 (Addr.mk k1 0 none) 0 5 =
  some
  [Value.slice o9 k16 k17, Value.slice o10 k18 k19, Value.slice o11 k20 k21,
  Value.int IntKind.i64 n4, Value.slice o12 k22 k23] ∧
  RunE Proofs.Tryd.prog Ev 49
  [Value.agg
  (Array.mk
  [Value.slice o9 k16 k17, Value.slice o10 k18 k19, Value.slice o11 k20 k21,
  Value.int IntKind.i64 n4, Value.slice o12 k22 k23])]
  w4 fun (v3 : Value) (w5 : World) =>
  ∃ (o13 : Option Addr),
  v3 = Value.pointer o13 ∧
  RunE Proofs.Tryd.prog Ev 56
  [Value.pointer o13, Value.pointer o8, Value.slice p1symsa p1symsl p1symsc] w5
  fun (v4 : Value) (w6 : World) =>
  ∃ (n5 : Int),
  ∃ (b2 : Bool),
  v4 = Value.tuple (Array.mk [Value.int IntKind.i64 n5, Value.bool b2]) ∧
  RunE Proofs.Tryd.prog Ev 52 [Value.pointer o8] w6
  fun (v5 : Value) (w7 : World) =>
  ∃ (o14 : Option Addr),
  ∃ (k24 : Nat),
  ∃ (k25 : Nat),
  v5 = Value.slice o14 k24 k25 ∧
  R
  (Value.tuple
  (Array.mk
  [Value.slice o14 k24 k25, Value.bool b2,
  Value.int IntKind.i64 0]))
  w7))
set_option maxRecDepth 100000 in
theorem run_first_Row (p0g_0a : Option Addr) (p0g_0l : Nat) (p0g_0c : Nat) (p0g_1a : Option Addr) (p0g_1l : Nat) (p0g_1c : Nat) (p0g_2a : Option Addr) (p0g_2l : Nat) (p0g_2c : Nat) (p0g_3 : Int) (p0g_4a : Option Addr) (p0g_4l : Nat) (p0g_4c : Nat) (p1symsa : Option Addr) (p1symsl : Nat) (p1symsc : Nat) (w : World) (R : Value → World → Prop) (h : vc_first_Row p0g_0a p0g_0l p0g_0c p0g_1a p0g_1l p0g_1c p0g_2a p0g_2l p0g_2c p0g_3 p0g_4a p0g_4l p0g_4c p1symsa p1symsl p1symsc w R) : Run Tryd.prog 22 [(.agg #[(.slice p0g_0a p0g_0l p0g_0c), (.slice p0g_1a p0g_1l p0g_1c), (.slice p0g_2a p0g_2l p0g_2c), (.int .i64 p0g_3), (.slice p0g_4a p0g_4l p0g_4c)]), (.slice p1symsa p1symsl p1symsc)] w R :=
  run_ev tyOk fnOk mixed Tryd.func22 ann_first_Row ((by kernel_rfl : fnV Tryd.prog Ty Fn Ev ann_first_Row Tryd.f22 [(.agg #[(.slice p0g_0a p0g_0l p0g_0c), (.slice p0g_1a p0g_1l p0g_1c), (.slice p0g_2a p0g_2l p0g_2c), (.int .i64 p0g_3), (.slice p0g_4a p0g_4l p0g_4c)]), (.slice p1symsa p1symsl p1symsc)] w R = vc_first_Row p0g_0a p0g_0l p0g_0c p0g_1a p0g_1l p0g_1c p0g_2a p0g_2l p0g_2c p0g_3 p0g_4a p0g_4l p0g_4c p1symsa p1symsl p1symsc w R) ▸ h)

/- presage/first.either -/
abbrev n_first_either : FuncId := 48
def ann_first_either : Ann := { rngs := [], loops := [], joins := [], blocks := [] }
set_option maxRecDepth 100000 in
def vc_first_either (p0g_0a : Option Addr) (p0g_0l : Nat) (p0g_0c : Nat) (p0g_1a : Option Addr) (p0g_1l : Nat) (p0g_1c : Nat) (p0g_2a : Option Addr) (p0g_2l : Nat) (p0g_2c : Nat) (p0g_3 : Int) (p0g_4a : Option Addr) (p0g_4l : Nat) (p0g_4c : Nat) (w : World) (R : Value → World → Prop) : Prop :=
  new w
  (Obj.cells
  (Array.mk [Value.slice p0g_0a p0g_0l p0g_0c, Value.slice p0g_1a p0g_1l p0g_1c, Value.slice p0g_2a p0g_2l p0g_2c, Value.int IntKind.i64 p0g_3, Value.slice p0g_4a p0g_4l p0g_4c])
  27)
  fun (k1 : Nat) (w1 : World) =>
  ∃ (o1 : Option Addr),
  ∃ (k2 : Nat),
  ∃ (k3 : Nat),
  ∃ (o2 : Option Addr),
  ∃ (k4 : Nat),
  ∃ (k5 : Nat),
  ∃ (o3 : Option Addr),
  ∃ (k6 : Nat),
  ∃ (k7 : Nat),
  ∃ (n1 : Int),
  ∃ (o4 : Option Addr),
  ∃ (k8 : Nat),
  ∃ (k9 : Nat),
  V.rowAt w1 (Addr.mk k1 0 none) 0 5 =
  some [Value.slice o1 k2 k3, Value.slice o2 k4 k5, Value.slice o3 k6 k7, Value.int IntKind.i64 n1, Value.slice o4 k8 k9] ∧
  RunE Proofs.Tryd.prog Ev 61
  [Value.agg (Array.mk [Value.slice o1 k2 k3, Value.slice o2 k4 k5, Value.slice o3 k6 k7, Value.int IntKind.i64 n1, Value.slice o4 k8 k9])] w1
  fun (v1 : Value) (w2 : World) =>
  ∃ (b1 : Bool),
  v1 = Value.bool b1 ∧
  br b1 (R (Value.bool true) w2)
  (∃ (o5 : Option Addr),
  ∃ (k10 : Nat),
  ∃ (k11 : Nat),
  ∃ (o6 : Option Addr),
  ∃ (k12 : Nat),
  ∃ (k13 : Nat),
  ∃ (o7 : Option Addr),
  ∃ (k14 : Nat),
  ∃ (k15 : Nat),
  ∃ (n2 : Int),
  ∃ (o8 : Option Addr),
  ∃ (k16 : Nat),
  ∃ (k17 : Nat),
  V.rowAt w2 (Addr.mk k1 0 none) 0 5 =
  some
  [Value.slice o5 k10 k11, Value.slice o6 k12 k13, Value.slice o7 k14 k15, Value.int IntKind.i64 n2,
  Value.slice o8 k16 k17] ∧
  RunE Proofs.Tryd.prog Ev 72
  [Value.agg
  (Array.mk
  [Value.slice o5 k10 k11, Value.slice o6 k12 k13, Value.slice o7 k14 k15, Value.int IntKind.i64 n2,
  Value.slice o8 k16 k17])]
  w2 fun (v2 : Value) (w3 : World) => ∃ (b2 : Bool), v2 = Value.bool b2 ∧ R (Value.bool b2) w3)
set_option maxRecDepth 100000 in
theorem run_first_either (p0g_0a : Option Addr) (p0g_0l : Nat) (p0g_0c : Nat) (p0g_1a : Option Addr) (p0g_1l : Nat) (p0g_1c : Nat) (p0g_2a : Option Addr) (p0g_2l : Nat) (p0g_2c : Nat) (p0g_3 : Int) (p0g_4a : Option Addr) (p0g_4l : Nat) (p0g_4c : Nat) (w : World) (R : Value → World → Prop) (h : vc_first_either p0g_0a p0g_0l p0g_0c p0g_1a p0g_1l p0g_1c p0g_2a p0g_2l p0g_2c p0g_3 p0g_4a p0g_4l p0g_4c w R) : Run Tryd.prog 48 [(.agg #[(.slice p0g_0a p0g_0l p0g_0c), (.slice p0g_1a p0g_1l p0g_1c), (.slice p0g_2a p0g_2l p0g_2c), (.int .i64 p0g_3), (.slice p0g_4a p0g_4l p0g_4c)])] w R :=
  run_ev tyOk fnOk mixed Tryd.func48 ann_first_either ((by kernel_rfl : fnV Tryd.prog Ty Fn Ev ann_first_either Tryd.f48 [(.agg #[(.slice p0g_0a p0g_0l p0g_0c), (.slice p0g_1a p0g_1l p0g_1c), (.slice p0g_2a p0g_2l p0g_2c), (.int .i64 p0g_3), (.slice p0g_4a p0g_4l p0g_4c)])] w R = vc_first_either p0g_0a p0g_0l p0g_0c p0g_1a p0g_1l p0g_1c p0g_2a p0g_2l p0g_2c p0g_3 p0g_4a p0g_4l p0g_4c w R) ▸ h)

/- presage/first.of -/
abbrev n_first_of : FuncId := 49
def ann_first_of : Ann := { rngs := [], loops := [(4, [(24, (.one (.int .i64)))]), (9, [(6, (.one (.int .i64)))]), (12, [(6, (.one (.int .i64))), (48, (.one (.int .i64)))])], joins := [], blocks := [] }
set_option maxRecDepth 100000 in
def vc_first_of (p0g_0a : Option Addr) (p0g_0l : Nat) (p0g_0c : Nat) (p0g_1a : Option Addr) (p0g_1l : Nat) (p0g_1c : Nat) (p0g_2a : Option Addr) (p0g_2l : Nat) (p0g_2c : Nat) (p0g_3 : Int) (p0g_4a : Option Addr) (p0g_4l : Nat) (p0g_4c : Nat) (w : World) (R : Value → World → Prop) : Prop :=
  new w
  (Obj.cells
  (Array.mk [Value.slice p0g_0a p0g_0l p0g_0c, Value.slice p0g_1a p0g_1l p0g_1c, Value.slice p0g_2a p0g_2l p0g_2c, Value.int IntKind.i64 p0g_3, Value.slice p0g_4a p0g_4l p0g_4c])
  27)
  fun (k1 : Nat) (w1 : World) =>
  ∃ (o1 : Option Addr),
  ∃ (k2 : Nat),
  ∃ (k3 : Nat),
  World.cell? w1 (Addr.mk k1 0 none) = some (Value.slice o1 k2 k3) ∧
  ∃ (o2 : Option Addr),
  ∃ (k4 : Nat),
  ∃ (k5 : Nat),
  World.cell? w1 (Addr.add (Addr.mk k1 0 none) 1) = some (Value.slice o2 k4 k5) ∧
  inI ((↑k2 : Int) + (↑k4 : Int)) ∧
  ∀ (w2 : World),
  drawn w1 w2 →
  ∃ (I1 : World → Prop),
  I1 w2 ∧
  ∃ (o3 : Option Addr),
  ∃ (k6 : Nat),
  ∃ (k7 : Nat),
  ∃ (o4 : Option Addr),
  ∃ (k8 : Nat),
  ∃ (k9 : Nat),
  ∃ (o5 : Option Addr),
  ∃ (k10 : Nat),
  ∃ (k11 : Nat),
  ∃ (n1 : Int),
  ∃ (o6 : Option Addr),
  ∃ (k12 : Nat),
  ∃ (k13 : Nat),
  (∀ (w3 : World),
  I1 w3 →
  V.rowAt w3 (Addr.mk k1 0 none) 0 5 =
  some
  [Value.slice o3 k6 k7, Value.slice o4 k8 k9, Value.slice o5 k10 k11, Value.int IntKind.i64 n1,
  Value.slice o6 k12 k13]) ∧
  mkOk ((↑k2 : Int) + (↑k4 : Int)) ((↑k2 : Int) + (↑k4 : Int)) 1 ∧
  new w2 (Obj.cells (Array.mk (reps (Int.toNat ((↑k2 : Int) + (↑k4 : Int))) [Value.bool false])) 4)
  fun (k14 : Nat) (w4 : World) =>
  I1 w4 ∧
  new w4
  (Obj.cells
  (Array.mk
  [Value.slice o3 k6 k7, Value.slice o4 k8 k9, Value.slice o5 k10 k11, Value.int IntKind.i64 n1,
  Value.slice o6 k12 k13,
  Value.slice (some (Addr.mk k14 0 none)) (Int.toNat ((↑k2 : Int) + (↑k4 : Int)))
  (Int.toNat ((↑k2 : Int) + (↑k4 : Int))),
  Value.slice none 0 0])
  64)
  fun (k15 : Nat) (w5 : World) =>
  I1 w5 ∧
  ∃ (x1 : arrS (shs [(24, S1.one (Cs.int IntKind.i64))]) (World → Prop)),
  ∃ (x2 : arrS (shs [(24, S1.one (Cs.int IntKind.i64))]) (World → Nat)),
  x1 0 w5 ∧
  ∀ (I2 : Nat → Value) (n2 : Int) (w6 : World),
  x1 n2 w6 →
  br (decide (n2 < (↑k2 : Int) + (↑k4 : Int)))
  (∀ (w7 : World),
  drawn w6 w7 →
  ∃ (I3 : World → Prop),
  I3 w7 ∧
  ∃ (o7 : Option Addr),
  ∃ (k16 : Nat),
  ∃ (k17 : Nat),
  (∀ (w8 : World),
  I3 w8 →
  World.cell? w8 (Addr.add (Addr.mk k15 0 none) 6) =
  some (Value.slice o7 k16 k17)) ∧
  ∃ (o8 : Option Addr),
  ∃ (k18 : Nat),
  ∃ (k19 : Nat),
  (∀ (w9 : World),
  I3 w9 →
  World.cell? w9 (Addr.mk k1 0 none) = some (Value.slice o8 k18 k19)) ∧
  new w7 (Obj.cells (Array.mk [Value.int IntKind.i64 n2]) 3)
  fun (k20 : Nat) (w10 : World) =>
  I3 w10 ∧
  RunE Proofs.Tryd.prog Ev 55
  [Value.int IntKind.i64 (↑k18 : Int),
  Value.slice (some (Addr.mk k20 0 none)) 1 1]
  w10 fun (v1 : Value) (w11 : World) =>
  ∃ (o9 : Option Addr),
  v1 = Value.pointer o9 ∧
  I3 w11 ∧
  new w11 (Obj.cells (Array.mk [Value.pointer o9]) 67)
  fun (k21 : Nat) (w12 : World) =>
  I3 w12 ∧
  RunS Proofs.Tryd.prog
  (Builtin.append_ (Array.mk [62, 62]) 62
  (Array.mk
  [Value.slice o7 k16 k17,
  Value.slice (some (Addr.mk k21 0 none)) 1 1]))
  w12 fun (v2 : Value) (w13 : World) =>
  ∃ (o10 : Option Addr),
  ∃ (k22 : Nat),
  ∃ (k23 : Nat),
  v2 = Value.slice o10 k22 k23 ∧
  I3 w13 ∧
  st1 w13 (Addr.add (Addr.mk k15 0 none) 6)
  (Value.slice o10 k22 k23) fun (w14 : World) =>
  inI (n2 + 1) ∧
  x1 (n2 + 1) w14 ∧ x2 (n2 + 1) w14 < x2 n2 w6)
  (∃ (x3 : arrS (shs [(6, S1.one (Cs.int IntKind.i64))]) (World → Prop)),
  ∃ (x4 : arrS (shs [(6, S1.one (Cs.int IntKind.i64))]) (World → Nat)),
  x3 1 w6 ∧
  ∀ (I4 : Nat → Value) (n3 : Int) (w15 : World),
  x3 n3 w15 →
  br (decide (0 < n3))
  (∃ (o11 : Option Addr),
  ∃ (k24 : Nat),
  ∃ (k25 : Nat),
  World.cell? w15 (Addr.add (Addr.mk k1 0 none) 4) = some (Value.slice o11 k24 k25) ∧
  ∃ (x5 :
  arrS (shs [(6, S1.one (Cs.int IntKind.i64)), (48, S1.one (Cs.int IntKind.i64))])
  (World → Prop)),
  ∃ (x6 :
  arrS
  (shs [(6, S1.one (Cs.int IntKind.i64)), (48, S1.one (Cs.int IntKind.i64))])
  (World → Nat)),
  x5 0 0 w15 ∧
  ∀ (I5 : Nat → Value) (n4 n5 : Int) (w16 : World),
  x5 n4 n5 w16 →
  br (decide (n5 < (↑k24 : Int)))
  (idx o11 k24 n5 3 fun (a1 : Addr) =>
  ∃ (n6 : Int),
  ∃ (o12 : Option Addr),
  ∃ (k26 : Nat),
  ∃ (k27 : Nat),
  ∃ (n7 : Int),
  V.rowAt w16 a1 0 3 =
  some
  [Value.int IntKind.i64 n6, Value.slice o12 k26 k27,
  Value.int IntKind.i64 n7] ∧
  new w16
  (Obj.cells
  (Array.mk
  [Value.int IntKind.i64 0, Value.slice none 0 0,
  Value.int IntKind.i64 0])
  51)
  fun (k28 : Nat) (w17 : World) =>
  stR w17 (Addr.mk k28 0 none)
  [Value.int IntKind.i64 n6, Value.slice o12 k26 k27,
  Value.int IntKind.i64 n7]
  fun (w18 : World) =>
  ∀ (w19 : World),
  drawn w18 w19 →
  ∃ (I6 : World → Prop),
  I6 w19 ∧
  ∃ (o13 : Option Addr),
  ∃ (k29 : Nat),
  ∃ (k30 : Nat),
  (∀ (w20 : World),
  I6 w20 →
  World.cell? w20
  (Addr.add
  (Addr.mk k15 0 none) 6) =
  some
  (Value.slice o13 k29 k30)) ∧
  ∃ (n8 : Int),
  (∀ (w21 : World),
  I6 w21 →
  World.cell? w21
  (Addr.mk k28 0 none) =
  some
  (Value.int IntKind.i64
  n8)) ∧
  idx o13 k29 n8 1
  fun (a2 : Addr) =>
  ∃ (o14 : Option Addr),
  (∀ (w22 : World),
  I6 w22 →
  World.cell? w22 a2 =
  some
  (Value.pointer
  o14)) ∧
  ∃ (o15 : Option Addr),
  ∃ (k31 : Nat),
  ∃ (k32 : Nat),
  (∀ (w23 : World),
  I6 w23 →
  World.cell?
  w23
  (Addr.add
  (Addr.mk
  k28 0
  none)
  1) =
  some
  (Value.slice
  o15 k31
  k32)) ∧
  RunE
  Proofs.Tryd.prog
  Ev 56
  [Value.pointer
  (some
  (Addr.mk
  k15 0
  none)),
  Value.pointer
  o14,
  Value.slice
  o15 k31 k32]
  w19
  fun (v3 : Value)
  (w24 :
  World) =>
  ∃ (n9 : Int),
  ∃ (b1 : Bool),
  v3 =
  Value.tuple
  (Array.mk
  [Value.int
  IntKind.i64
  n9,
  Value.bool
  b1]) ∧
  I6 w24 ∧
  inI
  (n4 +
  n9) ∧
  ∀
  (w25 :
  World),
  drawn
  w24
  w25 →
  ∃
  (I7
  :
  World →
  Prop),
  I7
  w25 ∧
  br
  b1
  (∃
  (o16
  :
  Option
  Addr),
  ∃
  (k33
  :
  Nat),
  ∃
  (k34
  :
  Nat),
  (∀
  (w26 :
  World),
  I7
  w26 →
  World.cell?
  w26
  (Addr.add
  (Addr.mk
  k15
  0
  none)
  5) =
  some
  (Value.slice
  o16
  k33
  k34)) ∧
  ∃
  (n10
  :
  Int),
  (∀
  (w27 :
  World),
  I7
  w27 →
  World.cell?
  w27
  (Addr.mk
  k28
  0
  none) =
  some
  (Value.int
  IntKind.i64
  n10)) ∧
  idx
  o16
  k33
  n10
  1
  fun
  (a3 :
  Addr) =>
  ∃
  (b2
  :
  Bool),
  (∀
  (w28 :
  World),
  I7
  w28 →
  World.cell?
  w28
  a3 =
  some
  (Value.bool
  b2)) ∧
  br
  (!b2)
  (∀
  (w29 :
  World),
  drawn
  w25
  w29 →
  ∃
  (I8
  :
  World →
  Prop),
  I8
  w29 ∧
  ∃
  (o17
  :
  Option
  Addr),
  ∃
  (k35
  :
  Nat),
  ∃
  (k36
  :
  Nat),
  (∀
  (w30 :
  World),
  I8
  w30 →
  World.cell?
  w30
  (Addr.add
  (Addr.mk
  k15
  0
  none)
  5) =
  some
  (Value.slice
  o17
  k35
  k36)) ∧
  ∃
  (n11
  :
  Int),
  (∀
  (w31 :
  World),
  I8
  w31 →
  World.cell?
  w31
  (Addr.mk
  k28
  0
  none) =
  some
  (Value.int
  IntKind.i64
  n11)) ∧
  idx
  o17
  k35
  n11
  1
  fun
  (a4 :
  Addr) =>
  st1
  w29
  a4
  (Value.bool
  true)
  fun
  (w32 :
  World) =>
  inI
  (n4 +
  n9 +
  1) ∧
  inI
  (n5 +
  1) ∧
  x5
  (n4 +
  n9 +
  1)
  (n5 +
  1)
  w32 ∧
  x6
  (n4 +
  n9 +
  1)
  (n5 +
  1)
  w32 <
  x6
  n4
  n5
  w16)
  (inI
  (n5 +
  1) ∧
  x5
  (n4 +
  n9)
  (n5 +
  1)
  w25 ∧
  x6
  (n4 +
  n9)
  (n5 +
  1)
  w25 <
  x6
  n4
  n5
  w16))
  (inI
  (n5 +
  1) ∧
  x5
  (n4 +
  n9)
  (n5 +
  1)
  w25 ∧
  x6
  (n4 +
  n9)
  (n5 +
  1)
  w25 <
  x6
  n4
  n5
  w16))
  (x3 n4 w16 ∧ x4 n4 w16 < x4 n3 w15))
  (R (Value.pointer (some (Addr.mk k15 0 none))) w15))
set_option maxRecDepth 100000 in
theorem run_first_of (p0g_0a : Option Addr) (p0g_0l : Nat) (p0g_0c : Nat) (p0g_1a : Option Addr) (p0g_1l : Nat) (p0g_1c : Nat) (p0g_2a : Option Addr) (p0g_2l : Nat) (p0g_2c : Nat) (p0g_3 : Int) (p0g_4a : Option Addr) (p0g_4l : Nat) (p0g_4c : Nat) (w : World) (R : Value → World → Prop) (h : vc_first_of p0g_0a p0g_0l p0g_0c p0g_1a p0g_1l p0g_1c p0g_2a p0g_2l p0g_2c p0g_3 p0g_4a p0g_4l p0g_4c w R) : Run Tryd.prog 49 [(.agg #[(.slice p0g_0a p0g_0l p0g_0c), (.slice p0g_1a p0g_1l p0g_1c), (.slice p0g_2a p0g_2l p0g_2c), (.int .i64 p0g_3), (.slice p0g_4a p0g_4l p0g_4c)])] w R :=
  run_ev tyOk fnOk mixed Tryd.func49 ann_first_of ((by kernel_rfl : fnV Tryd.prog Ty Fn Ev ann_first_of Tryd.f49 [(.agg #[(.slice p0g_0a p0g_0l p0g_0c), (.slice p0g_1a p0g_1l p0g_1c), (.slice p0g_2a p0g_2l p0g_2c), (.int .i64 p0g_3), (.slice p0g_4a p0g_4l p0g_4c)])] w R = vc_first_of p0g_0a p0g_0l p0g_0c p0g_1a p0g_1l p0g_1c p0g_2a p0g_2l p0g_2c p0g_3 p0g_4a p0g_4l p0g_4c w R) ▸ h)

/- (*presage/first.sets).row -/
abbrev n_first_sets_row : FuncId := 56
def ann_first_sets_row : Ann := { rngs := [], loops := [(3, [(8, (.one (.int .i64))), (13, (.one (.int .i64)))])], joins := [], blocks := [] }
set_option maxRecDepth 100000 in
def vc_first_sets_row (p0s : Option Addr) (p1to : Option Addr) (p2rowa : Option Addr) (p2rowl : Nat) (p2rowc : Nat) (w : World) (R : Value → World → Prop) : Prop :=
  ∃ (x1 : arrS (shs [(8, S1.one (Cs.int IntKind.i64)), (13, S1.one (Cs.int IntKind.i64))]) (World → Prop)),
  ∃ (x2 : arrS (shs [(8, S1.one (Cs.int IntKind.i64)), (13, S1.one (Cs.int IntKind.i64))]) (World → Nat)),
  x1 0 0 w ∧
  ∀ (I1 : Nat → Value) (n1 n2 : Int) (w1 : World),
  x1 n1 n2 w1 →
  br (decide (n2 < (↑p2rowl : Int)))
  (idx p2rowa p2rowl n2 1 fun (a1 : Addr) =>
  ∃ (n3 : Int),
  World.cell? w1 a1 = some (Value.int IntKind.i64 n3) ∧
  nn p0s fun (a2 : Addr) =>
  ∃ (o1 : Option Addr),
  ∃ (k1 : Nat),
  ∃ (k2 : Nat),
  World.cell? w1 (Addr.add a2 6) = some (Value.slice o1 k1 k2) ∧
  idx o1 k1 n3 1 fun (a3 : Addr) =>
  ∃ (o2 : Option Addr),
  World.cell? w1 a3 = some (Value.pointer o2) ∧
  new w1 (Obj.cells (Array.mk [Value.pointer o2]) 67) fun (k3 : Nat) (w2 : World) =>
  RunE Proofs.Tryd.prog Ev 78 [Value.pointer p1to, Value.slice (some (Addr.mk k3 0 none)) 1 1] w2 fun (v1 : Value) (w3 : World) =>
  ∃ (n4 : Int),
  v1 = Value.int IntKind.i64 n4 ∧
  inI (n1 + n4) ∧
  nn p0s fun (a4 : Addr) =>
  ∃ (o3 : Option Addr),
  ∃ (k4 : Nat),
  ∃ (k5 : Nat),
  World.cell? w3 (Addr.add a4 5) = some (Value.slice o3 k4 k5) ∧
  idx o3 k4 n3 1 fun (a5 : Addr) =>
  ∃ (b1 : Bool),
  World.cell? w3 a5 = some (Value.bool b1) ∧
  br (!b1) (R (Value.tuple (Array.mk [Value.int IntKind.i64 (n1 + n4), Value.bool false])) w3)
  (inI (n2 + 1) ∧ x1 (n1 + n4) (n2 + 1) w3 ∧ x2 (n1 + n4) (n2 + 1) w3 < x2 n1 n2 w1))
  (R (Value.tuple (Array.mk [Value.int IntKind.i64 n1, Value.bool true])) w1)
set_option maxRecDepth 100000 in
theorem run_first_sets_row (p0s : Option Addr) (p1to : Option Addr) (p2rowa : Option Addr) (p2rowl : Nat) (p2rowc : Nat) (w : World) (R : Value → World → Prop) (h : vc_first_sets_row p0s p1to p2rowa p2rowl p2rowc w R) : Run Tryd.prog 56 [(.pointer p0s), (.pointer p1to), (.slice p2rowa p2rowl p2rowc)] w R :=
  run_ev tyOk fnOk mixed Tryd.func56 ann_first_sets_row ((by kernel_rfl : fnV Tryd.prog Ty Fn Ev ann_first_sets_row Tryd.f56 [(.pointer p0s), (.pointer p1to), (.slice p2rowa p2rowl p2rowc)] w R = vc_first_sets_row p0s p1to p2rowa p2rowl p2rowc w R) ▸ h)

/- presage/presageref07.Nullable -/
abbrev n_presageref07_Nullable : FuncId := 16
def ann_presageref07_Nullable : Ann := { rngs := [], loops := [], joins := [], blocks := [] }
set_option maxRecDepth 100000 in
def vc_presageref07_Nullable (p0g_0a : Option Addr) (p0g_0l : Nat) (p0g_0c : Nat) (p0g_1a : Option Addr) (p0g_1l : Nat) (p0g_1c : Nat) (p0g_2a : Option Addr) (p0g_2l : Nat) (p0g_2c : Nat) (p0g_3 : Int) (p0g_4a : Option Addr) (p0g_4l : Nat) (p0g_4c : Nat) (w : World) (R : Value → World → Prop) : Prop :=
  new w
  (Obj.cells
  (Array.mk [Value.slice p0g_0a p0g_0l p0g_0c, Value.slice p0g_1a p0g_1l p0g_1c, Value.slice p0g_2a p0g_2l p0g_2c, Value.int IntKind.i64 p0g_3, Value.slice p0g_4a p0g_4l p0g_4c])
  27)
  fun (k1 : Nat) (w1 : World) =>
  ∃ (o1 : Option Addr),
  ∃ (k2 : Nat),
  ∃ (k3 : Nat),
  ∃ (o2 : Option Addr),
  ∃ (k4 : Nat),
  ∃ (k5 : Nat),
  ∃ (o3 : Option Addr),
  ∃ (k6 : Nat),
  ∃ (k7 : Nat),
  ∃ (n1 : Int),
  ∃ (o4 : Option Addr),
  ∃ (k8 : Nat),
  ∃ (k9 : Nat),
  V.rowAt w1 (Addr.mk k1 0 none) 0 5 =
  some [Value.slice o1 k2 k3, Value.slice o2 k4 k5, Value.slice o3 k6 k7, Value.int IntKind.i64 n1, Value.slice o4 k8 k9] ∧
  RunE Proofs.Tryd.prog Ev 50
  [Value.agg (Array.mk [Value.slice o1 k2 k3, Value.slice o2 k4 k5, Value.slice o3 k6 k7, Value.int IntKind.i64 n1, Value.slice o4 k8 k9])] w1
  fun (v1 : Value) (w2 : World) =>
  ∃ (b1 : Bool),
  v1 = Value.bool b1 ∧
  br (!b1) (R (Value.tuple (Array.mk [Value.slice none 0 0, Value.int IntKind.i64 1])) w2)
  (∃ (o5 : Option Addr),
  ∃ (k10 : Nat),
  ∃ (k11 : Nat),
  ∃ (o6 : Option Addr),
  ∃ (k12 : Nat),
  ∃ (k13 : Nat),
  ∃ (o7 : Option Addr),
  ∃ (k14 : Nat),
  ∃ (k15 : Nat),
  ∃ (n2 : Int),
  ∃ (o8 : Option Addr),
  ∃ (k16 : Nat),
  ∃ (k17 : Nat),
  V.rowAt w2 (Addr.mk k1 0 none) 0 5 =
  some
  [Value.slice o5 k10 k11, Value.slice o6 k12 k13, Value.slice o7 k14 k15, Value.int IntKind.i64 n2,
  Value.slice o8 k16 k17] ∧
  RunE Proofs.Tryd.prog Ev 51
  [Value.agg
  (Array.mk
  [Value.slice o5 k10 k11, Value.slice o6 k12 k13, Value.slice o7 k14 k15, Value.int IntKind.i64 n2,
  Value.slice o8 k16 k17])]
  w2 fun (v2 : Value) (w3 : World) =>
  ∃ (o9 : Option Addr),
  ∃ (k18 : Nat),
  ∃ (k19 : Nat),
  v2 = Value.slice o9 k18 k19 ∧
  R (Value.tuple (Array.mk [Value.slice o9 k18 k19, Value.int IntKind.i64 0])) w3)
set_option maxRecDepth 100000 in
theorem run_presageref07_Nullable (p0g_0a : Option Addr) (p0g_0l : Nat) (p0g_0c : Nat) (p0g_1a : Option Addr) (p0g_1l : Nat) (p0g_1c : Nat) (p0g_2a : Option Addr) (p0g_2l : Nat) (p0g_2c : Nat) (p0g_3 : Int) (p0g_4a : Option Addr) (p0g_4l : Nat) (p0g_4c : Nat) (w : World) (R : Value → World → Prop) (h : vc_presageref07_Nullable p0g_0a p0g_0l p0g_0c p0g_1a p0g_1l p0g_1c p0g_2a p0g_2l p0g_2c p0g_3 p0g_4a p0g_4l p0g_4c w R) : Run Tryd.prog 16 [(.agg #[(.slice p0g_0a p0g_0l p0g_0c), (.slice p0g_1a p0g_1l p0g_1c), (.slice p0g_2a p0g_2l p0g_2c), (.int .i64 p0g_3), (.slice p0g_4a p0g_4l p0g_4c)])] w R :=
  run_ev tyOk fnOk mixed Tryd.func16 ann_presageref07_Nullable ((by kernel_rfl : fnV Tryd.prog Ty Fn Ev ann_presageref07_Nullable Tryd.f16 [(.agg #[(.slice p0g_0a p0g_0l p0g_0c), (.slice p0g_1a p0g_1l p0g_1c), (.slice p0g_2a p0g_2l p0g_2c), (.int .i64 p0g_3), (.slice p0g_4a p0g_4l p0g_4c)])] w R = vc_presageref07_Nullable p0g_0a p0g_0l p0g_0c p0g_1a p0g_1l p0g_1c p0g_2a p0g_2l p0g_2c p0g_3 p0g_4a p0g_4l p0g_4c w R) ▸ h)

/- presage/presageref07.Sets -/
abbrev n_presageref07_Sets : FuncId := 19
def ann_presageref07_Sets : Ann := { rngs := [], loops := [(7, [(6, (.one .slice)), (7, (.one (.int .i64)))])], joins := [], blocks := [] }
set_option maxRecDepth 100000 in
def vc_presageref07_Sets (p0g_0a : Option Addr) (p0g_0l : Nat) (p0g_0c : Nat) (p0g_1a : Option Addr) (p0g_1l : Nat) (p0g_1c : Nat) (p0g_2a : Option Addr) (p0g_2l : Nat) (p0g_2c : Nat) (p0g_3 : Int) (p0g_4a : Option Addr) (p0g_4l : Nat) (p0g_4c : Nat) (w : World) (R : Value → World → Prop) : Prop :=
  new w
  (Obj.cells
  (Array.mk [Value.slice p0g_0a p0g_0l p0g_0c, Value.slice p0g_1a p0g_1l p0g_1c, Value.slice p0g_2a p0g_2l p0g_2c, Value.int IntKind.i64 p0g_3, Value.slice p0g_4a p0g_4l p0g_4c])
  27)
  fun (k1 : Nat) (w1 : World) =>
  ∃ (o1 : Option Addr),
  ∃ (k2 : Nat),
  ∃ (k3 : Nat),
  ∃ (o2 : Option Addr),
  ∃ (k4 : Nat),
  ∃ (k5 : Nat),
  ∃ (o3 : Option Addr),
  ∃ (k6 : Nat),
  ∃ (k7 : Nat),
  ∃ (n1 : Int),
  ∃ (o4 : Option Addr),
  ∃ (k8 : Nat),
  ∃ (k9 : Nat),
  V.rowAt w1 (Addr.mk k1 0 none) 0 5 =
  some [Value.slice o1 k2 k3, Value.slice o2 k4 k5, Value.slice o3 k6 k7, Value.int IntKind.i64 n1, Value.slice o4 k8 k9] ∧
  RunE Proofs.Tryd.prog Ev 50
  [Value.agg (Array.mk [Value.slice o1 k2 k3, Value.slice o2 k4 k5, Value.slice o3 k6 k7, Value.int IntKind.i64 n1, Value.slice o4 k8 k9])] w1
  fun (v1 : Value) (w2 : World) =>
  ∃ (b1 : Bool),
  v1 = Value.bool b1 ∧
  br (!b1) (R (Value.tuple (Array.mk [Value.slice none 0 0, Value.int IntKind.i64 1])) w2)
  (∃ (o5 : Option Addr),
  ∃ (k10 : Nat),
  ∃ (k11 : Nat),
  ∃ (o6 : Option Addr),
  ∃ (k12 : Nat),
  ∃ (k13 : Nat),
  ∃ (o7 : Option Addr),
  ∃ (k14 : Nat),
  ∃ (k15 : Nat),
  ∃ (n2 : Int),
  ∃ (o8 : Option Addr),
  ∃ (k16 : Nat),
  ∃ (k17 : Nat),
  V.rowAt w2 (Addr.mk k1 0 none) 0 5 =
  some
  [Value.slice o5 k10 k11, Value.slice o6 k12 k13, Value.slice o7 k14 k15, Value.int IntKind.i64 n2,
  Value.slice o8 k16 k17] ∧
  RunE Proofs.Tryd.prog Ev 53
  [Value.agg
  (Array.mk
  [Value.slice o5 k10 k11, Value.slice o6 k12 k13, Value.slice o7 k14 k15, Value.int IntKind.i64 n2,
  Value.slice o8 k16 k17])]
  w2 fun (v2 : Value) (w3 : World) =>
  ∃ (o9 : Option Addr),
  v2 = Value.pointer o9 ∧
  ∃ (o10 : Option Addr),
  ∃ (k18 : Nat),
  ∃ (k19 : Nat),
  World.cell? w3 (Addr.mk k1 0 none) = some (Value.slice o10 k18 k19) ∧
  ∃ (x1 : arrS (shs [(6, S1.one Cs.slice), (7, S1.one (Cs.int IntKind.i64))]) (World → Prop)),
  ∃ (x2 : arrS (shs [(6, S1.one Cs.slice), (7, S1.one (Cs.int IntKind.i64))]) (World → Nat)),
  x1 none 0 0 (↑k18 : Int) w3 ∧
  ∀ (I1 : Nat → Value) (o11 : Option Addr) (k20 k21 : Nat) (n3 : Int) (w4 : World),
  x1 o11 k20 k21 n3 w4 →
  nn o9 fun (a1 : Addr) =>
  ∃ (o12 : Option Addr),
  ∃ (k22 : Nat),
  ∃ (k23 : Nat),
  World.cell? w4 (Addr.add a1 6) = some (Value.slice o12 k22 k23) ∧
  br (decide (n3 < (↑k22 : Int)))
  (nn o9 fun (a2 : Addr) =>
  ∃ (o13 : Option Addr),
  ∃ (k24 : Nat),
  ∃ (k25 : Nat),
  World.cell? w4 (Addr.add a2 6) = some (Value.slice o13 k24 k25) ∧
  idx o13 k24 n3 1 fun (a3 : Addr) =>
  ∃ (o14 : Option Addr),
  ∃ (k26 : Nat),
  ∃ (k27 : Nat),
  World.cell? w4 a3 = some (Value.slice o14 k26 k27) ∧
  RunE Proofs.Tryd.prog Ev 54 [Value.slice o14 k26 k27] w4
  fun (v3 : Value) (w5 : World) =>
  ∃ (o15 : Option Addr),
  ∃ (k28 : Nat),
  ∃ (k29 : Nat),
  v3 = Value.slice o15 k28 k29 ∧
  new w5
  (Obj.cells
  (Array.mk [Value.slice o15 k28 k29]) 24)
  fun (k30 : Nat) (w6 : World) =>
  RunS Proofs.Tryd.prog
  (Builtin.append_ (Array.mk [35, 35]) 35
  (Array.mk
  [Value.slice o11 k20 k21,
  Value.slice
  (some (Addr.mk k30 0 none)) 1 1]))
  w6 fun (v4 : Value) (w7 : World) =>
  ∃ (o16 : Option Addr),
  ∃ (k31 : Nat),
  ∃ (k32 : Nat),
  v4 = Value.slice o16 k31 k32 ∧
  inI (n3 + 1) ∧
  x1 o16 k31 k32 (n3 + 1) w7 ∧
  x2 o16 k31 k32 (n3 + 1) w7 <
  x2 o11 k20 k21 n3 w4)
  (R (Value.tuple (Array.mk [Value.slice o11 k20 k21, Value.int IntKind.i64 0]))
  w4))
set_option maxRecDepth 100000 in
theorem run_presageref07_Sets (p0g_0a : Option Addr) (p0g_0l : Nat) (p0g_0c : Nat) (p0g_1a : Option Addr) (p0g_1l : Nat) (p0g_1c : Nat) (p0g_2a : Option Addr) (p0g_2l : Nat) (p0g_2c : Nat) (p0g_3 : Int) (p0g_4a : Option Addr) (p0g_4l : Nat) (p0g_4c : Nat) (w : World) (R : Value → World → Prop) (h : vc_presageref07_Sets p0g_0a p0g_0l p0g_0c p0g_1a p0g_1l p0g_1c p0g_2a p0g_2l p0g_2c p0g_3 p0g_4a p0g_4l p0g_4c w R) : Run Tryd.prog 19 [(.agg #[(.slice p0g_0a p0g_0l p0g_0c), (.slice p0g_1a p0g_1l p0g_1c), (.slice p0g_2a p0g_2l p0g_2c), (.int .i64 p0g_3), (.slice p0g_4a p0g_4l p0g_4c)])] w R :=
  run_ev tyOk fnOk mixed Tryd.func19 ann_presageref07_Sets ((by kernel_rfl : fnV Tryd.prog Ty Fn Ev ann_presageref07_Sets Tryd.f19 [(.agg #[(.slice p0g_0a p0g_0l p0g_0c), (.slice p0g_1a p0g_1l p0g_1c), (.slice p0g_2a p0g_2l p0g_2c), (.int .i64 p0g_3), (.slice p0g_4a p0g_4l p0g_4c)])] w R = vc_presageref07_Sets p0g_0a p0g_0l p0g_0c p0g_1a p0g_1l p0g_1c p0g_2a p0g_2l p0g_2c p0g_3 p0g_4a p0g_4l p0g_4c w R) ▸ h)

/- presage/presageref07.Row -/
abbrev n_presageref07_Row : FuncId := 23
def ann_presageref07_Row : Ann := { rngs := [], loops := [(3, [(7, (.one .bool)), (8, (.one (.int .i64)))])], joins := [], blocks := [] }
set_option maxRecDepth 100000 in
def vc_presageref07_Row (p0g_0a : Option Addr) (p0g_0l : Nat) (p0g_0c : Nat) (p0g_1a : Option Addr) (p0g_1l : Nat) (p0g_1c : Nat) (p0g_2a : Option Addr) (p0g_2l : Nat) (p0g_2c : Nat) (p0g_3 : Int) (p0g_4a : Option Addr) (p0g_4l : Nat) (p0g_4c : Nat) (p1symsa : Option Addr) (p1symsl : Nat) (p1symsc : Nat) (w : World) (R : Value → World → Prop) : Prop :=
  new w
  (Obj.cells
  (Array.mk [Value.slice p0g_0a p0g_0l p0g_0c, Value.slice p0g_1a p0g_1l p0g_1c, Value.slice p0g_2a p0g_2l p0g_2c, Value.int IntKind.i64 p0g_3, Value.slice p0g_4a p0g_4l p0g_4c])
  27)
  fun (k1 : Nat) (w1 : World) =>
  ∃ (o1 : Option Addr),
  ∃ (k2 : Nat),
  ∃ (k3 : Nat),
  ∃ (o2 : Option Addr),
  ∃ (k4 : Nat),
  ∃ (k5 : Nat),
  ∃ (o3 : Option Addr),
  ∃ (k6 : Nat),
  ∃ (k7 : Nat),
  ∃ (n1 : Int),
  ∃ (o4 : Option Addr),
  ∃ (k8 : Nat),
  ∃ (k9 : Nat),
  V.rowAt w1 (Addr.mk k1 0 none) 0 5 =
  some [Value.slice o1 k2 k3, Value.slice o2 k4 k5, Value.slice o3 k6 k7, Value.int IntKind.i64 n1, Value.slice o4 k8 k9] ∧
  RunE Proofs.Tryd.prog Ev 50
  [Value.agg (Array.mk [Value.slice o1 k2 k3, Value.slice o2 k4 k5, Value.slice o3 k6 k7, Value.int IntKind.i64 n1, Value.slice o4 k8 k9])] w1
  fun (v1 : Value) (w2 : World) =>
  ∃ (b1 : Bool),
  v1 = Value.bool b1 ∧
  ∃ (x1 : arrS (shs [(7, S1.one Cs.bool), (8, S1.one (Cs.int IntKind.i64))]) (World → Prop)),
  ∃ (x2 : arrS (shs [(7, S1.one Cs.bool), (8, S1.one (Cs.int IntKind.i64))]) (World → Nat)),
  x1 b1 0 w2 ∧
  ∀ (I1 : Nat → Value) (b2 : Bool) (n2 : Int) (w3 : World),
  x1 b2 n2 w3 →
  br (decide (n2 < (↑p1symsl : Int)))
  (br b2
  (∀ (w4 : World),
  drawn w3 w4 →
  ∃ (I2 : World → Prop),
  I2 w4 ∧
  idx p1symsa p1symsl n2 1 fun (a1 : Addr) =>
  ∃ (n3 : Int),
  (∀ (w5 : World), I2 w5 → World.cell? w5 a1 = some (Value.int IntKind.i64 n3)) ∧
  br (decide (0 ≤ n3))
  (idx p1symsa p1symsl n2 1 fun (a2 : Addr) =>
  ∃ (n4 : Int),
  (∀ (w6 : World), I2 w6 → World.cell? w6 a2 = some (Value.int IntKind.i64 n4)) ∧
  ∃ (o5 : Option Addr),
  ∃ (k10 : Nat),
  ∃ (k11 : Nat),
  ∃ (o6 : Option Addr),
  ∃ (k12 : Nat),
  ∃ (k13 : Nat),
  ∃ (o7 : Option Addr),
  ∃ (k14 : Nat),
  ∃ (k15 : Nat),
  ∃ (n5 : Int),
  ∃ (o8 : Option Addr),
  ∃ (k16 : Nat),
  ∃ (k17 : Nat),
  (∀ (w7 : World),
  I2 w7 →
  V.rowAt w7 (Addr.mk k1 0 none) 0 5 =
  some
  [Value.slice o5 k10 k11, Value.slice o6 k12 k13, Value.slice o7 k14 k15,
  Value.int IntKind.i64 n5, Value.slice o8 k16 k17]) ∧
  RunE Proofs.Tryd.prog Ev 30
  [Value.agg
  (Array.mk
  [Value.slice o5 k10 k11, Value.slice o6 k12 k13, Value.slice o7 k14 k15,
  Value.int IntKind.i64 n5, Value.slice o8 k16 k17])]
  w4 fun (v2 : Value) (w8 : World) =>
  ∃ (n6 : Int),
  v2 = Value.int IntKind.i64 n6 ∧
  I2 w8 ∧
  inI (n2 + 1) ∧
  x1 (decide (n4 < n6)) (n2 + 1) w8 ∧
  x2 (decide (n4 < n6)) (n2 + 1) w8 < x2 b2 n2 w3)
  (inI (n2 + 1) ∧ x1 false (n2 + 1) w4 ∧ x2 false (n2 + 1) w4 < x2 b2 n2 w3))
  (br (!b2) (R (Value.tuple (Array.mk [Value.slice none 0 0, Value.bool false, Value.int IntKind.i64 1])) w3)
  (∃ (o9 : Option Addr),
  ∃ (k18 : Nat),
  ∃ (k19 : Nat),
  ∃ (o10 : Option Addr),
  ∃ (k20 : Nat),
  ∃ (k21 : Nat),
  ∃ (o11 : Option Addr),
  ∃ (k22 : Nat),
  ∃ (k23 : Nat),
  ∃ (n7 : Int),
  ∃ (o12 : Option Addr),
  ∃ (k24 : Nat),
  ∃ (k25 : Nat),
  V.rowAt w3 (Addr.mk k1 0 none) 0 5 =
  some
  [Value.slice o9 k18 k19, Value.slice o10 k20 k21, Value.slice o11 k22 k23,
  Value.int IntKind.i64 n7, Value.slice o12 k24 k25] ∧
  RunE Proofs.Tryd.prog Ev 53
  [Value.agg
  (Array.mk
  [Value.slice o9 k18 k19, Value.slice o10 k20 k21, Value.slice o11 k22 k23,
  Value.int IntKind.i64 n7, Value.slice o12 k24 k25])]
  w3 fun (v3 : Value) (w9 : World) =>
  ∃ (o13 : Option Addr),
  v3 = Value.pointer o13 ∧
  RunE Proofs.Tryd.prog Ev 57 [Value.pointer o13, Value.slice p1symsa p1symsl p1symsc] w9
  fun (v4 : Value) (w10 : World) =>
  ∃ (o14 : Option Addr),
  ∃ (k26 : Nat),
  ∃ (k27 : Nat),
  ∃ (b3 : Bool),
  v4 = Value.tuple (Array.mk [Value.slice o14 k26 k27, Value.bool b3]) ∧
  RunE Proofs.Tryd.prog Ev 54 [Value.slice o14 k26 k27] w10
  fun (v5 : Value) (w11 : World) =>
  ∃ (o15 : Option Addr),
  ∃ (k28 : Nat),
  ∃ (k29 : Nat),
  v5 = Value.slice o15 k28 k29 ∧
  R
  (Value.tuple
  (Array.mk
  [Value.slice o15 k28 k29, Value.bool b3,
  Value.int IntKind.i64 0]))
  w11)))
  (br (!b2) (R (Value.tuple (Array.mk [Value.slice none 0 0, Value.bool false, Value.int IntKind.i64 1])) w3)
  (∃ (o16 : Option Addr),
  ∃ (k30 : Nat),
  ∃ (k31 : Nat),
  ∃ (o17 : Option Addr),
  ∃ (k32 : Nat),
  ∃ (k33 : Nat),
  ∃ (o18 : Option Addr),
  ∃ (k34 : Nat),
  ∃ (k35 : Nat),
  ∃ (n8 : Int),
  ∃ (o19 : Option Addr),
  ∃ (k36 : Nat),
  ∃ (k37 : Nat),
  V.rowAt w3 (Addr.mk k1 0 none) 0 5 =
  some
  [Value.slice o16 k30 k31, Value.slice o17 k32 k33, Value.slice o18 k34 k35,
  Value.int IntKind.i64 n8, Value.slice o19 k36 k37] ∧
  RunE Proofs.Tryd.prog Ev 53
  [Value.agg
  (Array.mk
  [Value.slice o16 k30 k31, Value.slice o17 k32 k33, Value.slice o18 k34 k35,
  Value.int IntKind.i64 n8, Value.slice o19 k36 k37])]
  w3 fun (v6 : Value) (w12 : World) =>
  ∃ (o20 : Option Addr),
  v6 = Value.pointer o20 ∧
  RunE Proofs.Tryd.prog Ev 57 [Value.pointer o20, Value.slice p1symsa p1symsl p1symsc] w12
  fun (v7 : Value) (w13 : World) =>
  ∃ (o21 : Option Addr),
  ∃ (k38 : Nat),
  ∃ (k39 : Nat),
  ∃ (b4 : Bool),
  v7 = Value.tuple (Array.mk [Value.slice o21 k38 k39, Value.bool b4]) ∧
  RunE Proofs.Tryd.prog Ev 54 [Value.slice o21 k38 k39] w13
  fun (v8 : Value) (w14 : World) =>
  ∃ (o22 : Option Addr),
  ∃ (k40 : Nat),
  ∃ (k41 : Nat),
  v8 = Value.slice o22 k40 k41 ∧
  R
  (Value.tuple
  (Array.mk
  [Value.slice o22 k40 k41, Value.bool b4, Value.int IntKind.i64 0]))
  w14))
set_option maxRecDepth 100000 in
theorem run_presageref07_Row (p0g_0a : Option Addr) (p0g_0l : Nat) (p0g_0c : Nat) (p0g_1a : Option Addr) (p0g_1l : Nat) (p0g_1c : Nat) (p0g_2a : Option Addr) (p0g_2l : Nat) (p0g_2c : Nat) (p0g_3 : Int) (p0g_4a : Option Addr) (p0g_4l : Nat) (p0g_4c : Nat) (p1symsa : Option Addr) (p1symsl : Nat) (p1symsc : Nat) (w : World) (R : Value → World → Prop) (h : vc_presageref07_Row p0g_0a p0g_0l p0g_0c p0g_1a p0g_1l p0g_1c p0g_2a p0g_2l p0g_2c p0g_3 p0g_4a p0g_4l p0g_4c p1symsa p1symsl p1symsc w R) : Run Tryd.prog 23 [(.agg #[(.slice p0g_0a p0g_0l p0g_0c), (.slice p0g_1a p0g_1l p0g_1c), (.slice p0g_2a p0g_2l p0g_2c), (.int .i64 p0g_3), (.slice p0g_4a p0g_4l p0g_4c)]), (.slice p1symsa p1symsl p1symsc)] w R :=
  run_ev tyOk fnOk mixed Tryd.func23 ann_presageref07_Row ((by kernel_rfl : fnV Tryd.prog Ty Fn Ev ann_presageref07_Row Tryd.f23 [(.agg #[(.slice p0g_0a p0g_0l p0g_0c), (.slice p0g_1a p0g_1l p0g_1c), (.slice p0g_2a p0g_2l p0g_2c), (.int .i64 p0g_3), (.slice p0g_4a p0g_4l p0g_4c)]), (.slice p1symsa p1symsl p1symsc)] w R = vc_presageref07_Row p0g_0a p0g_0l p0g_0c p0g_1a p0g_1l p0g_1c p0g_2a p0g_2l p0g_2c p0g_3 p0g_4a p0g_4l p0g_4c p1symsa p1symsl p1symsc w R) ▸ h)

/- presage/presageref07.Null -/
abbrev n_presageref07_Null : FuncId := 51
def ann_presageref07_Null : Ann := { rngs := [], loops := [(3, [(4, (.one .bool))]), (6, [(4, (.one .bool)), (5, (.one (.int .i64)))])], joins := [], blocks := [] }
set_option maxRecDepth 100000 in
def vc_presageref07_Null (p0g_0a : Option Addr) (p0g_0l : Nat) (p0g_0c : Nat) (p0g_1a : Option Addr) (p0g_1l : Nat) (p0g_1c : Nat) (p0g_2a : Option Addr) (p0g_2l : Nat) (p0g_2c : Nat) (p0g_3 : Int) (p0g_4a : Option Addr) (p0g_4l : Nat) (p0g_4c : Nat) (w : World) (R : Value → World → Prop) : Prop :=
  new w
  (Obj.cells
  (Array.mk [Value.slice p0g_0a p0g_0l p0g_0c, Value.slice p0g_1a p0g_1l p0g_1c, Value.slice p0g_2a p0g_2l p0g_2c, Value.int IntKind.i64 p0g_3, Value.slice p0g_4a p0g_4l p0g_4c])
  27)
  fun (k1 : Nat) (w1 : World) =>
  ∃ (o1 : Option Addr),
  ∃ (k2 : Nat),
  ∃ (k3 : Nat),
  World.cell? w1 (Addr.add (Addr.mk k1 0 none) 1) = some (Value.slice o1 k2 k3) ∧
  mkOk (↑k2 : Int) (↑k2 : Int) 1 ∧
  new w1 (Obj.cells (Array.mk (reps (Int.toNat (↑k2 : Int)) [Value.bool false])) 4) fun (k4 : Nat) (w2 : World) =>
  ∃ (x1 : arrS (shs [(4, S1.one Cs.bool)]) (World → Prop)),
  ∃ (x2 : arrS (shs [(4, S1.one Cs.bool)]) (World → Nat)),
  x1 true w2 ∧
  ∀ (I1 : Nat → Value) (b1 : Bool) (w3 : World),
  x1 b1 w3 →
  br b1
  (∃ (x3 : arrS (shs [(4, S1.one Cs.bool), (5, S1.one (Cs.int IntKind.i64))]) (World → Prop)),
  ∃ (x4 : arrS (shs [(4, S1.one Cs.bool), (5, S1.one (Cs.int IntKind.i64))]) (World → Nat)),
  x3 false 0 w3 ∧
  ∀ (I2 : Nat → Value) (b2 : Bool) (n1 : Int) (w4 : World),
  x3 b2 n1 w4 →
  ∃ (o2 : Option Addr),
  ∃ (k5 : Nat),
  ∃ (k6 : Nat),
  World.cell? w4 (Addr.add (Addr.mk k1 0 none) 4) = some (Value.slice o2 k5 k6) ∧
  br (decide (n1 < (↑k5 : Int)))
  (∀ (w5 : World),
  drawn w4 w5 →
  ∃ (I3 : World → Prop),
  I3 w5 ∧
  ∃ (o3 : Option Addr),
  ∃ (k7 : Nat),
  ∃ (k8 : Nat),
  (∀ (w6 : World), I3 w6 → World.cell? w6 (Addr.add (Addr.mk k1 0 none) 4) = some (Value.slice o3 k7 k8)) ∧
  idx o3 k7 n1 3 fun (a1 : Addr) =>
  ∃ (n2 : Int),
  (∀ (w7 : World), I3 w7 → World.cell? w7 a1 = some (Value.int IntKind.i64 n2)) ∧
  ∃ (o4 : Option Addr),
  ∃ (k9 : Nat),
  ∃ (k10 : Nat),
  (∀ (w8 : World), I3 w8 → World.cell? w8 (Addr.mk k1 0 none) = some (Value.slice o4 k9 k10)) ∧
  inI (n2 - (↑k9 : Int)) ∧
  idx (some (Addr.mk k4 0 none)) (Int.toNat (↑k2 : Int)) (n2 - (↑k9 : Int)) 1 fun (a2 : Addr) =>
  ∃ (b3 : Bool),
  World.cell? w5 a2 = some (Value.bool b3) ∧
  br b3 (inI (n1 + 1) ∧ x3 b2 (n1 + 1) w5 ∧ x4 b2 (n1 + 1) w5 < x4 b2 n1 w4)
  (∀ (w9 : World),
  drawn w5 w9 →
  ∃ (I4 : World → Prop),
  I4 w9 ∧
  ∃ (o5 : Option Addr),
  ∃ (k11 : Nat),
  ∃ (k12 : Nat),
  ∃ (o6 : Option Addr),
  ∃ (k13 : Nat),
  ∃ (k14 : Nat),
  ∃ (o7 : Option Addr),
  ∃ (k15 : Nat),
  ∃ (k16 : Nat),
  ∃ (n3 : Int),
  ∃ (o8 : Option Addr),
  ∃ (k17 : Nat),
  ∃ (k18 : Nat),
  (∀ (w10 : World),
  I4 w10 →
  V.rowAt w10 (Addr.mk k1 0 none) 0 5 =
  some
  [Value.slice o5 k11 k12, Value.slice o6 k13 k14,
  Value.slice o7 k15 k16,
  Value.int IntKind.i64 n3,
  Value.slice o8 k17 k18]) ∧
  ∃ (o9 : Option Addr),
  ∃ (k19 : Nat),
  ∃ (k20 : Nat),
  (∀ (w11 : World),
  I4 w11 →
  World.cell? w11
  (Addr.add (Addr.mk k1 0 none) 4) =
  some (Value.slice o9 k19 k20)) ∧
  idx o9 k19 n1 3 fun (a3 : Addr) =>
  ∃ (o10 : Option Addr),
  ∃ (k21 : Nat),
  ∃ (k22 : Nat),
  (∀ (w12 : World),
  I4 w12 →
  World.cell? w12 (Addr.add a3 1) =
  some (Value.slice o10 k21 k22)) ∧
  RunE Proofs.Tryd.prog Ev 74
  [Value.agg
  (Array.mk
  [Value.slice o5 k11 k12,
  Value.slice o6 k13 k14,
  Value.slice o7 k15 k16,
  Value.int IntKind.i64 n3,
  Value.slice o8 k17 k18]),
  Value.slice
  (some (Addr.mk k4 0 none))
  (Int.toNat (↑k2 : Int))
  (Int.toNat (↑k2 : Int)),
  Value.slice o10 k21 k22]
  w9 fun (v1 : Value) (w13 : World) =>
  ∃ (b4 : Bool),
  v1 = Value.bool b4 ∧
  br b4
  (idx (some (Addr.mk k4 0 none))
  (Int.toNat (↑k2 : Int))
  (n2 - (↑k9 : Int)) 1
  fun (a4 : Addr) =>
  st1 w13 a4 (Value.bool true)
  fun (w14 : World) =>
  inI (n1 + 1) ∧
  x3 true (n1 + 1) w14 ∧
  x4 true (n1 + 1) w14 <
  x4 b2 n1 w4)
  (inI (n1 + 1) ∧
  x3 b2 (n1 + 1) w13 ∧
  x4 b2 (n1 + 1) w13 <
  x4 b2 n1 w4)))
  (x1 b2 w4 ∧ x2 b2 w4 < x2 b1 w3))
  (R (Value.slice (some (Addr.mk k4 0 none)) (Int.toNat (↑k2 : Int)) (Int.toNat (↑k2 : Int))) w3)
set_option maxRecDepth 100000 in
theorem run_presageref07_Null (p0g_0a : Option Addr) (p0g_0l : Nat) (p0g_0c : Nat) (p0g_1a : Option Addr) (p0g_1l : Nat) (p0g_1c : Nat) (p0g_2a : Option Addr) (p0g_2l : Nat) (p0g_2c : Nat) (p0g_3 : Int) (p0g_4a : Option Addr) (p0g_4l : Nat) (p0g_4c : Nat) (w : World) (R : Value → World → Prop) (h : vc_presageref07_Null p0g_0a p0g_0l p0g_0c p0g_1a p0g_1l p0g_1c p0g_2a p0g_2l p0g_2c p0g_3 p0g_4a p0g_4l p0g_4c w R) : Run Tryd.prog 51 [(.agg #[(.slice p0g_0a p0g_0l p0g_0c), (.slice p0g_1a p0g_1l p0g_1c), (.slice p0g_2a p0g_2l p0g_2c), (.int .i64 p0g_3), (.slice p0g_4a p0g_4l p0g_4c)])] w R :=
  run_ev tyOk fnOk mixed Tryd.func51 ann_presageref07_Null ((by kernel_rfl : fnV Tryd.prog Ty Fn Ev ann_presageref07_Null Tryd.f51 [(.agg #[(.slice p0g_0a p0g_0l p0g_0c), (.slice p0g_1a p0g_1l p0g_1c), (.slice p0g_2a p0g_2l p0g_2c), (.int .i64 p0g_3), (.slice p0g_4a p0g_4l p0g_4c)])] w R = vc_presageref07_Null p0g_0a p0g_0l p0g_0c p0g_1a p0g_1l p0g_1c p0g_2a p0g_2l p0g_2c p0g_3 p0g_4a p0g_4l p0g_4c w R) ▸ h)

/- presage/presageref07.Table -/
abbrev n_presageref07_Table : FuncId := 53
def ann_presageref07_Table : Ann := { rngs := [], loops := [(3, [(4, (.one (.int .i64)))]), (10, [(6, (.one .bool))]), (13, [(6, (.one .bool)), (7, (.one (.int .i64)))])], joins := [], blocks := [] }
set_option maxRecDepth 100000 in
def vc_presageref07_Table (p0g_0a : Option Addr) (p0g_0l : Nat) (p0g_0c : Nat) (p0g_1a : Option Addr) (p0g_1l : Nat) (p0g_1c : Nat) (p0g_2a : Option Addr) (p0g_2l : Nat) (p0g_2c : Nat) (p0g_3 : Int) (p0g_4a : Option Addr) (p0g_4l : Nat) (p0g_4c : Nat) (w : World) (R : Value → World → Prop) : Prop :=
  new w
  (Obj.cells
  (Array.mk [Value.slice p0g_0a p0g_0l p0g_0c, Value.slice p0g_1a p0g_1l p0g_1c, Value.slice p0g_2a p0g_2l p0g_2c, Value.int IntKind.i64 p0g_3, Value.slice p0g_4a p0g_4l p0g_4c])
  27)
  fun (k1 : Nat) (w1 : World) =>
  ∀ (w2 : World),
  drawn w1 w2 →
  ∃ (I1 : World → Prop),
  I1 w2 ∧
  ∃ (o1 : Option Addr),
  ∃ (k2 : Nat),
  ∃ (k3 : Nat),
  ∃ (o2 : Option Addr),
  ∃ (k4 : Nat),
  ∃ (k5 : Nat),
  ∃ (o3 : Option Addr),
  ∃ (k6 : Nat),
  ∃ (k7 : Nat),
  ∃ (n1 : Int),
  ∃ (o4 : Option Addr),
  ∃ (k8 : Nat),
  ∃ (k9 : Nat),
  (∀ (w3 : World),
  I1 w3 →
  V.rowAt w3 (Addr.mk k1 0 none) 0 5 =
  some [Value.slice o1 k2 k3, Value.slice o2 k4 k5, Value.slice o3 k6 k7, Value.int IntKind.i64 n1, Value.slice o4 k8 k9]) ∧
  ∃ (o5 : Option Addr),
  ∃ (k10 : Nat),
  ∃ (k11 : Nat),
  ∃ (o6 : Option Addr),
  ∃ (k12 : Nat),
  ∃ (k13 : Nat),
  ∃ (o7 : Option Addr),
  ∃ (k14 : Nat),
  ∃ (k15 : Nat),
  ∃ (n2 : Int),
  ∃ (o8 : Option Addr),
  ∃ (k16 : Nat),
  ∃ (k17 : Nat),
  (∀ (w4 : World),
  I1 w4 →
  V.rowAt w4 (Addr.mk k1 0 none) 0 5 =
  some
  [Value.slice o5 k10 k11, Value.slice o6 k12 k13, Value.slice o7 k14 k15, Value.int IntKind.i64 n2,
  Value.slice o8 k16 k17]) ∧
  RunE Proofs.Tryd.prog Ev 51
  [Value.agg
  (Array.mk
  [Value.slice o5 k10 k11, Value.slice o6 k12 k13, Value.slice o7 k14 k15, Value.int IntKind.i64 n2,
  Value.slice o8 k16 k17])]
  w2 fun (v1 : Value) (w5 : World) =>
  ∃ (o9 : Option Addr),
  ∃ (k18 : Nat),
  ∃ (k19 : Nat),
  v1 = Value.slice o9 k18 k19 ∧
  I1 w5 ∧
  new w5
  (Obj.cells
  (Array.mk
  [Value.slice o1 k2 k3, Value.slice o2 k4 k5, Value.slice o3 k6 k7, Value.int IntKind.i64 n1,
  Value.slice o4 k8 k9, Value.slice o9 k18 k19, Value.slice none 0 0])
  73)
  fun (k20 : Nat) (w6 : World) =>
  I1 w6 ∧
  ∃ (x1 : arrS (shs [(4, S1.one (Cs.int IntKind.i64))]) (World → Prop)),
  ∃ (x2 : arrS (shs [(4, S1.one (Cs.int IntKind.i64))]) (World → Nat)),
  x1 0 w6 ∧
  ∀ (I2 : Nat → Value) (n3 : Int) (w7 : World),
  x1 n3 w7 →
  ∃ (o10 : Option Addr),
  ∃ (k21 : Nat),
  ∃ (k22 : Nat),
  ∃ (o11 : Option Addr),
  ∃ (k23 : Nat),
  ∃ (k24 : Nat),
  ∃ (o12 : Option Addr),
  ∃ (k25 : Nat),
  ∃ (k26 : Nat),
  ∃ (n4 : Int),
  ∃ (o13 : Option Addr),
  ∃ (k27 : Nat),
  ∃ (k28 : Nat),
  V.rowAt w7 (Addr.mk k1 0 none) 0 5 =
  some
  [Value.slice o10 k21 k22, Value.slice o11 k23 k24,
  Value.slice o12 k25 k26, Value.int IntKind.i64 n4,
  Value.slice o13 k27 k28] ∧
  RunE Proofs.Tryd.prog Ev 30
  [Value.agg
  (Array.mk
  [Value.slice o10 k21 k22, Value.slice o11 k23 k24,
  Value.slice o12 k25 k26, Value.int IntKind.i64 n4,
  Value.slice o13 k27 k28])]
  w7 fun (v2 : Value) (w8 : World) =>
  ∃ (n5 : Int),
  v2 = Value.int IntKind.i64 n5 ∧
  br (decide (n3 < n5))
  (∃ (o14 : Option Addr),
  ∃ (k29 : Nat),
  ∃ (k30 : Nat),
  World.cell? w8 (Addr.mk k1 0 none) =
  some (Value.slice o14 k29 k30) ∧
  mkOk (↑k29 : Int) (↑k29 : Int) 1 ∧
  new w8
  (Obj.cells
  (Array.mk
  (reps (Int.toNat (↑k29 : Int))
  [Value.bool false]))
  4)
  fun (k31 : Nat) (w9 : World) =>
  ∃ (o15 : Option Addr),
  ∃ (k32 : Nat),
  ∃ (k33 : Nat),
  World.cell? w9
  (Addr.mk k1 0 none) =
  some
  (Value.slice o15 k32 k33) ∧
  br (decide (n3 < (↑k32 : Int)))
  (idx
  (some (Addr.mk k31 0 none))
  (Int.toNat (↑k29 : Int)) n3
  1 fun (a1 : Addr) =>
  st1 w9 a1 (Value.bool true)
  fun (w10 : World) =>
  ∃ (o16 : Option Addr),
  ∃ (k34 : Nat),
  ∃ (k35 : Nat),
  World.cell? w10
  (Addr.add
  (Addr.mk k20
  0 none)
  6) =
  some
  (Value.slice
  o16 k34
  k35) ∧
  new w10
  (Obj.cells
  (Array.mk
  [Value.slice
  (some
  (Addr.mk
  k31
  0
  none))
  (Int.toNat
  (↑k29 :
  Int))
  (Int.toNat
  (↑k29 :
  Int))])
  30)
  fun (k36 : Nat)
  (w11 :
  World) =>
  RunS
  Proofs.Tryd.prog
  (Builtin.append_
  (Array.mk
  [71, 71])
  71
  (Array.mk
  [Value.slice
  o16
  k34
  k35,
  Value.slice
  (some
  (Addr.mk
  k36
  0
  none))
  1 1]))
  w11
  fun
  (v3 : Value)
  (w12 :
  World) =>
  ∃ (o17 :
  Option
  Addr),
  ∃ (k37 :
  Nat),
  ∃ (k38 :
  Nat),
  v3 =
  Value.slice
  o17
  k37
  k38 ∧
  st1
  w12
  (Addr.add
  (Addr.mk
  k20
  0
  none)
  6)
  (Value.slice
  o17
  k37
  k38)
  fun
  (w13 :
  World) =>
  inI
  (n3 +
  1) ∧
  x1
  (n3 +
  1)
  w13 ∧
  x2
  (n3 +
  1)
  w13 <
  x2
  n3
  w7)
  (∃ (o18 : Option Addr),
  ∃ (k39 : Nat),
  ∃ (k40 : Nat),
  World.cell? w9
  (Addr.add
  (Addr.mk k20 0
  none)
  6) =
  some
  (Value.slice o18
  k39 k40) ∧
  new w9
  (Obj.cells
  (Array.mk
  [Value.slice
  (some
  (Addr.mk
  k31 0
  none))
  (Int.toNat
  (↑k29 :
  Int))
  (Int.toNat
  (↑k29 :
  Int))])
  30)
  fun (k41 : Nat)
  (w14 : World) =>
  RunS
  Proofs.Tryd.prog
  (Builtin.append_
  (Array.mk
  [71, 71])
  71
  (Array.mk
  [Value.slice
  o18 k39
  k40,
  Value.slice
  (some
  (Addr.mk
  k41 0
  none))
  1 1]))
  w14
  fun (v4 : Value)
  (w15 : World) =>
  ∃ (o19 :
  Option Addr),
  ∃ (k42 : Nat),
  ∃ (k43 : Nat),
  v4 =
  Value.slice
  o19
  k42
  k43 ∧
  st1 w15
  (Addr.add
  (Addr.mk
  k20
  0
  none)
  6)
  (Value.slice
  o19
  k42
  k43)
  fun
  (w16 :
  World) =>
  inI
  (n3 +
  1) ∧
  x1
  (n3 +
  1)
  w16 ∧
  x2
  (n3 +
  1)
  w16 <
  x2
  n3
  w7))
  (∃ (x3 :
  arrS (shs [(6, S1.one Cs.bool)]) (World → Prop)),
  ∃ (x4 :
  arrS (shs [(6, S1.one Cs.bool)]) (World → Nat)),
  x3 true w8 ∧
  ∀ (I3 : Nat → Value) (b1 : Bool)
  (w17 : World),
  x3 b1 w17 →
  br b1
  (∃ (x5 :
  arrS
  (shs
  [(6, S1.one Cs.bool),
  (7,
  S1.one (Cs.int IntKind.i64))])
  (World → Prop)),
  ∃ (x6 :
  arrS
  (shs
  [(6, S1.one Cs.bool),
  (7,
  S1.one
  (Cs.int IntKind.i64))])
  (World → Nat)),
  x5 false 0 w17 ∧
  ∀ (I4 : Nat → Value) (b2 : Bool)
  (n6 : Int) (w18 : World),
  x5 b2 n6 w18 →
  ∃ (o20 : Option Addr),
  ∃ (k44 : Nat),
  ∃ (k45 : Nat),
  World.cell? w18
  (Addr.add
  (Addr.mk k1 0
  none)
  4) =
  some
  (Value.slice o20
  k44 k45) ∧
  br
  (decide
  (n6 <
  (↑k44 : Int)))
  (∀ (w19 : World),
  drawn w18 w19 →
  ∃ (I5 :
  World → Prop),
  I5 w19 ∧
  ∃ (o21 :
  Option
  Addr),
  ∃ (k46 :
  Nat),
  ∃ (k47 :
  Nat),
  (∀
  (w20 :
  World),
  I5
  w20 →
  World.cell?
  w20
  (Addr.add
  (Addr.mk
  k1
  0
  none)
  4) =
  some
  (Value.slice
  o21
  k46
  k47)) ∧
  idx
  o21
  k46
  n6
  3
  fun
  (a2 :
  Addr) =>
  ∃
  (o22
  :
  Option
  Addr),
  ∃
  (k48
  :
  Nat),
  ∃
  (k49
  :
  Nat),
  (∀
  (w21 :
  World),
  I5
  w21 →
  World.cell?
  w21
  (Addr.add
  a2
  1) =
  some
  (Value.slice
  o22
  k48
  k49)) ∧
  ∃
  (o23
  :
  Option
  Addr),
  ∃
  (k50
  :
  Nat),
  ∃
  (k51
  :
  Nat),
  (∀
  (w22 :
  World),
  I5
  w22 →
  World.cell?
  w22
  (Addr.add
  (Addr.mk
  k20
  0
  none)
  6) =
  some
  (Value.slice
  o23
  k50
  k51)) ∧
  ∃
  (o24
  :
  Option
  Addr),
  ∃
  (k52
  :
  Nat),
  ∃
  (k53
  :
  Nat),
  (∀
  (w23 :
  World),
  I5
  w23 →
  World.cell?
  w23
  (Addr.add
  (Addr.mk
  k1
  0
  none)
  4) =
  some
  (Value.slice
  o24
  k52
  k53)) ∧
  idx
  o24
  k52
  n6
  3
  fun
  (a3 :
  Addr) =>
  ∃
  (n7
  :
  Int),
  (∀
  (w24 :
  World),
  I5
  w24 →
  World.cell?
  w24
  a3 =
  some
  (Value.int
  IntKind.i64
  n7)) ∧
  idx
  o23
  k50
  n7
  1
  fun
  (a4 :
  Addr) =>
  ∃
  (o25
  :
  Option
  Addr),
  ∃
  (k54
  :
  Nat),
  ∃
  (k55
  :
  Nat),
  (∀
  (w25 :
  World),
  I5
  w25 →
  World.cell?
  w25
  a4 =
  some
  (Value.slice
  o25
  k54
  k55)) ∧
  RunE
  Proofs.Tryd.prog
  Ev
  76
  [Value.pointer
  (some
  (Addr.mk
  k20
  0
  none)),
  Value.slice
  o22
  k48
  k49,
  Value.slice
  o25
  k54
  k55]
  w19
  fun
  (v5 :
  Value)
  (w26 :
  World) =>
  ∃
  (b3
  :
  Bool),
  v5 =
  Value.bool
  b3 ∧
  I5
  w26 ∧
  br
  b2
  (inI
  (n6 +
  1) ∧
  x5
  true
  (n6 +
  1)
  w26 ∧
  x6
  true
  (n6 +
  1)
  w26 <
  x6
  b2
  n6
  w18)
  (inI
  (n6 +
  1) ∧
  x5
  b3
  (n6 +
  1)
  w26 ∧
  x6
  b3
  (n6 +
  1)
  w26 <
  x6
  b2
  n6
  w18))
  (x3 b2 w18 ∧
  x4 b2 w18 <
  x4 b1 w17))
  (R
  (Value.pointer
  (some (Addr.mk k20 0 none)))
  w17))
set_option maxRecDepth 100000 in
theorem run_presageref07_Table (p0g_0a : Option Addr) (p0g_0l : Nat) (p0g_0c : Nat) (p0g_1a : Option Addr) (p0g_1l : Nat) (p0g_1c : Nat) (p0g_2a : Option Addr) (p0g_2l : Nat) (p0g_2c : Nat) (p0g_3 : Int) (p0g_4a : Option Addr) (p0g_4l : Nat) (p0g_4c : Nat) (w : World) (R : Value → World → Prop) (h : vc_presageref07_Table p0g_0a p0g_0l p0g_0c p0g_1a p0g_1l p0g_1c p0g_2a p0g_2l p0g_2c p0g_3 p0g_4a p0g_4l p0g_4c w R) : Run Tryd.prog 53 [(.agg #[(.slice p0g_0a p0g_0l p0g_0c), (.slice p0g_1a p0g_1l p0g_1c), (.slice p0g_2a p0g_2l p0g_2c), (.int .i64 p0g_3), (.slice p0g_4a p0g_4l p0g_4c)])] w R :=
  run_ev tyOk fnOk mixed Tryd.func53 ann_presageref07_Table ((by kernel_rfl : fnV Tryd.prog Ty Fn Ev ann_presageref07_Table Tryd.f53 [(.agg #[(.slice p0g_0a p0g_0l p0g_0c), (.slice p0g_1a p0g_1l p0g_1c), (.slice p0g_2a p0g_2l p0g_2c), (.int .i64 p0g_3), (.slice p0g_4a p0g_4l p0g_4c)])] w R = vc_presageref07_Table p0g_0a p0g_0l p0g_0c p0g_1a p0g_1l p0g_1c p0g_2a p0g_2l p0g_2c p0g_3 p0g_4a p0g_4l p0g_4c w R) ▸ h)

/- presage/presageref07.List -/
abbrev n_presageref07_List : FuncId := 54
def ann_presageref07_List : Ann := { rngs := [], loops := [(3, [(3, (.one .slice)), (4, (.one (.int .i64)))])], joins := [], blocks := [] }
set_option maxRecDepth 100000 in
def vc_presageref07_List (p0la : Option Addr) (p0ll : Nat) (p0lc : Nat) (w : World) (R : Value → World → Prop) : Prop :=
  ∃ (x1 : arrS (shs [(3, S1.one Cs.slice), (4, S1.one (Cs.int IntKind.i64))]) (World → Prop)),
  ∃ (x2 : arrS (shs [(3, S1.one Cs.slice), (4, S1.one (Cs.int IntKind.i64))]) (World → Nat)),
  x1 none 0 0 0 w ∧
  ∀ (I1 : Nat → Value) (o1 : Option Addr) (k1 k2 : Nat) (n1 : Int) (w1 : World),
  x1 o1 k1 k2 n1 w1 →
  br (decide (n1 < (↑p0ll : Int)))
  (idx p0la p0ll n1 1 fun (a1 : Addr) =>
  ∃ (b1 : Bool),
  World.cell? w1 a1 = some (Value.bool b1) ∧
  br b1
  (new w1 (Obj.cells (Array.mk [Value.int IntKind.i64 n1]) 3) fun (k3 : Nat) (w2 : World) =>
  RunS Proofs.Tryd.prog (Builtin.append_ (Array.mk [24, 24]) 24 (Array.mk [Value.slice o1 k1 k2, Value.slice (some (Addr.mk k3 0 none)) 1 1])) w2
  fun (v1 : Value) (w3 : World) =>
  ∃ (o2 : Option Addr),
  ∃ (k4 : Nat), ∃ (k5 : Nat), v1 = Value.slice o2 k4 k5 ∧ inI (n1 + 1) ∧ x1 o2 k4 k5 (n1 + 1) w3 ∧ x2 o2 k4 k5 (n1 + 1) w3 < x2 o1 k1 k2 n1 w1)
  (inI (n1 + 1) ∧ x1 o1 k1 k2 (n1 + 1) w1 ∧ x2 o1 k1 k2 (n1 + 1) w1 < x2 o1 k1 k2 n1 w1))
  (R (Value.slice o1 k1 k2) w1)
set_option maxRecDepth 100000 in
theorem run_presageref07_List (p0la : Option Addr) (p0ll : Nat) (p0lc : Nat) (w : World) (R : Value → World → Prop) (h : vc_presageref07_List p0la p0ll p0lc w R) : Run Tryd.prog 54 [(.slice p0la p0ll p0lc)] w R :=
  run_ev tyOk fnOk mixed Tryd.func54 ann_presageref07_List ((by kernel_rfl : fnV Tryd.prog Ty Fn Ev ann_presageref07_List Tryd.f54 [(.slice p0la p0ll p0lc)] w R = vc_presageref07_List p0la p0ll p0lc w R) ▸ h)

/- (*presage/presageref07.Begin).Of -/
abbrev n_presageref07_Begin_Of : FuncId := 57
def ann_presageref07_Begin_Of : Ann := { rngs := [], loops := [], joins := [], blocks := [] }
set_option maxRecDepth 100000 in
def vc_presageref07_Begin_Of (p0b : Option Addr) (p1rowa : Option Addr) (p1rowl : Nat) (p1rowc : Nat) (w : World) (R : Value → World → Prop) : Prop :=
  nn p0b fun (a1 : Addr) =>
  ∃ (o1 : Option Addr),
  ∃ (k1 : Nat),
  ∃ (k2 : Nat),
  World.cell? w a1 = some (Value.slice o1 k1 k2) ∧
  mkOk (↑k1 : Int) (↑k1 : Int) 1 ∧
  new w (Obj.cells (Array.mk (reps (Int.toNat (↑k1 : Int)) [Value.bool false])) 4) fun (k3 : Nat) (w1 : World) =>
  RunE Proofs.Tryd.prog Ev 76
  [Value.pointer p0b, Value.slice p1rowa p1rowl p1rowc, Value.slice (some (Addr.mk k3 0 none)) (Int.toNat (↑k1 : Int)) (Int.toNat (↑k1 : Int))] w1
  fun (v1 : Value) (w2 : World) =>
  ∃ (b1 : Bool),
  v1 = Value.bool b1 ∧
  ∀ (w3 : World),
  drawn w2 w3 →
  ∃ (I1 : World → Prop),
  I1 w3 ∧
  nn p0b fun (a2 : Addr) =>
  ∃ (o2 : Option Addr),
  ∃ (k4 : Nat),
  ∃ (k5 : Nat),
  ∃ (o3 : Option Addr),
  ∃ (k6 : Nat),
  ∃ (k7 : Nat),
  ∃ (o4 : Option Addr),
  ∃ (k8 : Nat),
  ∃ (k9 : Nat),
  ∃ (n1 : Int),
  ∃ (o5 : Option Addr),
  ∃ (k10 : Nat),
  ∃ (k11 : Nat),
  (∀ (w4 : World),
  I1 w4 →
  V.rowAt w4 a2 0 5 =
  some
  [Value.slice o2 k4 k5, Value.slice o3 k6 k7, Value.slice o4 k8 k9, Value.int IntKind.i64 n1,
  Value.slice o5 k10 k11]) ∧
  nn p0b fun (a3 : Addr) =>
  ∃ (o6 : Option Addr),
  ∃ (k12 : Nat),
  ∃ (k13 : Nat),
  (∀ (w5 : World), I1 w5 → World.cell? w5 (Addr.add a3 5) = some (Value.slice o6 k12 k13)) ∧
  RunE Proofs.Tryd.prog Ev 74
  [Value.agg
  (Array.mk
  [Value.slice o2 k4 k5, Value.slice o3 k6 k7, Value.slice o4 k8 k9, Value.int IntKind.i64 n1,
  Value.slice o5 k10 k11]),
  Value.slice o6 k12 k13, Value.slice p1rowa p1rowl p1rowc]
  w3 fun (v2 : Value) (w6 : World) =>
  ∃ (b2 : Bool),
  v2 = Value.bool b2 ∧
  I1 w6 ∧
  R
  (Value.tuple
  (Array.mk
  [Value.slice (some (Addr.mk k3 0 none)) (Int.toNat (↑k1 : Int)) (Int.toNat (↑k1 : Int)),
  Value.bool b2]))
  w6
set_option maxRecDepth 100000 in
theorem run_presageref07_Begin_Of (p0b : Option Addr) (p1rowa : Option Addr) (p1rowl : Nat) (p1rowc : Nat) (w : World) (R : Value → World → Prop) (h : vc_presageref07_Begin_Of p0b p1rowa p1rowl p1rowc w R) : Run Tryd.prog 57 [(.pointer p0b), (.slice p1rowa p1rowl p1rowc)] w R :=
  run_ev tyOk fnOk mixed Tryd.func57 ann_presageref07_Begin_Of ((by kernel_rfl : fnV Tryd.prog Ty Fn Ev ann_presageref07_Begin_Of Tryd.f57 [(.pointer p0b), (.slice p1rowa p1rowl p1rowc)] w R = vc_presageref07_Begin_Of p0b p1rowa p1rowl p1rowc w R) ▸ h)

/- presage/presageref07.vanishes -/
abbrev n_presageref07_vanishes : FuncId := 74
def ann_presageref07_vanishes : Ann := { rngs := [], loops := [(2, [(7, (.one (.int .i64)))])], joins := [], blocks := [] }
set_option maxRecDepth 100000 in
def vc_presageref07_vanishes (p0g_0a : Option Addr) (p0g_0l : Nat) (p0g_0c : Nat) (p0g_1a : Option Addr) (p0g_1l : Nat) (p0g_1c : Nat) (p0g_2a : Option Addr) (p0g_2l : Nat) (p0g_2c : Nat) (p0g_3 : Int) (p0g_4a : Option Addr) (p0g_4l : Nat) (p0g_4c : Nat) (p1nulla : Option Addr) (p1nulll : Nat) (p1nullc : Nat) (p2rowa : Option Addr) (p2rowl : Nat) (p2rowc : Nat) (w : World) (R : Value → World → Prop) : Prop :=
  new w
  (Obj.cells
  (Array.mk [Value.slice p0g_0a p0g_0l p0g_0c, Value.slice p0g_1a p0g_1l p0g_1c, Value.slice p0g_2a p0g_2l p0g_2c, Value.int IntKind.i64 p0g_3, Value.slice p0g_4a p0g_4l p0g_4c])
  27)
  fun (k1 : Nat) (w1 : World) =>
  ∃ (x1 : arrS (shs [(7, S1.one (Cs.int IntKind.i64))]) (World → Prop)),
  ∃ (x2 : arrS (shs [(7, S1.one (Cs.int IntKind.i64))]) (World → Nat)),
  x1 0 w1 ∧
  ∀ (I1 : Nat → Value) (n1 : Int) (w2 : World),
  x1 n1 w2 →
  br (decide (n1 < (↑p2rowl : Int)))
  (∀ (w3 : World),
  drawn w2 w3 →
  ∃ (I2 : World → Prop),
  I2 w3 ∧
  idx p2rowa p2rowl n1 1 fun (a1 : Addr) =>
  ∃ (n2 : Int),
  (∀ (w4 : World), I2 w4 → World.cell? w4 a1 = some (Value.int IntKind.i64 n2)) ∧
  ∃ (o1 : Option Addr),
  ∃ (k2 : Nat),
  ∃ (k3 : Nat),
  (∀ (w5 : World), I2 w5 → World.cell? w5 (Addr.mk k1 0 none) = some (Value.slice o1 k2 k3)) ∧
  br (decide (n2 < (↑k2 : Int))) (R (Value.bool false) w3)
  (idx p2rowa p2rowl n1 1 fun (a2 : Addr) =>
  ∃ (n3 : Int),
  (∀ (w6 : World), I2 w6 → World.cell? w6 a2 = some (Value.int IntKind.i64 n3)) ∧
  ∃ (o2 : Option Addr),
  ∃ (k4 : Nat),
  ∃ (k5 : Nat),
  (∀ (w7 : World), I2 w7 → World.cell? w7 (Addr.mk k1 0 none) = some (Value.slice o2 k4 k5)) ∧
  inI (n3 - (↑k4 : Int)) ∧
  idx p1nulla p1nulll (n3 - (↑k4 : Int)) 1 fun (a3 : Addr) =>
  ∃ (b1 : Bool),
  (∀ (w8 : World), I2 w8 → World.cell? w8 a3 = some (Value.bool b1)) ∧
  br (!b1) (R (Value.bool false) w3) (inI (n1 + 1) ∧ x1 (n1 + 1) w3 ∧ x2 (n1 + 1) w3 < x2 n1 w2)))
  (R (Value.bool true) w2)
set_option maxRecDepth 100000 in
theorem run_presageref07_vanishes (p0g_0a : Option Addr) (p0g_0l : Nat) (p0g_0c : Nat) (p0g_1a : Option Addr) (p0g_1l : Nat) (p0g_1c : Nat) (p0g_2a : Option Addr) (p0g_2l : Nat) (p0g_2c : Nat) (p0g_3 : Int) (p0g_4a : Option Addr) (p0g_4l : Nat) (p0g_4c : Nat) (p1nulla : Option Addr) (p1nulll : Nat) (p1nullc : Nat) (p2rowa : Option Addr) (p2rowl : Nat) (p2rowc : Nat) (w : World) (R : Value → World → Prop) (h : vc_presageref07_vanishes p0g_0a p0g_0l p0g_0c p0g_1a p0g_1l p0g_1c p0g_2a p0g_2l p0g_2c p0g_3 p0g_4a p0g_4l p0g_4c p1nulla p1nulll p1nullc p2rowa p2rowl p2rowc w R) : Run Tryd.prog 74 [(.agg #[(.slice p0g_0a p0g_0l p0g_0c), (.slice p0g_1a p0g_1l p0g_1c), (.slice p0g_2a p0g_2l p0g_2c), (.int .i64 p0g_3), (.slice p0g_4a p0g_4l p0g_4c)]), (.slice p1nulla p1nulll p1nullc), (.slice p2rowa p2rowl p2rowc)] w R :=
  run_ev tyOk fnOk mixed Tryd.func74 ann_presageref07_vanishes ((by kernel_rfl : fnV Tryd.prog Ty Fn Ev ann_presageref07_vanishes Tryd.f74 [(.agg #[(.slice p0g_0a p0g_0l p0g_0c), (.slice p0g_1a p0g_1l p0g_1c), (.slice p0g_2a p0g_2l p0g_2c), (.int .i64 p0g_3), (.slice p0g_4a p0g_4l p0g_4c)]), (.slice p1nulla p1nulll p1nullc), (.slice p2rowa p2rowl p2rowc)] w R = vc_presageref07_vanishes p0g_0a p0g_0l p0g_0c p0g_1a p0g_1l p0g_1c p0g_2a p0g_2l p0g_2c p0g_3 p0g_4a p0g_4l p0g_4c p1nulla p1nulll p1nullc p2rowa p2rowl p2rowc w R) ▸ h)

/- (*presage/presageref07.Begin).lay -/
abbrev n_presageref07_Begin_lay : FuncId := 76
def ann_presageref07_Begin_lay : Ann := { rngs := [], loops := [(3, [(7, (.one .bool)), (8, (.one (.int .i64)))]), (7, [(7, (.one .bool)), (10, (.one (.int .i64)))])], joins := [], blocks := [] }
set_option maxRecDepth 100000 in
def vc_presageref07_Begin_lay (p0b : Option Addr) (p1rowa : Option Addr) (p1rowl : Nat) (p1rowc : Nat) (p2toa : Option Addr) (p2tol : Nat) (p2toc : Nat) (w : World) (R : Value → World → Prop) : Prop :=
  ∃ (x1 : arrS (shs [(7, S1.one Cs.bool), (8, S1.one (Cs.int IntKind.i64))]) (World → Prop)),
  ∃ (x2 : arrS (shs [(7, S1.one Cs.bool), (8, S1.one (Cs.int IntKind.i64))]) (World → Nat)),
  x1 false 0 w ∧
  ∀ (I1 : Nat → Value) (b1 : Bool) (n1 : Int) (w1 : World),
  x1 b1 n1 w1 →
  br (decide (n1 < (↑p1rowl : Int)))
  (∀ (w2 : World),
  drawn w1 w2 →
  ∃ (I2 : World → Prop),
  I2 w2 ∧
  nn p0b fun (a1 : Addr) =>
  ∃ (o1 : Option Addr),
  ∃ (k1 : Nat),
  ∃ (k2 : Nat),
  (∀ (w3 : World), I2 w3 → World.cell? w3 (Addr.add a1 6) = some (Value.slice o1 k1 k2)) ∧
  idx p1rowa p1rowl n1 1 fun (a2 : Addr) =>
  ∃ (n2 : Int),
  (∀ (w4 : World), I2 w4 → World.cell? w4 a2 = some (Value.int IntKind.i64 n2)) ∧
  idx o1 k1 n2 1 fun (a3 : Addr) =>
  ∃ (o2 : Option Addr),
  ∃ (k3 : Nat),
  ∃ (k4 : Nat),
  (∀ (w5 : World), I2 w5 → World.cell? w5 a3 = some (Value.slice o2 k3 k4)) ∧
  ∃ (x3 : arrS (shs [(7, S1.one Cs.bool), (10, S1.one (Cs.int IntKind.i64))]) (World → Prop)),
  ∃ (x4 : arrS (shs [(7, S1.one Cs.bool), (10, S1.one (Cs.int IntKind.i64))]) (World → Nat)),
  x3 b1 0 w2 ∧
  ∀ (I3 : Nat → Value) (b2 : Bool) (n3 : Int) (w6 : World),
  x3 b2 n3 w6 →
  br (decide (n3 < (↑k3 : Int)))
  (idx o2 k3 n3 1 fun (a4 : Addr) =>
  ∃ (b3 : Bool),
  World.cell? w6 a4 = some (Value.bool b3) ∧
  br b3
  (idx p2toa p2tol n3 1 fun (a5 : Addr) =>
  ∃ (b4 : Bool),
  World.cell? w6 a5 = some (Value.bool b4) ∧
  br (!b4)
  (idx p2toa p2tol n3 1 fun (a6 : Addr) =>
  st1 w6 a6 (Value.bool true) fun (w7 : World) =>
  inI (n3 + 1) ∧ x3 true (n3 + 1) w7 ∧ x4 true (n3 + 1) w7 < x4 b2 n3 w6)
  (inI (n3 + 1) ∧ x3 b2 (n3 + 1) w6 ∧ x4 b2 (n3 + 1) w6 < x4 b2 n3 w6))
  (inI (n3 + 1) ∧ x3 b2 (n3 + 1) w6 ∧ x4 b2 (n3 + 1) w6 < x4 b2 n3 w6))
  (∀ (w8 : World),
  drawn w6 w8 →
  ∃ (I4 : World → Prop),
  I4 w8 ∧
  idx p1rowa p1rowl n1 1 fun (a7 : Addr) =>
  ∃ (n4 : Int),
  (∀ (w9 : World), I4 w9 → World.cell? w9 a7 = some (Value.int IntKind.i64 n4)) ∧
  nn p0b fun (a8 : Addr) =>
  ∃ (o3 : Option Addr),
  ∃ (k5 : Nat),
  ∃ (k6 : Nat),
  (∀ (w10 : World), I4 w10 → World.cell? w10 a8 = some (Value.slice o3 k5 k6)) ∧
  br (decide (n4 < (↑k5 : Int))) (R (Value.bool b2) w8)
  (nn p0b fun (a9 : Addr) =>
  ∃ (o4 : Option Addr),
  ∃ (k7 : Nat),
  ∃ (k8 : Nat),
  (∀ (w11 : World),
  I4 w11 → World.cell? w11 (Addr.add a9 5) = some (Value.slice o4 k7 k8)) ∧
  idx p1rowa p1rowl n1 1 fun (a10 : Addr) =>
  ∃ (n5 : Int),
  (∀ (w12 : World),
  I4 w12 → World.cell? w12 a10 = some (Value.int IntKind.i64 n5)) ∧
  nn p0b fun (a11 : Addr) =>
  ∃ (o5 : Option Addr),
  ∃ (k9 : Nat),
  ∃ (k10 : Nat),
  (∀ (w13 : World),
  I4 w13 → World.cell? w13 a11 = some (Value.slice o5 k9 k10)) ∧
  inI (n5 - (↑k9 : Int)) ∧
  idx o4 k7 (n5 - (↑k9 : Int)) 1 fun (a12 : Addr) =>
  ∃ (b5 : Bool),
  (∀ (w14 : World),
  I4 w14 → World.cell? w14 a12 = some (Value.bool b5)) ∧
  br (!b5) (R (Value.bool b2) w8)
  (inI (n1 + 1) ∧
  x1 b2 (n1 + 1) w8 ∧ x2 b2 (n1 + 1) w8 < x2 b1 n1 w1))))
  (R (Value.bool b1) w1)
set_option maxRecDepth 100000 in
theorem run_presageref07_Begin_lay (p0b : Option Addr) (p1rowa : Option Addr) (p1rowl : Nat) (p1rowc : Nat) (p2toa : Option Addr) (p2tol : Nat) (p2toc : Nat) (w : World) (R : Value → World → Prop) (h : vc_presageref07_Begin_lay p0b p1rowa p1rowl p1rowc p2toa p2tol p2toc w R) : Run Tryd.prog 76 [(.pointer p0b), (.slice p1rowa p1rowl p1rowc), (.slice p2toa p2tol p2toc)] w R :=
  run_ev tyOk fnOk mixed Tryd.func76 ann_presageref07_Begin_lay ((by kernel_rfl : fnV Tryd.prog Ty Fn Ev ann_presageref07_Begin_lay Tryd.f76 [(.pointer p0b), (.slice p1rowa p1rowl p1rowc), (.slice p2toa p2tol p2toc)] w R = vc_presageref07_Begin_lay p0b p1rowa p1rowl p1rowc p2toa p2tol p2toc w R) ▸ h)

/- presage/presagelaw07.awake -/
abbrev n_presagelaw07_awake : FuncId := 13
def ann_presagelaw07_awake : Ann := { rngs := [], loops := [], joins := [], blocks := [] }
set_option maxRecDepth 100000 in
def vc_presagelaw07_awake  (w : World) (R : Value → World → Prop) : Prop :=
  RunE Proofs.Tryd.prog Ev 47 [] w fun (v1 : Value) (w1 : World) =>
  ∃ (o1 : Option Addr),
  ∃ (k1 : Nat),
  ∃ (k2 : Nat),
  ∃ (o2 : Option Addr),
  ∃ (k3 : Nat),
  ∃ (k4 : Nat),
  ∃ (o3 : Option Addr),
  ∃ (k5 : Nat),
  ∃ (k6 : Nat),
  ∃ (n1 : Int),
  ∃ (o4 : Option Addr),
  ∃ (k7 : Nat),
  ∃ (k8 : Nat),
  v1 = Value.agg (Array.mk [Value.slice o1 k1 k2, Value.slice o2 k3 k4, Value.slice o3 k5 k6, Value.int IntKind.i64 n1, Value.slice o4 k7 k8]) ∧
  new w1 (Obj.cells (Array.mk [Value.slice none 0 0, Value.slice none 0 0, Value.slice none 0 0, Value.int IntKind.i64 0, Value.slice none 0 0]) 27)
  fun (k9 : Nat) (w2 : World) =>
  stR w2 (Addr.mk k9 0 none) [Value.slice o1 k1 k2, Value.slice o2 k3 k4, Value.slice o3 k5 k6, Value.int IntKind.i64 n1, Value.slice o4 k7 k8]
  fun (w3 : World) =>
  ∃ (o5 : Option Addr),
  ∃ (k10 : Nat),
  ∃ (k11 : Nat),
  ∃ (o6 : Option Addr),
  ∃ (k12 : Nat),
  ∃ (k13 : Nat),
  ∃ (o7 : Option Addr),
  ∃ (k14 : Nat),
  ∃ (k15 : Nat),
  ∃ (n2 : Int),
  ∃ (o8 : Option Addr),
  ∃ (k16 : Nat),
  ∃ (k17 : Nat),
  V.rowAt w3 (Addr.mk k9 0 none) 0 5 =
  some
  [Value.slice o5 k10 k11, Value.slice o6 k12 k13, Value.slice o7 k14 k15, Value.int IntKind.i64 n2,
  Value.slice o8 k16 k17] ∧
  RunE Proofs.Tryd.prog Ev 15
  [Value.agg
  (Array.mk
  [Value.slice o5 k10 k11, Value.slice o6 k12 k13, Value.slice o7 k14 k15, Value.int IntKind.i64 n2,
  Value.slice o8 k16 k17])]
  w3 fun (v2 : Value) (w4 : World) =>
  ∃ (o9 : Option Addr),
  ∃ (k18 : Nat),
  ∃ (k19 : Nat),
  ∃ (n3 : Int),
  v2 = Value.tuple (Array.mk [Value.slice o9 k18 k19, Value.int IntKind.i64 n3]) ∧
  ∃ (o10 : Option Addr),
  ∃ (k20 : Nat),
  ∃ (k21 : Nat),
  ∃ (o11 : Option Addr),
  ∃ (k22 : Nat),
  ∃ (k23 : Nat),
  ∃ (o12 : Option Addr),
  ∃ (k24 : Nat),
  ∃ (k25 : Nat),
  ∃ (n4 : Int),
  ∃ (o13 : Option Addr),
  ∃ (k26 : Nat),
  ∃ (k27 : Nat),
  V.rowAt w4 (Addr.mk k9 0 none) 0 5 =
  some
  [Value.slice o10 k20 k21, Value.slice o11 k22 k23,
  Value.slice o12 k24 k25, Value.int IntKind.i64 n4,
  Value.slice o13 k26 k27] ∧
  RunE Proofs.Tryd.prog Ev 18
  [Value.agg
  (Array.mk
  [Value.slice o10 k20 k21, Value.slice o11 k22 k23,
  Value.slice o12 k24 k25, Value.int IntKind.i64 n4,
  Value.slice o13 k26 k27])]
  w4 fun (v3 : Value) (w5 : World) =>
  ∃ (o14 : Option Addr),
  ∃ (k28 : Nat),
  ∃ (k29 : Nat),
  ∃ (n5 : Int),
  v3 =
  Value.tuple
  (Array.mk
  [Value.slice o14 k28 k29, Value.int IntKind.i64 n5]) ∧
  ∃ (o15 : Option Addr),
  ∃ (k30 : Nat),
  ∃ (k31 : Nat),
  ∃ (o16 : Option Addr),
  ∃ (k32 : Nat),
  ∃ (k33 : Nat),
  ∃ (o17 : Option Addr),
  ∃ (k34 : Nat),
  ∃ (k35 : Nat),
  ∃ (n6 : Int),
  ∃ (o18 : Option Addr),
  ∃ (k36 : Nat),
  ∃ (k37 : Nat),
  V.rowAt w5 (Addr.mk k9 0 none) 0 5 =
  some
  [Value.slice o15 k30 k31,
  Value.slice o16 k32 k33,
  Value.slice o17 k34 k35,
  Value.int IntKind.i64 n6,
  Value.slice o18 k36 k37] ∧
  new w5
  (Obj.cells
  (Array.mk
  [Value.int IntKind.i64 5,
  Value.int IntKind.i64 5])
  3)
  fun (k38 : Nat) (w6 : World) =>
  RunE Proofs.Tryd.prog Ev 22
  [Value.agg
  (Array.mk
  [Value.slice o15 k30 k31,
  Value.slice o16 k32 k33,
  Value.slice o17 k34 k35,
  Value.int IntKind.i64 n6,
  Value.slice o18 k36 k37]),
  Value.slice
  (some (Addr.mk k38 0 none)) 2
  2]
  w6
  fun (v4 : Value) (w7 : World) =>
  ∃ (o19 : Option Addr),
  ∃ (k39 : Nat),
  ∃ (k40 : Nat),
  ∃ (b1 : Bool),
  ∃ (n7 : Int),
  v4 =
  Value.tuple
  (Array.mk
  [Value.slice o19
  k39 k40,
  Value.bool b1,
  Value.int
  IntKind.i64
  n7]) ∧
  br (n3 == 0)
  (br (n5 == 0)
  (br (n7 == 0)
  (br
  ((↑k18 :
  Int) ==
  2)
  (idx o9 k18 0
  1
  fun
  (a1 :
  Addr) =>
  ∃ (b2 :
  Bool),
  World.cell?
  w7
  a1 =
  some
  (Value.bool
  b2) ∧
  br (!b2)
  (idx
  o9
  k18
  1 1
  fun
  (a2 :
  Addr) =>
  ∃
  (b3
  :
  Bool),
  World.cell?
  w7
  a2 =
  some
  (Value.bool
  b3) ∧
  br
  b3
  (br
  ((↑k28 :
  Int) ==
  2)
  (idx
  o14
  k28
  0
  1
  fun
  (a3 :
  Addr) =>
  ∃
  (o20
  :
  Option
  Addr),
  ∃
  (k41
  :
  Nat),
  ∃
  (k42
  :
  Nat),
  World.cell?
  w7
  a3 =
  some
  (Value.slice
  o20
  k41
  k42) ∧
  br
  ((↑k41 :
  Int) ==
  2)
  (br
  ((↑k39 :
  Int) ==
  1)
  (idx
  o19
  k39
  0
  1
  fun
  (a4 :
  Addr) =>
  ∃
  (n8
  :
  Int),
  World.cell?
  w7
  a4 =
  some
  (Value.int
  IntKind.i64
  n8) ∧
  br
  (n8 ==
  3)
  (R
  (Value.bool
  b1)
  w7)
  (R
  (Value.bool
  false)
  w7))
  (R
  (Value.bool
  false)
  w7))
  (R
  (Value.bool
  false)
  w7))
  (R
  (Value.bool
  false)
  w7))
  (R
  (Value.bool
  false)
  w7))
  (R
  (Value.bool
  false)
  w7))
  (R
  (Value.bool
  false)
  w7))
  (R
  (Value.bool
  false)
  w7))
  (R
  (Value.bool
  false)
  w7))
  (R
  (Value.bool false)
  w7)
set_option maxRecDepth 100000 in
theorem run_presagelaw07_awake  (w : World) (R : Value → World → Prop) (h : vc_presagelaw07_awake  w R) : Run Tryd.prog 13 [] w R :=
  run_ev tyOk fnOk mixed Tryd.func13 ann_presagelaw07_awake ((by kernel_rfl : fnV Tryd.prog Ty Fn Ev ann_presagelaw07_awake Tryd.f13 [] w R = vc_presagelaw07_awake  w R) ▸ h)

/- presage/presagelaw07.sameBools -/
abbrev n_presagelaw07_sameBools : FuncId := 17
def ann_presagelaw07_sameBools : Ann := { rngs := [], loops := [(4, [(5, (.one (.int .i64)))])], joins := [], blocks := [] }
set_option maxRecDepth 100000 in
def vc_presagelaw07_sameBools (p0aa : Option Addr) (p0al : Nat) (p0ac : Nat) (p1ba : Option Addr) (p1bl : Nat) (p1bc : Nat) (w : World) (R : Value → World → Prop) : Prop :=
  br ((↑p0al : Int) != (↑p1bl : Int)) (R (Value.bool false) w)
  (∃ (x1 : arrS (shs [(5, S1.one (Cs.int IntKind.i64))]) (World → Prop)),
  ∃ (x2 : arrS (shs [(5, S1.one (Cs.int IntKind.i64))]) (World → Nat)),
  x1 0 w ∧
  ∀ (I1 : Nat → Value) (n1 : Int) (w1 : World),
  x1 n1 w1 →
  br (decide (n1 < (↑p0al : Int)))
  (∀ (w2 : World),
  drawn w1 w2 →
  ∃ (I2 : World → Prop),
  I2 w2 ∧
  idx p0aa p0al n1 1 fun (a1 : Addr) =>
  ∃ (b1 : Bool),
  (∀ (w3 : World), I2 w3 → World.cell? w3 a1 = some (Value.bool b1)) ∧
  idx p1ba p1bl n1 1 fun (a2 : Addr) =>
  ∃ (b2 : Bool),
  (∀ (w4 : World), I2 w4 → World.cell? w4 a2 = some (Value.bool b2)) ∧
  br (!b1 == b2) (R (Value.bool false) w2) (inI (n1 + 1) ∧ x1 (n1 + 1) w2 ∧ x2 (n1 + 1) w2 < x2 n1 w1))
  (R (Value.bool true) w1))
set_option maxRecDepth 100000 in
theorem run_presagelaw07_sameBools (p0aa : Option Addr) (p0al : Nat) (p0ac : Nat) (p1ba : Option Addr) (p1bl : Nat) (p1bc : Nat) (w : World) (R : Value → World → Prop) (h : vc_presagelaw07_sameBools p0aa p0al p0ac p1ba p1bl p1bc w R) : Run Tryd.prog 17 [(.slice p0aa p0al p0ac), (.slice p1ba p1bl p1bc)] w R :=
  run_ev tyOk fnOk mixed Tryd.func17 ann_presagelaw07_sameBools ((by kernel_rfl : fnV Tryd.prog Ty Fn Ev ann_presagelaw07_sameBools Tryd.f17 [(.slice p0aa p0al p0ac), (.slice p1ba p1bl p1bc)] w R = vc_presagelaw07_sameBools p0aa p0al p0ac p1ba p1bl p1bc w R) ▸ h)

/- presage/presagelaw07.both -/
abbrev n_presagelaw07_both : FuncId := 27
def ann_presagelaw07_both : Ann := { rngs := [], loops := [(3, [(5, (.one .slice)), (6, (.one (.int .i64)))]), (7, [(7, (.one .bool)), (8, (.one (.int .i64)))]), (11, [(7, (.one .bool)), (9, (.one (.int .i64)))])], joins := [], blocks := [] }
set_option maxRecDepth 100000 in
def vc_presagelaw07_both (p0aa : Option Addr) (p0al : Nat) (p0ac : Nat) (p1ba : Option Addr) (p1bl : Nat) (p1bc : Nat) (w : World) (R : Value → World → Prop) : Prop :=
  ∃ (x1 : arrS (shs [(5, S1.one Cs.slice), (6, S1.one (Cs.int IntKind.i64))]) (World → Prop)),
  ∃ (x2 : arrS (shs [(5, S1.one Cs.slice), (6, S1.one (Cs.int IntKind.i64))]) (World → Nat)),
  x1 none 0 0 0 w ∧
  ∀ (I1 : Nat → Value) (o1 : Option Addr) (k1 k2 : Nat) (n1 : Int) (w1 : World),
  x1 o1 k1 k2 n1 w1 →
  br (decide (n1 < 65))
  (∃ (x3 : arrS (shs [(7, S1.one Cs.bool), (8, S1.one (Cs.int IntKind.i64))]) (World → Prop)),
  ∃ (x4 : arrS (shs [(7, S1.one Cs.bool), (8, S1.one (Cs.int IntKind.i64))]) (World → Nat)),
  x3 false 0 w1 ∧
  ∀ (I2 : Nat → Value) (b1 : Bool) (n2 : Int) (w2 : World),
  x3 b1 n2 w2 →
  br (decide (n2 < (↑p0al : Int)))
  (br b1 (inI (n2 + 1) ∧ x3 true (n2 + 1) w2 ∧ x4 true (n2 + 1) w2 < x4 b1 n2 w2)
  (idx p0aa p0al n2 1 fun (a1 : Addr) =>
  ∃ (n3 : Int), World.cell? w2 a1 = some (Value.int IntKind.i64 n3) ∧ inI (n2 + 1) ∧ x3 (n3 == n1) (n2 + 1) w2 ∧ x4 (n3 == n1) (n2 + 1) w2 < x4 b1 n2 w2))
  (∃ (x5 : arrS (shs [(7, S1.one Cs.bool), (9, S1.one (Cs.int IntKind.i64))]) (World → Prop)),
  ∃ (x6 : arrS (shs [(7, S1.one Cs.bool), (9, S1.one (Cs.int IntKind.i64))]) (World → Nat)),
  x5 b1 0 w2 ∧
  ∀ (I3 : Nat → Value) (b2 : Bool) (n4 : Int) (w3 : World),
  x5 b2 n4 w3 →
  br (decide (n4 < (↑p1bl : Int)))
  (br b2 (inI (n4 + 1) ∧ x5 true (n4 + 1) w3 ∧ x6 true (n4 + 1) w3 < x6 b2 n4 w3)
  (idx p1ba p1bl n4 1 fun (a2 : Addr) =>
  ∃ (n5 : Int),
  World.cell? w3 a2 = some (Value.int IntKind.i64 n5) ∧ inI (n4 + 1) ∧ x5 (n5 == n1) (n4 + 1) w3 ∧ x6 (n5 == n1) (n4 + 1) w3 < x6 b2 n4 w3))
  (br b2
  (new w3 (Obj.cells (Array.mk [Value.int IntKind.i64 n1]) 3) fun (k3 : Nat) (w4 : World) =>
  RunS Proofs.Tryd.prog (Builtin.append_ (Array.mk [24, 24]) 24 (Array.mk [Value.slice o1 k1 k2, Value.slice (some (Addr.mk k3 0 none)) 1 1]))
  w4 fun (v1 : Value) (w5 : World) =>
  ∃ (o2 : Option Addr),
  ∃ (k4 : Nat),
  ∃ (k5 : Nat), v1 = Value.slice o2 k4 k5 ∧ inI (n1 + 1) ∧ x1 o2 k4 k5 (n1 + 1) w5 ∧ x2 o2 k4 k5 (n1 + 1) w5 < x2 o1 k1 k2 n1 w1)
  (inI (n1 + 1) ∧ x1 o1 k1 k2 (n1 + 1) w3 ∧ x2 o1 k1 k2 (n1 + 1) w3 < x2 o1 k1 k2 n1 w1))))
  (R (Value.slice o1 k1 k2) w1)
set_option maxRecDepth 100000 in
theorem run_presagelaw07_both (p0aa : Option Addr) (p0al : Nat) (p0ac : Nat) (p1ba : Option Addr) (p1bl : Nat) (p1bc : Nat) (w : World) (R : Value → World → Prop) (h : vc_presagelaw07_both p0aa p0al p0ac p1ba p1bl p1bc w R) : Run Tryd.prog 27 [(.slice p0aa p0al p0ac), (.slice p1ba p1bl p1bc)] w R :=
  run_ev tyOk fnOk mixed Tryd.func27 ann_presagelaw07_both ((by kernel_rfl : fnV Tryd.prog Ty Fn Ev ann_presagelaw07_both Tryd.f27 [(.slice p0aa p0al p0ac), (.slice p1ba p1bl p1bc)] w R = vc_presagelaw07_both p0aa p0al p0ac p1ba p1bl p1bc w R) ▸ h)

/- presage/presagelaw07.small -/
abbrev n_presagelaw07_small : FuncId := 47
def ann_presagelaw07_small : Ann := { rngs := [], loops := [], joins := [], blocks := [] }
set_option maxRecDepth 100000 in
def vc_presagelaw07_small  (w : World) (R : Value → World → Prop) : Prop :=
  new w (Obj.cells (Array.mk [Value.slice none 0 0, Value.slice none 0 0, Value.slice none 0 0, Value.int IntKind.i64 0, Value.slice none 0 0]) 27) fun (k1 : Nat) (w1 : World) =>
  new w1
  (Obj.cells
  (Array.mk
  [Value.string (ByteArray.mk (Array.mk [])), Value.int IntKind.i64 0, Value.string (ByteArray.mk (Array.mk [120])), Value.int IntKind.i64 0,
  Value.string (ByteArray.mk (Array.mk [121])), Value.int IntKind.i64 0, Value.string (ByteArray.mk (Array.mk [122])), Value.int IntKind.i64 0])
  81)
  fun (k2 : Nat) (w2 : World) =>
  new w2 (Obj.cells (Array.mk [Value.string (ByteArray.mk (Array.mk [115])), Value.string (ByteArray.mk (Array.mk [97]))]) 9) fun (k3 : Nat) (w3 : World) =>
  new w3 (Obj.cells (Array.mk [Value.int IntKind.i64 5, Value.int IntKind.i64 4, Value.int IntKind.i64 1]) 3) fun (k4 : Nat) (w4 : World) =>
  new w4 (Obj.cells (Array.mk [Value.int IntKind.i64 2]) 3) fun (k5 : Nat) (w5 : World) =>
  new w5 (Obj.cells (Array.mk [Value.int IntKind.i64 3]) 3) fun (k6 : Nat) (w6 : World) =>
  new w6
  (Obj.cells
  (Array.mk
  [Value.int IntKind.i64 4, Value.slice (some (Addr.mk k4 0 none)) 3 3, Value.int IntKind.i64 0, Value.int IntKind.i64 4,
  Value.slice (some (Addr.mk k5 0 none)) 1 1, Value.int IntKind.i64 0, Value.int IntKind.i64 5, Value.slice none 0 0, Value.int IntKind.i64 0,
  Value.int IntKind.i64 5, Value.slice (some (Addr.mk k6 0 none)) 1 1, Value.int IntKind.i64 0])
  51)
  fun (k7 : Nat) (w7 : World) =>
  stR w7 (Addr.mk k1 0 none)
  [Value.slice (some (Addr.mk k2 0 none)) 4 4, Value.slice (some (Addr.mk k3 0 none)) 2 2, Value.slice none 0 0, Value.int IntKind.i64 4,
  Value.slice (some (Addr.mk k7 0 none)) 4 4]
  fun (w8 : World) =>
  ∃ (o1 : Option Addr),
  ∃ (k8 : Nat),
  ∃ (k9 : Nat),
  ∃ (o2 : Option Addr),
  ∃ (k10 : Nat),
  ∃ (k11 : Nat),
  ∃ (o3 : Option Addr),
  ∃ (k12 : Nat),
  ∃ (k13 : Nat),
  ∃ (n1 : Int),
  ∃ (o4 : Option Addr),
  ∃ (k14 : Nat),
  ∃ (k15 : Nat),
  V.rowAt w8 (Addr.mk k1 0 none) 0 5 =
  some [Value.slice o1 k8 k9, Value.slice o2 k10 k11, Value.slice o3 k12 k13, Value.int IntKind.i64 n1, Value.slice o4 k14 k15] ∧
  R
  (Value.agg
  (Array.mk [Value.slice o1 k8 k9, Value.slice o2 k10 k11, Value.slice o3 k12 k13, Value.int IntKind.i64 n1, Value.slice o4 k14 k15]))
  w8
set_option maxRecDepth 100000 in
theorem run_presagelaw07_small  (w : World) (R : Value → World → Prop) (h : vc_presagelaw07_small  w R) : Run Tryd.prog 47 [] w R :=
  run_ev tyOk fnOk mixed Tryd.func47 ann_presagelaw07_small ((by kernel_rfl : fnV Tryd.prog Ty Fn Ev ann_presagelaw07_small Tryd.f47 [] w R = vc_presagelaw07_small  w R) ▸ h)

end Go.Proofs.YtaheggomcnbbiaaDoor
/- What rows begin with (1): a row lays down its sets. -/
set_option linter.unusedVariables false
namespace Go.V
/- what is laid down: nl tells what vanishes, vs are the symbols' sets -/
def rowB (nl : List Bool) (vs : List (List Bool)) : List Bool → List Int → List Bool
  | bs, [] => bs
  | bs, s :: r => if fnB nl s.toNat then rowB nl vs (addB bs (mbI (vs.getD s.toNat []))) r else addB bs (mbI (vs.getD s.toNat []))
def rowN (nl : List Bool) (row : List Int) : Bool := row.all fun s => fnB nl s.toNat
theorem rowB_nil (nl : List Bool) (vs : List (List Bool)) (bs : List Bool) : rowB nl vs bs [] = bs := rfl
theorem rowB_cons (nl : List Bool) (vs : List (List Bool)) (bs : List Bool) (s : Int) (r : List Int) : rowB nl vs bs (s :: r) = if fnB nl s.toNat then rowB nl vs (addB bs (mbI (vs.getD s.toNat []))) r else addB bs (mbI (vs.getD s.toNat [])) := rfl
theorem rowB_len (nl : List Bool) (vs : List (List Bool)) : ∀ (row : List Int) (bs : List Bool), (rowB nl vs bs row).length = bs.length
  | [], bs => rfl
  | s :: r, bs => by
    unfold rowB
    split
    · rw [rowB_len nl vs r, addB_len]
    · rw [addB_len]
theorem fnB_rowB_sub (nl : List Bool) (vs : List (List Bool)) : ∀ (row : List Int) (bs : List Bool) (k : Nat), fnB bs k = true → fnB (rowB nl vs bs row) k = true
  | [], bs, k, h => h
  | s :: r, bs, k, h => by
    unfold rowB
    have : fnB (addB bs (mbI (vs.getD s.toNat []))) k = true := by rw [fnB_add_mb, h]; rfl
    split
    · exact fnB_rowB_sub nl vs r _ k this
    · exact this
theorem cntB_rowB (nl : List Bool) (vs : List (List Bool)) : ∀ (row : List Int) (bs : List Bool), cntB bs ≤ cntB (rowB nl vs bs row)
  | [], bs => Nat.le_refl _
  | s :: r, bs => by
    unfold rowB
    split
    · exact Nat.le_trans (cntB_add _ _) (cntB_rowB nl vs r _)
    · exact cntB_add _ _
end Go.V
namespace Go.Proofs.YtaheggomcnbbiaaDoor
open Go.V
section
variable {w : World} {L : List Asn} {a an ao : Option Addr} {l c nl cn ol co ks : Nat} {p : Option Addr} {bs nulls : List Bool} {row : List Int} {os : List (Option Addr)} {vss : List (List Bool)} {gs : List Value}
set_option maxHeartbeats 1000000 in
theorem f_row (h : St w (setO p bs :: L)) (hs : ∀ h, starL L h → rowH h ⟨ks, 0, none⟩ (gs ++ [.slice an nl cn, .slice ao ol co])) (hgs : gs.length = 5) (hn : ∀ h, starL L h → rdS h nulls an nl) (ho : ∀ h, starL L h → rdS h os ao ol) (hv : vss.length = os.length) (hno : nulls.length = os.length)
    (hq : ∀ h, starL L h → ∀ (i : Nat) q v, os[i]? = some q → vss[i]? = some v → setR h q v ∨ (q = p ∧ v = bs)) (ht : ∀ h, starL L h → tabA h)
    (hr : ∀ h, starL L h → rdS h row a l) (hin : ∀ s ∈ row, 0 ≤ s ∧ s.toNat < os.length) (hb : l ≤ 4611686018427387904) :
    Run Tryd.prog n_first_sets_row [.pointer (some ⟨ks, 0, none⟩), .pointer p, .slice a l c] w fun v w' => v = .tuple #[.int .i64 ((cntB (rowB nulls vss bs row) : Int) - cntB bs), .bool (rowN nulls row)] ∧ St w' (setO p (rowB nulls vss bs row) :: L) := by
  obtain ⟨h0, hl, _, h1⟩ := h.freeze
  have hs := hs h0 hl
  have hn := hn h0 hl
  have ho := ho h0 hl
  have hq := hq h0 hl
  have ht : tabA h0 := ht h0 hl
  have hr := hr h0 hl
  have hn1 := h.setR.le
  have done : ∀ w' b, St w' (setO p b :: [has h0]) → St w' (setO p b :: L) := fun w' b h => h.on1 hl
  clear h hl
  have c5 : ∀ w', sub h0 (hp w') → w'.cell? ((⟨ks, 0, none⟩ : Addr).add 5) = some (.slice an nl cn) := fun w' s => hs.cell s (j := 5) (by rw [List.getElem?_append_right (by omega), hgs]; rfl)
  have c6 : ∀ w', sub h0 (hp w') → w'.cell? ((⟨ks, 0, none⟩ : Addr).add 6) = some (.slice ao ol co) := fun w' s => hs.cell s (j := 6) (by rw [List.getElem?_append_right (by omega), hgs]; rfl)
  refine run_first_sets_row _ _ _ _ _ w _ ?_
  refine ⟨fun n1 n2 w' => ∃ (j : Nat) (U : List Bool), n2 = j ∧ j ≤ l ∧ n1 = (cntB U : Int) - cntB bs ∧ cntB bs ≤ cntB U ∧ U.length = bs.length ∧ (∀ k, fnB bs k = true → fnB U k = true) ∧ rowB nulls vss bs row = rowB nulls vss U (row.drop j) ∧ rowN nulls row = rowN nulls (row.drop j) ∧ St w' [setO p U, has h0], fun _ n2 _ => l - n2.toNat, ⟨0, bs, rfl, by omega, by omega, Nat.le_refl _, rfl, fun _ h => h, by simp, by simp, h1⟩, ?_⟩
  clear h1
  rintro _ _ n2 w1 ⟨j, U, rfl, hj, rfl, hcU, hlU, hsub, e1, e2, h⟩
  have s1 : sub h0 (hp w1) := (h.pick 2 [1]).has
  have k1 := cntB_le U
  refine br_intro (fun hlt => ?_) fun hlt => ?_
  · have hlt : j < l := by have := of_decide_eq_true hlt; omega
    obtain ⟨y, ad, hy1, hya, hy2⟩ := hr.get1 hlt
    obtain ⟨y0, yl⟩ := hin y (List.mem_of_getElem? hy1)
    obtain ⟨q, ad2, hq1, hqa, hq2⟩ := ho.get1 (i := y.toNat) (by have := ho.1; omega)
    obtain ⟨v, hv1⟩ : ∃ v, vss[y.toNat]? = some v := ⟨vss[y.toNat]'(by omega), List.getElem?_eq_getElem _⟩
    obtain ⟨z, ad3, hz1, hza, hz2⟩ := hn.get1 (i := y.toNat) (by have := hn.1; omega)
    have hvd : vss.getD y.toNat [] = v := by simp [List.getD, hv1]
    have hzd : fnB nulls y.toNat = z := by simp [fnB, List.getD, hz1]
    have ed : row.drop j = y :: row.drop (j + 1) := by
      have := List.drop_eq_getElem_cons (l := row) (i := j) (by rw [hr.1]; exact hlt)
      rw [this]; congr 1
      have := List.getElem?_eq_some_iff.1 hy1; exact this.2
    refine idx_i hya hlt ⟨y, hy2 _ s1, _, _, _, c6 _ s1, ?_⟩
    have ey : y = ((y.toNat : Nat) : Int) := by omega
    rw [ey]
    refine idx_i hqa (by have := ho.1; omega) ⟨q, hq2 _ s1, newC_i h fun b2 w2 h2 => ?_⟩
    have hq' := hq _ _ _ hq1 hv1
    obtain ⟨v', hr', he'⟩ : ∃ v', (∀ h, starL [cel b2 [.pointer q], has h0] h → setR h q v' ∨ (q = p ∧ v' = U)) ∧ addB U (mbI v') = addB U (mbI v) := by
      rcases hq' with hr | ⟨rfl, rfl⟩
      · exact ⟨v, fun h hh => .inl (hr.mono (starL_in (A := has h0) (List.mem_cons_of_mem _ (List.mem_singleton_self _)) hh |>.elim fun h1 x => x.2.trans x.1)), rfl⟩
      · exact ⟨U, fun h hh => .inr ⟨rfl, rfl⟩, by rw [addB_self fun _ h => h, addB_self hsub]⟩
    refine (s_Union (vss := [v']) (os := [q]) (l := 1) (h2.pick 3 [1, 0, 2]) (fun h hh => ?_) rfl (fun h hh i q' w' hi hw => ?_) (fun h hh => ?_) (by omega)).mono ?_
    · obtain ⟨h1, _, _, s1, _, ⟨e, he⟩, _⟩ := hh
      exact (rdS_of_row (xs := [q]) rfl (.inr ⟨_, rfl, cel_row ⟨e, he⟩⟩)).mono s1
    · match i, hi, hw with
      | 0, hi, hw => cases hi; cases hw; exact hr' h hh
      | i + 1, hi, _ => simp at hi
    · exact rdV.mono (starL_in (A := has h0) (List.mem_cons_of_mem _ (List.mem_singleton_self _)) hh |>.elim fun h1 x => x.2.trans x.1) ht
    rintro _ w3 ⟨rfl, h3⟩
    have eU : unionB U [v'] = addB U (mbI v) := he'
    rw [eU] at h3 ⊢
    have h3 := h3.pick 3 [0, 2]
    have s3 : sub h0 (hp w3) := (h3.pick 2 [1]).has
    have k2 := cntB_add U (mbI v)
    have k3 := cntB_le (addB U (mbI v))
    rw [addB_len] at k3
    rw [ed] at e1 e2
    rw [rowB_cons, hvd, hzd] at e1
    rw [show rowN nulls (y :: row.drop (j + 1)) = (z && rowN nulls (row.drop (j + 1))) from by unfold rowN; rw [List.all_cons, hzd]] at e2
    refine ⟨_, rfl, ⟨by omega, by omega⟩, _, _, _, c5 _ s3, ?_⟩
    refine idx_i hza (by have := hn.1; omega) ⟨z, hz2 _ s3, br_intro (fun h4 => ?_) fun h4 => ?_⟩
    · have h4 : z = false := by simpa using h4
      subst h4
      simp only [Bool.false_eq_true, if_false] at e1
      refine ⟨?_, ?_⟩
      · rw [e1, e2, Bool.false_and, show (cntB U : Int) - cntB bs + ((cntB (addB U (mbI v)) : Int) - cntB U) = (cntB (addB U (mbI v)) : Int) - cntB bs from by omega]
      · rw [e1]; exact done _ _ h3
    · have h4 : z = true := by simpa using h4
      subst h4
      simp only [if_true] at e1
      rw [Bool.true_and] at e2
      refine ⟨⟨by omega, by omega⟩, ⟨j + 1, addB U (mbI v), by simp, by omega, by omega, by omega, by rw [addB_len]; exact hlU, fun k hk => by rw [fnB_add_mb, hsub k hk]; rfl, e1, e2, h3⟩, msr hlt⟩
  · have hlt : j = l := by have := of_decide_eq_false hlt; omega
    subst hlt
    rw [List.drop_of_length_le (by have := hr.1; omega)] at e1 e2
    rw [rowB_nil] at e1
    refine ⟨?_, ?_⟩
    · rw [e1, e2]; rfl
    · rw [e1]; exact done _ _ h
end
end Go.Proofs.YtaheggomcnbbiaaDoor
/- What rows begin with (2): by rules; a closed state of sound marks has them all. -/
set_option linter.unusedVariables false
namespace Go.V
inductive Nul (g : GramT) : Int → Prop
  | mk (p : ProdT) : p ∈ g.prods → (∀ s ∈ p.right, Nul g s) → Nul g p.left
inductive Fst (g : GramT) : Int → Nat → Prop
  | tm (t : Nat) : t < g.T → Fst g (t : Int) t
  | pr (p : ProdT) (i : Nat) (s : Int) (t : Nat) : p ∈ g.prods → p.right[i]? = some s → (∀ x ∈ p.right.take i, Nul g x) → Fst g s t → Fst g p.left t
/- of rows -/
def NulR (g : GramT) (row : List Int) : Prop := ∀ s ∈ row, Nul g s
def FstR (g : GramT) (row : List Int) (t : Nat) : Prop := ∃ (i : Nat) (s : Int), row[i]? = some s ∧ (∀ x ∈ row.take i, Nul g x) ∧ Fst g s t
theorem rowN_iff {nl : List Bool} {row : List Int} : rowN nl row = true ↔ ∀ s ∈ row, fnB nl s.toNat = true := by
  unfold rowN; rw [List.all_eq_true]
theorem fnB_rowB (nl : List Bool) (vs : List (List Bool)) : ∀ (row : List Int) (bs : List Bool) (k : Nat), fnB (rowB nl vs bs row) k = true ↔ fnB bs k = true ∨ (k < bs.length ∧ ∃ (i : Nat) (s : Int), row[i]? = some s ∧ (∀ x ∈ row.take i, fnB nl x.toNat = true) ∧ fnB (vs.getD s.toNat []) k = true)
  | [], bs, k => by rw [rowB_nil]; simp
  | s :: r, bs, k => by
    rw [rowB_cons]
    constructor
    · intro h
      by_cases hz : fnB nl s.toNat = true
      · rw [if_pos hz, fnB_rowB nl vs r] at h
        rw [fnB_add_mb, addB_len, Bool.or_eq_true, Bool.and_eq_true, decide_eq_true_eq] at h
        rcases h with (h | ⟨h1, h2⟩) | ⟨h1, i, y, h2, h3, h4⟩
        · exact .inl h
        · exact .inr ⟨h1, 0, s, rfl, by simp, h2⟩
        · refine .inr ⟨h1, i + 1, y, h2, ?_, h4⟩
          intro x hx
          rw [List.take_succ_cons] at hx
          rcases List.mem_cons.1 hx with rfl | hx
          · exact hz
          · exact h3 x hx
      · rw [if_neg hz, fnB_add_mb, Bool.or_eq_true, Bool.and_eq_true, decide_eq_true_eq] at h
        rcases h with h | ⟨h1, h2⟩
        · exact .inl h
        · exact .inr ⟨h1, 0, s, rfl, by simp, h2⟩
    · intro h
      have hu : (fnB bs k = true ∨ (k < bs.length ∧ fnB (vs.getD s.toNat []) k = true)) → fnB (addB bs (mbI (vs.getD s.toNat []))) k = true := fun h => by
        rw [fnB_add_mb, Bool.or_eq_true, Bool.and_eq_true, decide_eq_true_eq]; exact h
      by_cases hz : fnB nl s.toNat = true
      · rw [if_pos hz, fnB_rowB nl vs r, addB_len]
        rcases h with h | ⟨h1, i, y, h2, h3, h4⟩
        · exact .inl (hu (.inl h))
        · match i, h2, h3 with
          | 0, h2, _ => cases h2; exact .inl (hu (.inr ⟨h1, h4⟩))
          | i + 1, h2, h3 => exact .inr ⟨h1, i, y, h2, fun x hx => h3 x (by rw [List.take_succ_cons]; exact List.mem_cons_of_mem _ hx), h4⟩
      · rw [if_neg hz]
        rcases h with h | ⟨h1, i, y, h2, h3, h4⟩
        · exact hu (.inl h)
        · match i, h2, h3 with
          | 0, h2, _ => cases h2; exact hu (.inr ⟨h1, h4⟩)
          | i + 1, h2, h3 => exact absurd (h3 s (by rw [List.take_succ_cons]; exact List.mem_cons_self)) hz
/- a grammar whose productions speak of its symbols -/
def InG (g : GramT) : Prop := ∀ p ∈ g.prods, ((g.T : Int) ≤ p.left ∧ p.left < g.T + g.N) ∧ ∀ s ∈ p.right, 0 ≤ s ∧ s < (g.T : Int) + g.N
/- marks: their sizes; sound; closed under a production -/
structure MkF (g : GramT) (nl : List Bool) (vs : List (List Bool)) : Prop where
  ln : nl.length = g.T + g.N
  lv : vs.length = g.T + g.N
  le : ∀ v ∈ vs, v.length = g.T
  sn : ∀ i, fnB nl i = true → Nul g (i : Int)
  sv : ∀ i t, fnB (vs.getD i []) t = true → Fst g (i : Int) t
  tm : ∀ t, t < g.T → fnB (vs.getD t []) t = true
def ClP (nl : List Bool) (vs : List (List Bool)) (p : ProdT) : Prop := (rowN nl p.right = true → fnB nl p.left.toNat = true) ∧ rowB nl vs (vs.getD p.left.toNat []) p.right = vs.getD p.left.toNat []
theorem toNat_back {s : Int} (h : 0 ≤ s) : ((s.toNat : Nat) : Int) = s := by omega
theorem MkF.row {g : GramT} {nl : List Bool} {vs : List (List Bool)} (m : MkF g nl vs) {row : List Int} (hr : ∀ s ∈ row, 0 ≤ s ∧ s < (g.T : Int) + g.N) : (rowN nl row = true → NulR g row) ∧ ∀ bs t, fnB (rowB nl vs bs row) t = true → fnB bs t = true ∨ FstR g row t := by
  refine ⟨fun h s hs => ?_, fun bs t h => ?_⟩
  · have := m.sn _ (rowN_iff.1 h s hs)
    rwa [toNat_back (hr s hs).1] at this
  · rcases (fnB_rowB nl vs row bs t).1 h with h | ⟨_, i, s, h1, h2, h3⟩
    · exact .inl h
    · refine .inr ⟨i, s, h1, fun x hx => ?_, ?_⟩
      · have := m.sn _ (h2 x hx)
        rwa [toNat_back (hr x (List.mem_of_mem_take hx)).1] at this
      · have := m.sv _ _ h3
        rwa [toNat_back (hr s (List.mem_of_getElem? h1)).1] at this
theorem Nul.left {g : GramT} (hg : InG g) {s : Int} (h : Nul g s) : (g.T : Int) ≤ s ∧ s < g.T + g.N := by
  cases h with | mk p hp _ => exact (hg p hp).1
theorem Fst.lt {g : GramT} {s : Int} {t : Nat} (h : Fst g s t) : t < g.T := by
  induction h with
  | tm t h => exact h
  | pr p i s t _ _ _ _ ih => exact ih
/- all there is -/
structure AllF (g : GramT) (nl : List Bool) (vs : List (List Bool)) : Prop where
  ln : nl.length = g.T + g.N
  lv : vs.length = g.T + g.N
  le : ∀ v ∈ vs, v.length = g.T
  nn : ∀ i, fnB nl i = true ↔ Nul g (i : Int)
  nv : ∀ i t, fnB (vs.getD i []) t = true ↔ Fst g (i : Int) t
theorem MkF.getD_len {g : GramT} {nl : List Bool} {vs : List (List Bool)} (m : MkF g nl vs) {i : Nat} (hi : i < g.T + g.N) : (vs.getD i []).length = g.T := by
  have h : vs[i]? = some (vs[i]'(by rw [m.lv]; exact hi)) := List.getElem?_eq_getElem _
  rw [List.getD, h]
  exact m.le _ (List.mem_of_getElem? h)
theorem MkF.all {g : GramT} {nl : List Bool} {vs : List (List Bool)} (hg : InG g) (m : MkF g nl vs) (hc : ∀ p ∈ g.prods, ClP nl vs p) : AllF g nl vs := by
  have cn : ∀ s, Nul g s → fnB nl s.toNat = true := fun s h => by
    induction h with
    | mk p hp _ ih => exact (hc p hp).1 (rowN_iff.2 ih)
  have cv : ∀ s t, Fst g s t → fnB (vs.getD s.toNat []) t = true := fun s t h => by
    induction h with
    | tm t h => exact m.tm t h
    | pr p i s t hp hi hx hs ih =>
      have hl := (hg p hp).1
      rw [← (hc p hp).2, fnB_rowB]
      exact .inr ⟨by rw [m.getD_len (by omega)]; exact hs.lt, i, s, hi, fun x hx' => cn x (hx x hx'), ih⟩
  exact ⟨m.ln, m.lv, m.le, fun i => ⟨m.sn i, fun h => cn _ h⟩, fun i t => ⟨m.sv i t, fun h => cv _ _ h⟩⟩
/- what a row lays down then -/
theorem AllF.row {g : GramT} {nl : List Bool} {vs : List (List Bool)} (m : AllF g nl vs) {row : List Int} (hr : ∀ s ∈ row, 0 ≤ s ∧ s < (g.T : Int) + g.N) : (rowN nl row = true ↔ NulR g row) ∧ ∀ bs t, fnB (rowB nl vs bs row) t = true ↔ fnB bs t = true ∨ (t < bs.length ∧ FstR g row t) := by
  refine ⟨?_, fun bs t => ?_⟩
  · rw [rowN_iff]
    refine forall_congr' fun s => ⟨fun h hs => ?_, fun h hs => ?_⟩
    · have := (m.nn _).1 (h hs); rwa [toNat_back (hr s hs).1] at this
    · exact (m.nn _).2 (by rw [toNat_back (hr s hs).1]; exact h hs)
  · rw [fnB_rowB]
    refine or_congr Iff.rfl (and_congr Iff.rfl (exists_congr fun i => exists_congr fun s => ?_))
    refine ⟨fun ⟨h1, h2, h3⟩ => ⟨h1, fun x hx => ?_, ?_⟩, fun ⟨h1, h2, h3⟩ => ⟨h1, fun x hx => ?_, ?_⟩⟩
    · have := (m.nn _).1 (h2 x hx); rwa [toNat_back (hr x (List.mem_of_mem_take hx)).1] at this
    · have := (m.nv _ _).1 h3; rwa [toNat_back (hr s (List.mem_of_getElem? h1)).1] at this
    · exact (m.nn _).2 (by rw [toNat_back (hr x (List.mem_of_mem_take hx)).1]; exact h2 x hx)
    · exact (m.nv _ _).2 (by rw [toNat_back (hr s (List.mem_of_getElem? h1)).1]; exact h3)
/- how much is open yet -/
def opn (v : List Bool) : Nat := v.length - cntB v
def meas (nl : List Bool) (vs : List (List Bool)) : Nat := opn nl + (vs.map opn).sum
theorem sum_set : ∀ {l : List Nat} {k x y : Nat}, l[k]? = some x → (l.set k y).sum + x = l.sum + y
  | [], k, x, y, h => by simp at h
  | z :: l, 0, x, y, h => by simp at h; subst h; simp; omega
  | z :: l, k + 1, x, y, h => by
    have := sum_set (l := l) (k := k) (x := x) (y := y) (by simpa using h)
    simp; omega
theorem meas_set {nl : List Bool} {vs : List (List Bool)} {k : Nat} {v v' : List Bool} (h : vs[k]? = some v) (hl : v'.length = v.length) (hc : cntB v ≤ cntB v') : meas nl (vs.set k v') + (cntB v' - cntB v) = meas nl vs := by
  have h1 := sum_set (l := vs.map opn) (k := k) (x := opn v) (y := opn v') (by rw [List.getElem?_map, h]; rfl)
  have h2 := cntB_le v
  have h3 := cntB_le v'
  unfold meas
  rw [List.map_set]
  unfold opn at *
  omega
end Go.V
/- What rows begin with (3): one step of a round, plainly; measures that a state has. -/
set_option linter.unusedVariables false
namespace Go.V
theorem exists_least {P : Nat → Prop} (h : ∃ m, P m) : ∃ m, P m ∧ ∀ k, P k → m ≤ k := by
  obtain ⟨m, hm⟩ := h
  induction m using Nat.strongRecOn with
  | _ m ih =>
    by_cases hl : ∃ k, k < m ∧ P k
    · obtain ⟨k, hk, hp⟩ := hl
      exact ih k hk hp
    · exact ⟨m, hm, fun k hk => Nat.le_of_not_lt fun hlt => hl ⟨k, hlt, hk⟩⟩
theorem least_fn {α : Type} (P : α → Nat → Prop) : ∃ μ : α → Nat, (∀ x m, P x m → μ x ≤ m) ∧ ∀ x, (∃ m, P x m) → P x (μ x) := by
  have h : ∀ x, ∃ m, (∀ k, P x k → m ≤ k) ∧ ((∃ k, P x k) → P x m) := fun x => by
    by_cases hx : ∃ k, P x k
    · obtain ⟨m, h1, h2⟩ := exists_least hx
      exact ⟨m, h2, fun _ => h1⟩
    · exact ⟨0, fun k hk => absurd ⟨k, hk⟩ hx, fun h => absurd h hx⟩
  exact ⟨fun x => (h x).choose, fun x => (h x).choose_spec.1, fun x => (h x).choose_spec.2⟩
theorem cnt_mono2 {m m' : Nat → Bool} (h : ∀ k, m k = true → m' k = true) : ∀ n, cnt n m ≤ cnt n m' ∧ (cnt n m = cnt n m' → ∀ k, k < n → m k = m' k)
  | 0 => ⟨Nat.le_refl _, fun _ k hk => by omega⟩
  | n + 1 => by
    obtain ⟨h1, h2⟩ := cnt_mono2 h n
    rw [cnt_succ, cnt_succ]
    have h3 := h n
    cases e : m n <;> cases e' : m' n
    · refine ⟨by simpa using h1, fun he k hk => ?_⟩
      by_cases ek : k = n
      · subst ek; rw [e, e']
      · exact h2 (by simpa using he) k (by omega)
    · simp only [Bool.false_eq_true, if_false, if_true]
      exact ⟨by omega, fun he => by omega⟩
    · rw [e, e'] at h3; simp at h3
    · refine ⟨by simpa using h1, fun he k hk => ?_⟩
      by_cases ek : k = n
      · subst ek; rw [e, e']
      · exact h2 (by simpa using he) k (by omega)
theorem cntB_inj {bs cs : List Bool} (hl : cs.length = bs.length) (hs : ∀ k, fnB bs k = true → fnB cs k = true) (hc : cntB cs = cntB bs) : cs = bs := by
  refine fnB_inj hl fun k => ?_
  by_cases hk : k < bs.length
  · unfold cntB at hc
    rw [hl] at hc
    exact ((cnt_mono2 hs bs.length).2 hc.symm k hk).symm
  · rw [fnB_out (by omega), fnB_out (by omega)]
theorem fnB_setT {nl : List Bool} {k : Nat} (hk : k < nl.length) (j : Nat) : fnB (nl.set k true) j = (fnB nl j || j == k) := by
  unfold fnB
  rw [List.getD_eq_getElem?_getD, List.getD_eq_getElem?_getD, List.getElem?_set]
  by_cases e : k = j
  · subst e; simp [hk]
  · have : ¬ j = k := fun h => e h.symm
    simp [e, this]
theorem opn_set {nl : List Bool} {k : Nat} (hk : k < nl.length) (hf : fnB nl k = false) : opn (nl.set k true) + 1 = opn nl := by
  have h1 : cntB (nl.set k true) = cntB nl + 1 := by
    unfold cntB
    rw [List.length_set, ← cnt_add hk hf]
    exact cnt_congr fun j _ => fnB_setT hk j
  have h2 := cntB_le (nl.set k true)
  rw [List.length_set] at h2
  unfold opn
  rw [List.length_set]
  omega
theorem getD_setV {vs : List (List Bool)} {k : Nat} (hk : k < vs.length) (v : List Bool) (j : Nat) : (vs.set k v).getD j [] = if j = k then v else vs.getD j [] := by
  rw [List.getD_eq_getElem?_getD, List.getD_eq_getElem?_getD, List.getElem?_set]
  by_cases e : k = j
  · subst e; simp [hk]
  · have : ¬ j = k := fun h => e h.symm
    simp [e, this]
/- a row's sets laid down -/
theorem MkF.lay {g : GramT} (hg : InG g) {nl : List Bool} {vs : List (List Bool)} (m : MkF g nl vs) {p : ProdT} (hp : p ∈ g.prods) : MkF g nl (vs.set p.left.toNat (rowB nl vs (vs.getD p.left.toNat []) p.right)) := by
  obtain ⟨hl, hr⟩ := hg p hp
  have hk : p.left.toNat < g.T + g.N := by omega
  have hkv : p.left.toNat < vs.length := by rw [m.lv]; exact hk
  refine ⟨m.ln, by rw [List.length_set]; exact m.lv, fun v hv => ?_, m.sn, fun i t h => ?_, fun t ht => ?_⟩
  · rcases List.mem_or_eq_of_mem_set hv with hv | rfl
    · exact m.le v hv
    · rw [rowB_len]; exact m.getD_len hk
  · rw [getD_setV hkv] at h
    split at h
    · rename_i e
      subst e
      rw [toNat_back (by omega)]
      rcases (m.row hr).2 _ _ h with h | ⟨i, s, h1, h2, h3⟩
      · have := m.sv _ _ h; rwa [toNat_back (by omega)] at this
      · exact .pr p i s t hp h1 h2 h3
    · exact m.sv _ _ h
  · rw [getD_setV hkv]
    split
    · omega
    · exact m.tm t ht
theorem MkF.van {g : GramT} (hg : InG g) {nl : List Bool} {vs : List (List Bool)} (m : MkF g nl vs) {p : ProdT} (hp : p ∈ g.prods) (hn : NulR g p.right) : MkF g (nl.set p.left.toNat true) vs := by
  obtain ⟨hl, hr⟩ := hg p hp
  have hk : p.left.toNat < nl.length := by rw [m.ln]; omega
  refine ⟨by rw [List.length_set]; exact m.ln, m.lv, m.le, fun i h => ?_, m.sv, m.tm⟩
  rw [fnB_setT hk, Bool.or_eq_true, beq_iff_eq] at h
  rcases h with h | rfl
  · exact m.sn i h
  · rw [toNat_back (by omega)]; exact .mk p hp hn
theorem meas_le {g : GramT} {nl : List Bool} {vs : List (List Bool)} (m : MkF g nl vs) : meas nl vs ≤ (g.T + g.N) + (g.T + g.N) * g.T := by
  unfold meas
  have h1 : opn nl ≤ g.T + g.N := by unfold opn; rw [m.ln]; omega
  have h2 : ∀ l : List (List Bool), (∀ v ∈ l, v.length = g.T) → (l.map opn).sum ≤ l.length * g.T := fun l => by
    induction l with
    | nil => intro _; simp
    | cons v l ih =>
      intro h
      have h3 := ih fun u hu => h u (List.mem_cons_of_mem _ hu)
      have h4 : opn v ≤ g.T := by unfold opn; rw [h v List.mem_cons_self]; omega
      simp only [List.map_cons, List.sum_cons, List.length_cons, Nat.succ_mul]
      omega
  have h3 := h2 vs m.le
  rw [m.lv] at h3
  omega
theorem inG {g : GramT} (h : EitherP g) : InG g ∧ g.T ≤ 65 ∧ g.N ≤ 65 ∧ 0 < g.N ∧ 0 < g.T ∧ g.prods.length ≤ 97 := by
  have hT : g.T = g.terms.length := rfl
  have hN : g.N = g.nons.length := rfl
  rcases h with ⟨s, p, _⟩ | ⟨h0, s, p, q, hq, q1, q2, q3⟩
  · have h2 := syms_iff.1 s
    have t0 : 0 < g.terms.length := (List.getElem?_eq_some_iff.1 s.1).1
    refine ⟨fun r hr => ?_, by omega, by omega, by omega, by omega, by have := p.2.1; omega⟩
    have := p.2.2.1 r hr
    exact ⟨⟨by have := this.1.1; omega, this.1.2.1⟩, fun y hy => by have := this.2 y hy; unfold symOk at this; omega⟩
  · have h2 := syms_iff.1 s
    have t0 : 0 < g.terms.length := (List.getElem?_eq_some_iff.1 s.1).1
    refine ⟨fun r hr => ?_, by omega, by omega, by omega, by omega, by have := p.2.1; omega⟩
    have hd : r = q ∨ r ∈ g.prods.drop 1 := by
      cases hg : g.prods with
      | nil => rw [hg] at hr; cases hr
      | cons a l =>
        rw [hg] at hr hq
        cases hq
        rcases List.mem_cons.1 hr with h | h
        · exact .inl h
        · exact .inr h
    rcases hd with rfl | hd
    · refine ⟨by omega, fun y hy => ?_⟩
      rw [q2, List.mem_singleton] at hy
      subst hy
      have := p.2.2.2.2; omega
    · have := p.2.2.1 r hd
      exact ⟨⟨by have := this.1.1; omega, this.1.2.1⟩, fun y hy => by have := this.2 y hy; unfold symOk at this; omega⟩
end Go.V
/- What rows begin with (4): the rounds. -/
set_option linter.unusedVariables false
namespace Go.V
theorem name_it {α : Sort _} (a : α) : ∃ q, q = a := ⟨a, rfl⟩
/- the struct of marks -/
def FC (x : GA) (k14 n : Nat) (o : Option Addr) (j c : Nat) : List Value := [.slice x.ta x.tl x.tc, .slice x.na x.nl x.nc, .slice x.la x.ll x.lc, .int .i64 x.s, .slice x.pa x.pl x.pc, .slice (some ⟨k14, 0, none⟩) n n, .slice o j c]
def initV (T j : Nat) : List (List Bool) := (List.range j).map fun (i : Nat) => ofB (T : Int) [(i : Int)]
theorem initV_succ (T j : Nat) : initV T (j + 1) = initV T j ++ [ofB (T : Int) [(j : Int)]] := by simp [initV, List.range_succ]
theorem initV_len (T j : Nat) : (initV T j).length = j := by simp [initV]
theorem ofB_fn {T i : Nat} (hT : T ≤ 65) (t : Nat) : (ofB (T : Int) [(i : Int)]).length = T ∧ (fnB (ofB (T : Int) [(i : Int)]) t = true ↔ t = i ∧ t < T) := by
  have hN : ofN (T : Int) = T := by unfold ofN; split <;> split at * <;> omega
  unfold ofB
  refine ⟨by rw [addB_len, List.length_replicate, hN], ?_⟩
  rw [fnB_add, List.length_replicate, hN, addS, fnB_rep, Bool.false_or]
  simp only [Bool.and_eq_true, decide_eq_true_eq, List.contains_iff_mem, List.mem_singleton]
  omega
theorem initV_mk {g : GramT} (hT : g.T ≤ 65) : MkF g (List.replicate (g.T + g.N) false) (initV g.T (g.T + g.N)) := by
  have hget : ∀ i, fnB ((initV g.T (g.T + g.N)).getD i []) = if i < g.T + g.N then fnB (ofB (g.T : Int) [(i : Int)]) else fnB [] := fun i => by
    unfold initV
    rw [List.getD_eq_getElem?_getD, List.getElem?_map]
    by_cases h : i < g.T + g.N
    · rw [List.getElem?_range h, if_pos h]; rfl
    · rw [List.getElem?_eq_none (by simp; omega), if_neg h]; rfl
  refine ⟨by simp, initV_len _ _, fun v hv => ?_, fun i h => ?_, fun i t h => ?_, fun t ht => ?_⟩
  · obtain ⟨i, _, rfl⟩ := List.mem_map.1 hv
    exact (ofB_fn hT 0).1
  · rw [fnB_rep] at h; cases h
  · rw [hget] at h
    split at h
    · obtain ⟨rfl, h'⟩ := ((ofB_fn hT t).2).1 h
      exact .tm t h'
    · simp [fnB] at h
  · rw [hget, if_pos (by omega)]
    exact (ofB_fn hT t).2.2 ⟨rfl, ht⟩
end Go.V
namespace Go.Proofs.YtaheggomcnbbiaaDoor
open Go.V
section
variable {w : World} {L : List Asn} {g : GramT} {x : GA}
set_option maxHeartbeats 4000000 in
theorem f_of (hg : gR (hp w) g x) (hb : okG g) (he : EitherP g) (ht : tabA (hp w)) : Run Tryd.prog n_first_of [.agg ⟨x.cells⟩] w fun v w' => ∃ (b k14 : Nat) (o : Option Addr) (c : Nat) (nl : List Bool) (ps : List Nat) (vs : List (List Bool)), v = .pointer (some ⟨b, 0, none⟩) ∧ AllF g nl vs ∧ ps.length = vs.length ∧
    St w' (cel b (FC x k14 (g.T + g.N) o ps.length c) :: cel k14 (bv nl) :: own 1 o ps.length c (pv (ps.map bk)) :: sta (setsA ps vs) :: all w) := by
  refine run_first_of _ _ _ _ _ _ _ _ _ _ _ _ _ w _ ?_
  refine gbox hg fun k1 w1 gw hg B => ?_
  obtain ⟨iG, bT, bN, pN, pT, bP⟩ := inG he
  have tl : g.T = x.tl := hg.t.1
  have nl : g.N = x.nl := hg.n.1
  have pl := hg.p.1
  have ht := rdV.mono gw ht
  refine ⟨_, _, _, B.c0 (sub.refl _), _, _, _, B.c1 (sub.refl _), ⟨by omega, by omega⟩, fun w2 hd => ?_⟩
  have e2 : hp w2 = hp w1 := hp_drawn hd
  have gs : sub (hp w) (hp w1) := gw
  generalize hH : hp w1 = H at *
  have eN : (x.tl : Int) + (x.nl : Int) = ((g.T + g.N : Nat) : Int) := by rw [tl, nl]; omega
  rw [eN]
  have hTe : (x.tl : Int) = (g.T : Int) := by rw [tl]
  rw [Int.toNat_natCast, reps_one]
  have h2 : St w2 [has H] := by have := St.all w2; unfold V.all at this; rwa [e2] at this
  refine ⟨fun w => sub H (hp w), e2 ▸ sub.refl _, _, _, _, _, _, _, _, _, _, _, _, _, _, fun w s => B.row s, ⟨by omega, rfl, by omega⟩, newC_i h2 fun k14 w4 h4 => ⟨rdH 1 h4.l, newC_i h4 fun k15 w5 h5 => ⟨rdH 2 h5.l, ?_⟩⟩⟩
  clear h2 h4
  have bvr : List.replicate (g.T + g.N) (Value.bool false) = bv (List.replicate (g.T + g.N) false) := by simp [bv]
  rw [bvr] at h5
  refine ⟨fun n w' => ∃ (j : Nat) (o : Option Addr) (c : Nat) (ps : List Nat), n = j ∧ j ≤ g.T + g.N ∧ ps.length = j ∧ St w' [cel k15 (FC x k14 (g.T + g.N) o j c), cel k14 (bv (List.replicate (g.T + g.N) false)), own 1 o j c (pv (ps.map bk)), sta (setsA ps (initV g.T j)), has H], fun n _ => g.T + g.N - n.toNat, ⟨0, none, 0, [], rfl, by omega, rfl, ?_⟩, ?_⟩
  · have h6 := own_nil 1 h5
    have h7 : St w5 (sta (setsA [] (initV g.T 0)) :: _) := St.flat.2 (show St w5 ([] ++ _) from h6)
    exact h7.pick 5 [2, 3, 1, 0, 4]
  clear h5
  rintro _ n2 w6 ⟨j, o, c, ps, rfl, hj, hps, h⟩
  refine br_intro (fun hlt => ?_) fun hlt => ?_
  · have hlt : j < g.T + g.N := by have := of_decide_eq_true hlt; omega
    intro w7 hd
    have h := h.drawn hd
    have I : ∀ {w : World} {cs}, rowH (hp w) ⟨k15, 0, none⟩ cs → sub H (hp w) → rowH (hp w) ⟨k15, 0, none⟩ cs ∧ sub H (hp w) := fun a b => ⟨a, b⟩
    refine ⟨fun w => rowH (hp w) ⟨k15, 0, none⟩ (FC x k14 (g.T + g.N) o j c) ∧ sub H (hp w), I (rdCel 0 h.l) (rdH 4 h.l), _, _, _, fun w h => h.1.cell (sub.refl _) (j := 6) rfl, _, _, _, fun w h => B.c0 h.2, newC_i h fun k20 w10 h => ⟨I (rdCel 1 h.l) (rdH 5 h.l), ?_⟩⟩
    refine (s_Of (xs := [(j : Int)]) (l := 1) (x.tl : Int) (rdI_of rfl (.inr ⟨_, rfl, rdCel 0 h.l⟩)) (by omega)).mono ?_
    rintro _ w11 ⟨px, rfl, h1⟩
    have h := h1.on1 h
    refine ⟨_, rfl, I (rdCel 2 h.l) (rdH 6 h.l), newC_i h fun k21 w12 h => ⟨I (rdCel 3 h.l) (rdH 7 h.l), ?_⟩⟩
    refine (app_one tyOk (rfl : kdOfT Ty _ = .slice _) (rfl : kdOfT Ty _ = .slice _) rfl rfl rfl (h.pick 8 [0, 5, 1, 2, 3, 4, 6, 7]) rfl (by simp [oneC]) (by show (_ + 1) * 8 ≤ _; omega) (by omega)).mono ?_
    rintro _ w13 ⟨o', c', rfl, h⟩
    refine ⟨_, _, _, rfl, I (rdCel 4 h.l) (rdH 7 h.l), ?_⟩
    show st1 w13 ((⟨k15, 0, none⟩ : Addr).add 6) _ _
    rw [add_lit0]
    refine st1_i (h.pick 8 [4, 0, 2, 5, 6, 7]) (by simp [FC]) fun w14 h => ⟨⟨by omega, by omega⟩, ⟨j + 1, o', c', ps ++ [px], by simp, by omega, by simp [hps], ?_⟩, msr hlt⟩
    have h : St w14 [cel k15 (FC x k14 (g.T + g.N) o' (j + 1) c'), own 1 o' (j + 1) c' (pv (ps.map bk) ++ [.pointer (some ⟨px, 0, none⟩)]), setO (some ⟨px, 0, none⟩) (ofB (x.tl : Int) [(j : Int)]), cel k14 (bv (List.replicate (g.T + g.N) false)), sta (setsA ps (initV g.T j)), has H] := h
    have e1 : pv (ps.map bk) ++ [.pointer (some ⟨px, 0, none⟩)] = pv ((ps ++ [px]).map bk) := by simp [pv, bk]
    have lSv : (setsA ps (initV g.T j) ++ [setO (some ⟨px, 0, none⟩) (ofB (x.tl : Int) [(j : Int)])]) = setsA (ps ++ [px]) (initV g.T (j + 1)) := by
      rw [initV_succ, hTe]; unfold setsA; rw [List.zipWith_append (by rw [initV_len]; exact hps)]; rfl
    rw [e1] at h
    have h := St.snoc (A := setO (some ⟨px, 0, none⟩) (ofB (x.tl : Int) [(j : Int)])) (M := setsA ps (initV g.T j)) (h.pick 6 [2, 4, 0, 1, 3, 5])
    rw [lSv] at h
    exact h.pick 5 [1, 3, 2, 0, 4]
  have hlt : j = g.T + g.N := by have := of_decide_eq_false hlt; omega
  subst hlt
  obtain ⟨Q, hQ⟩ := name_it (fun (n : Int) (w : World) (m : Nat) => ∃ (nl : List Bool) (vs : List (List Bool)), MkF g nl vs ∧ 0 ≤ n ∧ (m : Int) = meas nl vs + (if 0 < n then 1 else 0) ∧ (n = 0 → ∀ p ∈ g.prods, ClP nl vs p) ∧
    St w [cel k15 (FC x k14 (g.T + g.N) o (g.T + g.N) c), cel k14 (bv nl), own 1 o (g.T + g.N) c (pv (ps.map bk)), sta (setsA ps vs), has H])
  obtain ⟨μ, mu1, mu2⟩ := least_fn (fun (y : Int × World) m => Q y.1 y.2 m)
  refine ⟨fun n w' => ∃ m, Q n w' m, fun n w => μ (n, w), ⟨meas (List.replicate (g.T + g.N) false) (initV g.T (g.T + g.N)) + 1, ?_⟩, ?_⟩
  · rw [hQ]
    exact ⟨_, _, initV_mk bT, by decide, by simp, fun h => absurd h (by decide), h⟩
  clear h
  intro _ n3 w15 hP
  have hP := mu2 (n3, w15) hP
  dsimp only at hP
  generalize hμ : μ (n3, w15) = μ0 at *
  rw [hQ] at hP
  obtain ⟨nl0, vs0, mk0, hn3, hmu, hcl, h⟩ := hP
  refine br_intro (fun hpos => ?_) fun hpos => ?_
  rotate_left
  · have hpos := of_decide_eq_false hpos
    have hcl := hcl (by omega)
    refine ⟨k15, k14, o, c, nl0, ps, vs0, rfl, mk0.all iG hcl, by rw [hps, mk0.lv], ?_⟩
    rw [hps]
    exact St.on (N := [_, _, _, _]) h (has_i gs)
  have hpos := of_decide_eq_true hpos
  rw [if_pos hpos] at hmu
  refine ⟨_, _, _, B.c4 (rdH 4 h.l), fun n4 n5 w' => ∃ (j : Nat) (nl : List Bool) (vs : List (List Bool)), n5 = j ∧ j ≤ x.pl ∧ 0 ≤ n4 ∧ n4 + meas nl vs = meas nl0 vs0 ∧ MkF g nl vs ∧ (n4 = 0 → ∀ p ∈ g.prods.take j, ClP nl vs p) ∧ St w' [cel k15 (FC x k14 (g.T + g.N) o (g.T + g.N) c), cel k14 (bv nl), own 1 o (g.T + g.N) c (pv (ps.map bk)), sta (setsA ps vs), has H], fun _ n5 _ => x.pl - n5.toNat, ⟨0, nl0, vs0, rfl, by omega, by omega, by omega, mk0, by simp, h⟩, ?_⟩
  clear h
  rintro _ n4 n5 w16 ⟨j, nl, vs, rfl, hj, hn4, hm4, mk, hcl4, h⟩
  refine br_intro (fun hlt => ?_) fun hlt => ?_
  rotate_left
  · have hlt : j = x.pl := by have := of_decide_eq_false hlt; omega
    subst hlt
    rw [List.take_of_length_le (by omega)] at hcl4
    have key : Q n4 w16 (meas nl vs + (if 0 < n4 then 1 else 0)) := by
      rw [hQ]; exact ⟨nl, vs, mk, hn4, by split <;> simp, hcl4, h⟩
    refine ⟨⟨_, key⟩, ?_⟩
    have := mu1 (n4, w16) _ key
    dsimp only
    rw [hμ]
    split at this <;> omega
  have hlt : j < x.pl := by have := of_decide_eq_true hlt; omega
  obtain ⟨p, ad, pvs, hp1, hpa, hp2, a, l, c3, rfl, hlc, hp3⟩ := hg.p.get hlt
  have hpm := List.mem_of_getElem? hp1
  obtain ⟨hpl, hpr⟩ := iG p hpm
  have et : g.prods.take (j + 1) = g.prods.take j ++ [p] := by rw [List.take_add_one, hp1]; rfl
  refine idx_n hpa hlt ⟨_, _, _, _, _, hp2.at (rdH 4 h.l) rfl, newC_i h fun k28 w17 h => stR_i h rfl (by intro v hv; simp at hv; rcases hv with rfl | rfl | rfl <;> rfl) fun w18 h => ?_⟩
  intro w19 hd
  have h := h.drawn hd
  obtain ⟨k, hk⟩ : ∃ k : Nat, p.left = k := ⟨p.left.toNat, by omega⟩
  rw [hk] at h
  have hkt : p.left.toNat = k := by omega
  have hkN : k < g.T + g.N := by omega
  obtain ⟨px, hpx⟩ : ∃ px, ps[k]? = some px := ⟨ps[k]'(by omega), List.getElem?_eq_getElem _⟩
  obtain ⟨v, hv⟩ : ∃ v, vs[k]? = some v := ⟨vs[k]'(by rw [mk.lv]; exact hkN), List.getElem?_eq_getElem _⟩
  have hvd : vs.getD k [] = v := by rw [List.getD_eq_getElem?_getD, hv]; rfl
  have hpb : (ps.map bk)[k]? = some (bk px) := by rw [List.getElem?_map, hpx]; rfl
  have rp : rdS (hp w19) (ps.map bk) o (g.T + g.N) := rdPt 3 h.l rfl rfl (by simp [hps])
  obtain ⟨q, ad2, hq1, hqa, hq2⟩ := rp.get1 hkN
  rw [hpb] at hq1; cases hq1
  refine ⟨fun w => rowH (hp w) ⟨k15, 0, none⟩ (FC x k14 (g.T + g.N) o (g.T + g.N) c) ∧ rowH (hp w) ⟨k28, 0, none⟩ [.int .i64 (k : Int), .slice a l c3, .int .i64 p.level] ∧ rdS (hp w) (ps.map bk) o (g.T + g.N), ⟨rdCel 1 h.l, rdCel 0 h.l, rp⟩, _, _, _, fun w h => h.1.cell (sub.refl _) (j := 6) rfl, _, fun w h => h.2.1.cell0 (sub.refl _), ?_⟩
  refine idx_i hqa hkN ⟨bk px, fun w h => ?_, _, _, _, fun w h => h.2.1.cell (sub.refl _) (j := 1) rfl, ?_⟩
  · obtain ⟨q', ad', e1, e2, e3⟩ := h.2.2.get1 hkN
    rw [hpb] at e1; cases e1
    rw [hqa] at e2; cases e2
    exact e3 _ (sub.refl _)
  have gS : (setsA ps vs)[k]? = some (setO (bk px) v) := by unfold setsA; rw [List.getElem?_zipWith, hpx, hv]
  have setS : ∀ v', (setsA ps vs).set k (setO (bk px) v') = setsA ps (vs.set k v') := fun v' => zip_set (fun p v => setO (bk p) v) hpx
  have h := St.out (h.pick 6 [4, 0, 1, 2, 3, 5]) gS
  refine (f_row (nulls := nl) (os := ps.map bk) (vss := vs) (row := p.right) (gs := x.cells) h (fun h hh => rdCel 2 hh) rfl (fun h hh => rdB_of mk.ln (.inr ⟨_, rfl, rdCel 3 hh⟩)) (fun h hh => rdPt 4 hh rfl rfl (by simp [hps])) (by simp [hps, mk.lv]) (by simp [hps, mk.ln]) (fun h hh i q v' hi hv' => ?_) (fun h hh => rdV.mono (rdH 5 hh) ht) (fun h hh => hp3.mono (rdH 5 hh)) (fun s hs => ⟨(hpr s hs).1, ?_⟩) ?_).mono ?_
  · rw [List.getElem?_map] at hi
    cases hpi : ps[i]? with
    | none => rw [hpi] at hi; cases hi
    | some pi =>
      rw [hpi] at hi; cases hi
      by_cases ek : i = k
      · subst ek
        rw [hpx] at hpi; cases hpi
        rw [hv] at hv'; cases hv'
        exact .inr ⟨rfl, rfl⟩
      · exact .inl (rdSE 0 hh hpi hv' ek)
  · have := (hpr s hs).2; simp [hps]; omega
  · have := hp3.1; have := hb.2.2.2.2.2.2 p hpm; omega
  rintro _ w24 ⟨rfl, h⟩
  have mk' := mk.lay iG hpm
  rw [hkt, hvd] at mk'
  have hv'l : (rowB nl vs v p.right).length = v.length := rowB_len _ _ _ _
  have hcv := cntB_rowB nl vs p.right v
  have hms := meas_set (nl := nl) hv hv'l hcv
  have hsb := fnB_rowB_sub nl vs p.right v
  have hml := meas_le mk0
  have hmb : (g.T + g.N) + (g.T + g.N) * g.T ≤ 100000 := by
    have := Nat.mul_le_mul (show g.T + g.N ≤ 130 by omega) bT; omega
  have hstay : (rowN nl p.right = true → fnB nl k = true) → n4 + ((cntB (rowB nl vs v p.right) : Int) - cntB v) = 0 → ∀ r ∈ g.prods.take (j + 1), ClP nl (vs.set k (rowB nl vs v p.right)) r := fun hnn h0 r hr => by
    have e0 : rowB nl vs v p.right = v := cntB_inj hv'l hsb (by omega)
    have e1 : vs.set k v = vs := by
      apply List.ext_getElem?
      intro i
      rw [List.getElem?_set]
      split
      · rename_i e; subst e; rw [hv]; simp; rw [mk.lv]; exact hkN
      · rfl
    rw [e0, e1]
    rw [et] at hr
    rcases List.mem_append.1 hr with hr | hr
    · exact hcl4 (by omega) r hr
    · simp at hr; subst hr
      unfold ClP
      rw [hkt, hvd]
      exact ⟨hnn, e0⟩
  have h := St.back h gS
  rw [setS] at h
  generalize rowB nl vs v p.right = v' at *
  refine ⟨_, _, rfl, ⟨rdCel 2 h.l, rdCel 1 h.l, rdPt 4 h.l rfl rfl (by simp [hps])⟩, ⟨by omega, by omega⟩, fun w25 hd => ?_⟩
  have h := h.drawn hd
  have stay : ∀ {w'}, St w' [sta (setsA ps (vs.set k v')), cel k28 [.int .i64 (k : Int), .slice a l c3, .int .i64 p.level], cel k15 (FC x k14 (g.T + g.N) o (g.T + g.N) c), cel k14 (bv nl), own 1 o (g.T + g.N) c (pv (ps.map bk)), has H] → (rowN nl p.right = true → fnB nl k = true) → inI ((j : Int) + 1) ∧ (∃ (j' : Nat) (nl : List Bool) (vs : List (List Bool)), (j : Int) + 1 = j' ∧ j' ≤ x.pl ∧ 0 ≤ n4 + ((cntB v' : Int) - cntB v) ∧ n4 + ((cntB v' : Int) - cntB v) + meas nl vs = meas nl0 vs0 ∧ MkF g nl vs ∧ (n4 + ((cntB v' : Int) - cntB v) = 0 → ∀ p ∈ g.prods.take j', ClP nl vs p) ∧ St w' [cel k15 (FC x k14 (g.T + g.N) o (g.T + g.N) c), cel k14 (bv nl), own 1 o (g.T + g.N) c (pv (ps.map bk)), sta (setsA ps vs), has H]) ∧ x.pl - ((j : Int) + 1).toNat < x.pl - (j : Int).toNat := fun {w'} h hnn => by
    refine ⟨⟨by omega, by omega⟩, ⟨j + 1, nl, vs.set k v', by simp, by omega, by omega, by omega, mk', hstay hnn, h.pick 6 [2, 3, 4, 0, 5]⟩, msr hlt⟩
  refine ⟨fun w => sub (hp w25) (hp w), sub.refl _, br_intro (fun h1 => ?_) fun h1 => stay h fun h2 => by rw [h1] at h2; cases h2⟩
  refine ⟨_, _, _, fun w s => (rdCel (b := k15) (vs := FC x k14 (g.T + g.N) o (g.T + g.N) c) 2 h.l).cell s (j := 5) rfl, _, fun w s => (rdCel (b := k28) (vs := [.int .i64 (k : Int), .slice a l c3, .int .i64 p.level]) 1 h.l).cell0 s, ?_⟩
  have rn : rdS (hp w25) nl (some ⟨k14, 0, none⟩) (g.T + g.N) := rdB_of mk.ln (.inr ⟨_, rfl, rdCel 3 h.l⟩)
  obtain ⟨z, ad3, hz1, hza, hz2⟩ := rn.get1 hkN
  have hzd : fnB nl k = z := by unfold fnB; rw [List.getD_eq_getElem?_getD, hz1]; rfl
  cases hza
  refine idx_i rfl hkN ⟨z, fun w s => hz2 _ s, br_intro (fun h2 => ?_) fun h2 => stay h fun _ => by rw [hzd]; simpa using h2⟩
  have h2 : z = false := by simpa using h2
  subst h2
  intro w29 hd
  have h := h.drawn hd
  refine ⟨fun w => sub (hp w29) (hp w), sub.refl _, _, _, _, fun w s => (rdCel (b := k15) (vs := FC x k14 (g.T + g.N) o (g.T + g.N) c) 2 h.l).cell s (j := 5) rfl, _, fun w s => (rdCel (b := k28) (vs := [.int .i64 (k : Int), .slice a l c3, .int .i64 p.level]) 1 h.l).cell0 s, ?_⟩
  refine idx_i rfl hkN ?_
  rw [add_lit0]
  refine st1_i (h.pick 6 [3, 0, 2, 4, 5]) (by simp [bv, mk.ln]; exact hkN) fun w32 h => ?_
  have eb : (bv nl).set k (.bool true) = bv (nl.set k true) := by unfold bv; rw [List.map_set]
  rw [eb] at h
  have ho := opn_set (nl := nl) (k := k) (by rw [mk.ln]; exact hkN) hzd
  have mk2 := mk'.van iG hpm ((mk.row hpr).1 h1)
  rw [hkt] at mk2
  have hm2 : meas (nl.set k true) (vs.set k v') + 1 = meas nl (vs.set k v') := by unfold meas; omega
  exact ⟨⟨by omega, by omega⟩, ⟨by omega, by omega⟩, ⟨j + 1, nl.set k true, vs.set k v', by simp, by omega, by omega, by omega, mk2, fun h0 => by omega, h.pick 5 [2, 0, 3, 1, 4]⟩, msr hlt⟩
end
end Go.Proofs.YtaheggomcnbbiaaDoor
/- What rows begin with (5): the answers. -/
set_option linter.unusedVariables false
namespace Go.V
def NnP (g : GramT) (nn : List Bool) : Prop := nn.length = g.N ∧ ∀ i : Nat, fnB nn i = true ↔ Nul g ((g.T + i : Nat) : Int)
def BsP (g : GramT) (row : List Int) (bs : List Bool) : Prop := bs.length = g.T ∧ ∀ t, fnB bs t = true ↔ FstR g row t
def SyP (g : GramT) (row : List Int) : Prop := ∀ s ∈ row, 0 ≤ s ∧ s < (g.T : Int) + g.N
theorem fnB_dropL (l : List Bool) (k i : Nat) : fnB (l.drop k) i = fnB l (k + i) := by
  unfold fnB; rw [List.getD_eq_getElem?_getD, List.getD_eq_getElem?_getD, List.getElem?_drop]
theorem BsP.inj {g : GramT} {row : List Int} {bs cs : List Bool} (h : BsP g row bs) (k : BsP g row cs) : bs = cs :=
  fnB_inj (h.1.trans k.1.symm) fun i => by rw [Bool.eq_iff_iff, h.2, k.2]
theorem NnP.inj {g : GramT} {bs cs : List Bool} (h : NnP g bs) (k : NnP g cs) : bs = cs :=
  fnB_inj (h.1.trans k.1.symm) fun i => by rw [Bool.eq_iff_iff, h.2, k.2]
end Go.V
namespace Go.Proofs.YtaheggomcnbbiaaDoor
open Go.V
section
variable {w : World} {L : List Asn} {g : GramT} {x : GA}
theorem f_either (hg : gR (hp w) g x) (hb : okG g) : Run Tryd.prog n_first_either [.agg ⟨x.cells⟩] w fun v w' => (∃ r : Bool, v = .bool r ∧ (r = true ↔ EitherP g)) ∧ Gr w w' := by
  refine run_first_either _ _ _ _ _ _ _ _ _ _ _ _ _ w _ ?_
  refine gbox hg fun k1 w1 gw hg B => ?_
  refine ⟨_, _, _, _, _, _, _, _, _, _, _, _, _, B.row (sub.refl _), (g_Valid (x := x) hg hb).mono ?_⟩
  rintro _ w2 ⟨⟨r1, rfl, e1⟩, g2⟩
  unfold EitherP
  rw [← e1]
  refine ⟨_, rfl, br_intro (fun h1 => ⟨⟨true, rfl, by simp [h1]⟩, gw.trans g2⟩) fun h1 => ⟨_, _, _, _, _, _, _, _, _, _, _, _, _, B.row g2, (g_Closed (x := x) (hg.mono g2) hb).mono ?_⟩⟩
  rintro _ w3 ⟨⟨r2, rfl, e2⟩, g3⟩
  rw [← e2]
  exact ⟨_, rfl, ⟨r2, rfl, by simp [h1]⟩, gw.trans (g2.trans g3)⟩
theorem f_Nullable (hg : gR (hp w) g x) (hb : okG g) (ht : tabA (hp w)) : Run Tryd.prog n_first_Nullable [.agg ⟨x.cells⟩] w fun v w' =>
    (¬ EitherP g ∧ v = .tuple #[.slice none 0 0, .int .i64 1] ∧ Gr w w') ∨
    (EitherP g ∧ ∃ (k : Nat) (nl nn : List Bool), nl.length = g.T ∧ NnP g nn ∧ v = .tuple #[.slice (some ⟨k, g.T, none⟩) g.N g.N, .int .i64 0] ∧ St w' (cel k (bv (nl ++ nn)) :: all w)) := by
  refine run_first_Nullable _ _ _ _ _ _ _ _ _ _ _ _ _ w _ ?_
  refine gbox hg fun k1 w1 gw hg B => ?_
  refine ⟨_, _, _, _, _, _, _, _, _, _, _, _, _, B.row (sub.refl _), (f_either (x := x) hg hb).mono ?_⟩
  rintro _ w2 ⟨⟨r, rfl, e⟩, g2⟩
  refine ⟨_, rfl, br_intro (fun h1 => .inl ⟨fun he => ?_, rfl, gw.trans g2⟩) fun h1 => fun w3 hd => ?_⟩
  · rw [e.2 he] at h1; cases h1
  have he := e.1 (by simpa using h1)
  have g3 : Gr w1 w3 := g2.trans (Gr.drawn hd)
  obtain ⟨iG, bT, bN, pN, pT, bP⟩ := inG he
  have tl : g.T = x.tl := hg.t.1
  refine ⟨fun w => Gr w3 w, Gr.refl _, _, _, _, _, _, _, _, _, _, _, _, _, _, fun w s => B.row (g3.trans s), _, _, _, fun w s => B.c0 (g3.trans s), (f_of (x := x) (hg.mono g3) hb he (rdV.mono (gw.trans g3) ht)).mono ?_⟩
  rintro _ w6 ⟨b, k14, o, c, nl, ps, vs, rfl, al, hps, h⟩
  have hs : sub (hp w3) (hp w6) := rdH 4 h.l
  have rb : rowH (hp w6) ⟨b, 0, none⟩ (FC x k14 (g.T + g.N) o ps.length c) := rdCel 0 h.l
  refine ⟨_, rfl, fun w => sub (hp w6) (hp w), sub.refl _, fun w s => sub.trans hs s, _, _, _, fun w s => rb.cell s (j := 5) rfl, slc_from (lo := x.tl) (by omega) (Nat.le_refl _) (.inr ⟨he, k14, nl.take g.T, nl.drop g.T, by rw [List.length_take, al.ln]; omega, ⟨by rw [List.length_drop, al.ln]; omega, fun i => ?_⟩, ?_, ?_⟩)⟩
  · rw [fnB_dropL]; exact al.nn _
  · rw [← tl, show g.T + g.N - g.T = g.N from by omega]
    have e : slP (some ⟨k14, 0, none⟩) g.T (g.T + g.N) 1 = some ⟨k14, g.T, none⟩ := by
      unfold slP
      rw [if_neg (by omega), Option.map_some, show mulS g.T 1 = g.T from by rw [mulS_eq, Nat.mul_one], add_lit0]
    rw [e]
  · rw [List.take_append_drop]
    exact St.on (N := [_]) (h0 := hp w3) (h.pick 5 [1, 4]) (has_i (gw.trans g3))
theorem f_Row {a : Option Addr} {l c : Nat} {row : List Int} (hg : gR (hp w) g x) (hb : okG g) (ht : tabA (hp w)) (hr : rdS (hp w) row a l) (hl : l ≤ 4611686018427387904) : Run Tryd.prog n_first_Row [.agg ⟨x.cells⟩, .slice a l c] w fun v w' =>
    (¬ (EitherP g ∧ SyP g row) ∧ v = .tuple #[.slice none 0 0, .bool false, .int .i64 1] ∧ Gr w w') ∨
    ((EitherP g ∧ SyP g row) ∧ ∃ (o : Option Addr) (c : Nat) (bs : List Bool) (b : Bool), BsP g row bs ∧ (b = true ↔ NulR g row) ∧ v = .tuple #[.slice o (cntB bs) c, .bool b, .int .i64 0] ∧ St w' (own 1 o (cntB bs) c (iv (mbI bs)) :: all w)) := by
  refine run_first_Row _ _ _ _ _ _ _ _ _ _ _ _ _ _ _ _ w _ ?_
  refine gbox hg fun k1 w1 gw hg B => ?_
  refine ⟨_, _, _, _, _, _, _, _, _, _, _, _, _, B.row (sub.refl _), (f_either (x := x) hg hb).mono ?_⟩
  rintro _ w2 ⟨⟨r, rfl, e⟩, g2⟩
  refine ⟨_, rfl, br_intro (fun h1 => .inl ⟨fun he => ?_, rfl, gw.trans g2⟩) fun h1 => ?_⟩
  · rw [e.2 he.1] at h1; cases h1
  have he := e.1 (by simpa using h1)
  obtain ⟨iG, bT, bN, pN, pT, bP⟩ := inG he
  have tl : g.T = x.tl := hg.t.1
  have nl' : g.N = x.nl := hg.n.1
  have hr2 := hr.mono (gw.trans g2)
  refine ⟨fun n w' => ∃ j : Nat, n = j ∧ j ≤ l ∧ (∀ s ∈ row.take j, 0 ≤ s ∧ s < (g.T : Int) + g.N) ∧ w' = w2, fun n _ => l - n.toNat, ⟨0, rfl, by omega, by simp, rfl⟩, ?_⟩
  rintro _ n w3 ⟨j, rfl, hj, hok, rfl⟩
  refine br_intro (fun hlt => ?_) fun hlt => ?_
  · have hlt : j < l := by have := of_decide_eq_true hlt; omega
    obtain ⟨s, ad, hs1, hsa, hs2⟩ := hr2.get1 hlt
    have hsm := List.mem_of_getElem? hs1
    refine idx_i hsa hlt ⟨s, hs2 _ (sub.refl _), br_intro (fun h2 => .inl ⟨fun hp => ?_, rfl, gw.trans g2⟩) fun h2 => ⟨_, _, _, B.c0 g2, _, _, _, B.c1 g2, ⟨by omega, by omega⟩, br_intro (fun h3 => .inl ⟨fun hp => ?_, rfl, gw.trans g2⟩) fun h3 => ?_⟩⟩
    · have := of_decide_eq_true h2; have := (hp.2 s hsm).1; omega
    · have := of_decide_eq_true h3; have := (hp.2 s hsm).2; omega
    have h2 := of_decide_eq_false h2
    have h3 := of_decide_eq_false h3
    refine ⟨⟨by omega, by omega⟩, ⟨j + 1, by simp, by omega, fun y hy => ?_, rfl⟩, msr hlt⟩
    rw [take_succ_get hs1] at hy
    rcases List.mem_append.1 hy with hy | hy
    · exact hok y hy
    · simp at hy; subst hy; omega
  have hlt : j = l := by have := of_decide_eq_false hlt; omega
  subst hlt
  rw [List.take_of_length_le (by have := hr.1; omega)] at hok
  have ht3 : tabA (hp w3) := rdV.mono (gw.trans g2) ht
  refine ⟨_, _, _, B.c0 g2, (s_Of (xs := []) (l := 0) (x.tl : Int) (rdI_of rfl (.inl rfl)) (by omega)).mono ?_⟩
  rintro _ w4 ⟨pb, rfl, h4⟩
  have g4 : Gr w3 w4 := h4.gone1
  refine ⟨_, rfl, _, _, _, _, _, _, _, _, _, _, _, _, _, B.row (g2.trans g4), (f_of (x := x) (hg.mono (g2.trans g4)) hb he (rdV.mono g4 ht3)).mono ?_⟩
  rintro _ w5 ⟨b, k14, o, c', nl, ps, vs, rfl, al, hps, h5⟩
  have g5 : Gr w4 w5 := rdH 4 h5.l
  have h5 : St w5 (setO (some ⟨pb, 0, none⟩) (ofB (x.tl : Int) []) :: cel b (FC x k14 (g.T + g.N) o ps.length c') :: cel k14 (bv nl) :: own 1 o ps.length c' (pv (ps.map bk)) :: sta (setsA ps vs) :: all w3) :=
    (show St w5 [_, _, _, _, _, _] from (St.on (N := [_, _, _, _]) h5 h4.l).pick 6 [4, 0, 1, 2, 3, 5])
  have hl0 : (ofB (x.tl : Int) []).length = g.T := by
    have hN : ofN (x.tl : Int) = x.tl := by unfold ofN; split <;> split at * <;> omega
    unfold ofB; rw [addB_len, List.length_replicate, hN, tl]
  have hf0 : ∀ t, fnB (ofB (x.tl : Int) []) t = false := fun t => by
    unfold ofB; rw [fnB_add, addS, fnB_rep]; simp
  refine ⟨_, rfl, (f_row (nulls := nl) (os := ps.map bk) (vss := vs) (row := row) (gs := x.cells) (nl := g.T + g.N) (cn := g.T + g.N) (an := some ⟨k14, 0, none⟩) (ao := o) (ol := ps.length) (co := c') h5 (fun h hh => rdCel 0 hh) rfl (fun h hh => rdB_of al.ln (.inr ⟨_, rfl, rdCel 1 hh⟩)) (fun h hh => rdPt 2 hh rfl rfl (by simp)) (by simp [hps]) (by simp [hps, al.ln, al.lv]) (fun h hh i q v' hi hv' => ?_) (fun h hh => rdV.mono (rdH 4 hh) ht3) (fun h hh => hr2.mono (rdH 4 hh)) (fun s hs => ⟨(hok s hs).1, ?_⟩) hl).mono ?_⟩
  · rw [List.getElem?_map] at hi
    cases hpi : ps[i]? with
    | none => rw [hpi] at hi; cases hi
    | some pi =>
      rw [hpi] at hi; cases hi
      exact .inl (rdSS 3 hh hpi hv')
  · have := (hok s hs).2; simp [hps, al.lv]; omega
  rintro _ w6 ⟨rfl, h6⟩
  have g6 : sub (hp w3) (hp w6) := rdH 5 h6.l
  obtain ⟨a1, a2⟩ := al.row hok
  generalize hU : rowB nl vs (ofB (x.tl : Int) []) row = U at *
  have hUl : U.length = g.T := by rw [← hU, rowB_len, hl0]
  have hUb : BsP g row U := ⟨hUl, fun t => by
    rw [← hU, a2, hf0, hl0]
    constructor
    · rintro (h | ⟨_, h⟩)
      · cases h
      · exact h
    · intro h
      obtain ⟨i, s, _, _, h3⟩ := id h
      exact .inr ⟨h3.lt, h⟩⟩
  refine ⟨_, _, rfl, (s_Members h6.setR (rdV.mono g6 ht3)).mono ?_⟩
  rintro _ w7 ⟨o2, c2, rfl, h7⟩
  exact ⟨_, _, _, rfl, .inr ⟨⟨he, hok⟩, o2, c2, U, rowN nl row, hUb, a1, rfl, h7.on1 (has_i (sub.trans (gw.trans g2) g6))⟩⟩
end
end Go.Proofs.YtaheggomcnbbiaaDoor
/- What rows begin with (6): the sets' answer. -/
set_option linter.unusedVariables false
namespace Go.V
def slvB (os : List (Option Addr × Nat)) (bss : List (List Bool)) : List Value := List.zipWith (fun o bs => Value.slice o.1 (cntB bs) o.2) os bss
def rowsA (os : List (Option Addr × Nat)) (bss : List (List Bool)) : List Asn := List.zipWith (fun o bs => own 1 o.1 (cntB bs) o.2 (iv (mbI bs))) os bss
def SsP (g : GramT) (bss : List (List Bool)) : Prop := bss.length = g.N ∧ ∀ (i : Nat) bs, bss[i]? = some bs → bs.length = g.T ∧ ∀ t, fnB bs t = true ↔ Fst g ((g.T + i : Nat) : Int) t
theorem SsP.inj {g : GramT} {bs cs : List (List Bool)} (h : SsP g bs) (k : SsP g cs) : bs = cs := by
  apply List.ext_getElem?
  intro i
  cases h1 : bs[i]? with
  | none =>
    have := List.getElem?_eq_none_iff.1 h1
    exact (List.getElem?_eq_none (by rw [k.1, ← h.1]; exact this)).symm
  | some b =>
    have hl := (List.getElem?_eq_some_iff.1 h1).1
    obtain ⟨c, h2⟩ : ∃ c, cs[i]? = some c := ⟨cs[i]'(by rw [k.1, ← h.1]; exact hl), List.getElem?_eq_getElem _⟩
    rw [h2]
    obtain ⟨a1, a2⟩ := h.2 i b h1
    obtain ⟨b1, b2⟩ := k.2 i c h2
    exact congrArg some (fnB_inj (a1.trans b1.symm) fun t => by rw [Bool.eq_iff_iff, a2, b2])
end Go.V
namespace Go.Proofs.YtaheggomcnbbiaaDoor
open Go.V
section
variable {w : World} {L : List Asn} {g : GramT} {x : GA}
theorem f_Sets (hg : gR (hp w) g x) (hb : okG g) (ht : tabA (hp w)) : Run Tryd.prog n_first_Sets [.agg ⟨x.cells⟩] w fun v w' =>
    (¬ EitherP g ∧ v = .tuple #[.slice none 0 0, .int .i64 1] ∧ Gr w w') ∨
    (EitherP g ∧ ∃ (a : Option Addr) (c : Nat) (os : List (Option Addr × Nat)) (bss : List (List Bool)), os.length = g.N ∧ SsP g bss ∧ v = .tuple #[.slice a g.N c, .int .i64 0] ∧ St w' (own 1 a g.N c (slvB os bss) :: sta (rowsA os bss) :: all w)) := by
  refine run_first_Sets _ _ _ _ _ _ _ _ _ _ _ _ _ w _ ?_
  refine gbox hg fun k1 w1 gw hg B => ?_
  refine ⟨_, _, _, _, _, _, _, _, _, _, _, _, _, B.row (sub.refl _), (f_either (x := x) hg hb).mono ?_⟩
  rintro _ w2 ⟨⟨r, rfl, e⟩, g2⟩
  refine ⟨_, rfl, br_intro (fun h1 => .inl ⟨fun he => ?_, rfl, gw.trans g2⟩) fun h1 => ?_⟩
  · rw [e.2 he] at h1; cases h1
  have he := e.1 (by simpa using h1)
  obtain ⟨iG, bT, bN, pN, pT, bP⟩ := inG he
  have tl : g.T = x.tl := hg.t.1
  have nl' : g.N = x.nl := hg.n.1
  have ht2 : tabA (hp w2) := rdV.mono (gw.trans g2) ht
  refine ⟨_, _, _, _, _, _, _, _, _, _, _, _, _, B.row g2, (f_of (x := x) (hg.mono g2) hb he ht2).mono ?_⟩
  rintro _ w3 ⟨b, k14, o, c, nl, ps, vs, rfl, al, hps, h⟩
  have g3 : Gr w2 w3 := rdH 4 h.l
  have rb : rowH (hp w3) ⟨b, 0, none⟩ (FC x k14 (g.T + g.N) o ps.length c) := rdCel 0 h.l
  have rp : rdS (hp w3) (ps.map bk) o ps.length := rdPt 2 h.l rfl rfl (by simp)
  have hset : ∀ {i p v}, ps[i]? = some p → vs[i]? = some v → setR (hp w3) (bk p) v := fun hp hv => rdSS 3 h.l hp hv
  have ht3 : tabA (hp w3) := rdV.mono g3 ht2
  have gall : sub (hp w) (hp w3) := sub.trans gw (sub.trans g2 g3)
  have B3 := B.c0 (w := w3) (sub.trans g2 g3)
  have h0 : St w3 [has (hp w3)] := St.all w3
  have B0 : ∀ {w : World}, sub (hp w3) (hp w) → w.cell? ⟨k1, 0, none⟩ = some (.slice x.ta x.tl x.tc) := fun s => B.c0 (sub.trans (sub.trans g2 g3) s)
  clear h
  refine ⟨_, rfl, _, _, _, B.c1 (sub.trans g2 g3), ?_⟩
  generalize hH : hp w3 = H at *
  refine ⟨fun a l c n w' => ∃ (j : Nat) (os : List (Option Addr × Nat)), n = j ∧ l = j ∧ j ≤ g.N ∧ os.length = j ∧ St w' [own 1 a j c (slvB os ((vs.drop g.T).take j)), sta (rowsA os ((vs.drop g.T).take j)), has H], fun _ _ _ n _ => g.N - n.toNat, ⟨0, [], rfl, rfl, by omega, rfl, ?_⟩, ?_⟩
  · have h6 : St w3 (sta (rowsA [] ((vs.drop g.T).take 0)) :: [has H]) := St.flat.2 (show St w3 ([] ++ _) from h0)
    exact own_nil 1 h6
  rintro _ a j c1 n w4 ⟨_, os, rfl, rfl, hj, hos, h⟩
  refine br_intro (fun hlt => ?_) fun hlt => ?_
  · have hlt : j < g.N := by have := of_decide_eq_true hlt; omega
    intro w5 hd
    have h := h.drawn hd
    have hk : g.T + j < ps.length := by rw [hps, al.lv]; omega
    obtain ⟨px, hpx⟩ : ∃ px, ps[g.T + j]? = some px := ⟨ps[g.T + j], List.getElem?_eq_getElem _⟩
    obtain ⟨v, hv⟩ : ∃ v, vs[g.T + j]? = some v := ⟨vs[g.T + j]'(by rw [al.lv]; omega), List.getElem?_eq_getElem _⟩
    have hpb : (ps.map bk)[g.T + j]? = some (bk px) := by rw [List.getElem?_map, hpx]; rfl
    obtain ⟨q, ad, hq1, hqa, hq2⟩ := rp.get1 hk
    rw [hpb] at hq1; cases hq1
    have ei : (x.tl : Int) + (j : Int) = ((g.T + j : Nat) : Int) := by rw [tl]; omega
    refine ⟨fun w => sub H (hp w), rdH 2 h.l, _, _, _, fun w s => rb.cell s (j := 6) rfl, _, _, _, fun w s => B0 s, ⟨by omega, by omega⟩, ?_⟩
    rw [ei]
    refine idx_i hqa hk ⟨bk px, fun w s => hq2 _ s, (s_Members ((hset hpx hv).mono (rdH 2 h.l)) (rdV.mono (rdH 2 h.l) ht3)).mono ?_⟩
    rintro _ w9 ⟨o2, c2, rfl, h9⟩
    have h := h9.on1 h
    refine ⟨_, _, _, rfl, rdH 3 h.l, newC_i h fun k28 w10 h => ⟨rdH 4 h.l, ?_⟩⟩
    refine (app_one tyOk (rfl : kdOfT Ty _ = .slice _) (rfl : kdOfT Ty _ = .slice _) rfl rfl rfl (h.pick 5 [0, 2, 1, 3, 4]) rfl (by simp [oneC]) (by show (_ + 1) * 24 ≤ _; omega) (by omega)).mono ?_
    rintro _ w11 ⟨a', c', rfl, h⟩
    have hd1 : (vs.drop g.T)[j]? = some v := by rw [List.getElem?_drop]; exact hv
    have et : (vs.drop g.T).take (j + 1) = (vs.drop g.T).take j ++ [v] := by rw [List.take_add_one, hd1]; rfl
    have hll : ((vs.drop g.T).take j).length = j := by rw [List.length_take, List.length_drop, al.lv]; omega
    refine ⟨_, _, _, rfl, rdH 4 h.l, ⟨by omega, by omega⟩, ⟨j + 1, os ++ [(o2, c2)], by simp, rfl, by omega, by simp [hos], ?_⟩, msr hlt⟩
    have h := St.snoc (A := own 1 o2 (cntB v) c2 (iv (mbI v))) (M := rowsA os ((vs.drop g.T).take j)) (h.pick 5 [2, 3, 0, 4])
    have e1 : slvB (os ++ [(o2, c2)]) ((vs.drop g.T).take (j + 1)) = slvB os ((vs.drop g.T).take j) ++ [.slice o2 (cntB v) c2] := by
      rw [et]; unfold slvB; rw [List.zipWith_append (by rw [hll, hos])]; rfl
    have e2 : rowsA (os ++ [(o2, c2)]) ((vs.drop g.T).take (j + 1)) = rowsA os ((vs.drop g.T).take j) ++ [own 1 o2 (cntB v) c2 (iv (mbI v))] := by
      rw [et]; unfold rowsA; rw [List.zipWith_append (by rw [hll, hos])]; rfl
    rw [e1, e2]
    exact h.pick 3 [1, 0, 2]
  · have hlt : j = g.N := by have := of_decide_eq_false hlt; omega
    subst hlt
    have hl : (vs.drop g.T).length = g.N := by rw [List.length_drop, al.lv]; omega
    rw [List.take_of_length_le (by omega)] at h
    refine .inr ⟨he, a, c1, os, vs.drop g.T, hos, ⟨hl, fun i bs hi => ?_⟩, rfl, St.on (N := [_, _]) h (has_i gall)⟩
    rw [List.getElem?_drop] at hi
    refine ⟨al.le _ (List.mem_of_getElem? hi), fun t => ?_⟩
    have := al.nv (g.T + i) t
    rw [List.getD_eq_getElem?_getD, hi] at this
    exact this
end
end Go.Proofs.YtaheggomcnbbiaaDoor
