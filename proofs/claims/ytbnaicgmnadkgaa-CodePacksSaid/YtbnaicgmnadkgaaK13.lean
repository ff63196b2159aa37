/-
  Texts put behind each other by a program: Base, StrB, BitsW, Follow, Plant, Begins27, U8.
-/
import Derived.Test.YtbnaicgmnadkgaaK0
import Derived.Test.YtbnaicgmnadkgaaK8
import Derived.Test.YtbnaicgmnadkgaaK11
import Derived.Test.YtbnaicgmnadkgaaK12
/-
  Short words for values.
-/
set_option linter.unusedVariables false
set_option linter.unusedSimpArgs false
namespace Go.Proofs.Ytbnaicgmnadkgaa
open Go Go.Vc

abbrev i64 (n : Int) : Value := .int .i64 n
abbrev ptr (b : Nat) : Value := .pointer (some ⟨b, 0, none⟩)
abbrev u64 (n : Int) : Value := .int .u64 n
abbrev ent (k s : Int) : Value := .agg [i64 k, u64 s].toArray

end Go.Proofs.Ytbnaicgmnadkgaa

/-
  Texts as lists of bytes.
-/
set_option linter.unusedVariables false
set_option linter.unusedSimpArgs false
namespace Go.Proofs.Ytbnaicgmnadkgaa
open Go Go.Vc

abbrev strV (l : List UInt8) : Value := .string ⟨l.toArray⟩

theorem cat_bytes (a b : List UInt8) : (⟨a.toArray⟩ : ByteArray) ++ ⟨b.toArray⟩ = ⟨(a ++ b).toArray⟩ := by
  apply ByteArray.ext
  rw [ByteArray.data_append]
  simp

theorem cat_if (a b : List UInt8) (h : a.length + b.length ≤ 1000000) : (if ((a.toArray.size + b.toArray.size : Nat) : Int) > IntKind.i64.max then none else some (Value.string ((⟨a.toArray⟩ : ByteArray) ++ ⟨b.toArray⟩))) = some (strV (a ++ b)) := by
  have e1 : IntKind.i64.max = 9223372036854775807 := rfl
  rw [if_neg (by rw [e1]; simp only [List.size_toArray]; omega), cat_bytes]

theorem cat_big (a b : List UInt8) (h : a.length + b.length ≤ 1000000000000) : (if ((a.toArray.size + b.toArray.size : Nat) : Int) > IntKind.i64.max then none else some (Value.string ((⟨a.toArray⟩ : ByteArray) ++ ⟨b.toArray⟩))) = some (strV (a ++ b)) := by
  have e1 : IntKind.i64.max = 9223372036854775807 := rfl
  rw [if_neg (by rw [e1]; simp only [List.size_toArray]; omega), cat_bytes]

theorem eq_bytes (a b : List UInt8) : ((⟨a.toArray⟩ : ByteArray).toList == (⟨b.toArray⟩ : ByteArray).toList) = decide (a = b) := by
  rw [← beq_toListBytes]
  show (a.toArray == b.toArray) = _
  by_cases h : a = b
  · subst h; simp
  · have h2 : ¬ a.toArray = b.toArray := fun e => h (by simpa using e)
    simp [h]

theorem size_str (l : List UInt8) : (⟨l.toArray⟩ : ByteArray).size = l.length := by simp [ByteArray.size]
theorem get_str (l : List UInt8) (i : Nat) : (⟨l.toArray⟩ : ByteArray)[i]? = l[i]? := by
  by_cases h : i < l.length
  · rw [List.getElem?_eq_getElem h, getElem?_pos _ i (by rw [size_str]; exact h)]
    rfl
  · rw [List.getElem?_eq_none (by omega), getElem?_neg _ i (by rw [size_str]; exact h)]
theorem eq_none (a : List UInt8) : ((⟨a.toArray⟩ : ByteArray).toList == (⟨#[]⟩ : ByteArray).toList) = decide (a = []) := eq_bytes a []

theorem ext_str (l : List UInt8) (a b : Nat) : (⟨l.toArray⟩ : ByteArray).extract a b = ⟨((l.take b).drop a).toArray⟩ := by
  apply ByteArray.ext
  rw [ByteArray.data_extract]
  simp [List.drop_take]

theorem cat_sz (a b : List UInt8) (h : a.length + b.length ≤ 1000000000000) : (if (((⟨a.toArray⟩ : ByteArray).size + (⟨b.toArray⟩ : ByteArray).size : Nat) : Int) > IntKind.i64.max then none else some (Value.string ((⟨a.toArray⟩ : ByteArray) ++ ⟨b.toArray⟩))) = some (strV (a ++ b)) := by
  have e1 : IntKind.i64.max = 9223372036854775807 := rfl
  rw [if_neg (by rw [e1, size_str, size_str]; omega), cat_bytes]

end Go.Proofs.Ytbnaicgmnadkgaa

/-
  Bits as texts; the bits of one more: the document's way.
-/
set_option linter.unusedVariables false
set_option linter.unusedSimpArgs false
namespace Go.Proofs.Ytbnaicgmnadkgaa
open Go Go.Vc

def bt (b : Bool) : UInt8 := if b then 49 else 48
abbrev strB (w : List Bool) : Value := strV (w.map bt)

set_option maxHeartbeats 2000000 in
theorem ref27_more_spec (H : Hp) : ∀ (w : List Bool), w.length ≤ 1000 → CallH Try.prog n_ref27_more [strB w] H fun v H' => Post (v = strB (incB w) ∧ H = H') := by
  have key : ∀ r : List Bool, r.length ≤ 1000 → CallH Try.prog n_ref27_more [strB r.reverse] H fun v H' => Post (v = strB (incB r.reverse) ∧ H = H') := by
    intro r
    induction r with
    | nil =>
      intro _
      refine c_ref27_more ⟨rfl, ?_⟩
      simp (disch := (first | omega | (simp only [size_new, size_newm, size_wr, size_wrm] <;> omega) | fail)) only [go_sem, Nat.reduceBEq, Nat.reduceAdd, Nat.reduceMul, Nat.reduceLeDiff, ↓reduceIte, rd_new_lt, own_new_lt, mp_new_lt, rd_newm_lt, own_newm_lt, mp_newm_lt, rd_wr_ne, own_wr_ne, mp_wr_ne, rd_wrm_ne, own_wrm_ne, mp_wrm_ne, rd_new_eq, own_new_eq, mp_newm_eq, s_ref27_more]
      refine Both.of_true (by rw [eq_none]; rfl) ?_
      simp (disch := (first | omega | (simp only [size_new, size_newm, size_wr, size_wrm] <;> omega) | fail)) only [go_sem, Nat.reduceBEq, Nat.reduceAdd, Nat.reduceMul, Nat.reduceLeDiff, ↓reduceIte, rd_new_lt, own_new_lt, mp_new_lt, rd_newm_lt, own_newm_lt, mp_newm_lt, rd_wr_ne, own_wr_ne, mp_wr_ne, rd_wrm_ne, own_wrm_ne, mp_wrm_ne, rd_new_eq, own_new_eq, mp_newm_eq]
      exact ⟨rfl, rfl⟩
    | cons b r ih =>
      intro hl
      refine c_ref27_more ⟨rfl, ?_⟩
      rw [List.reverse_cons]
      have hl2 : r.length + 1 ≤ 1000 := hl
      generalize hq : r.reverse = q at *
      have hql : q.length = r.length := by rw [← hq, List.length_reverse]
      have hm : (q ++ [b]).map bt = q.map bt ++ [bt b] := by simp
      simp (disch := (first | omega | (simp only [size_new, size_newm, size_wr, size_wrm] <;> omega) | fail)) only [go_sem, Nat.reduceBEq, Nat.reduceAdd, Nat.reduceMul, Nat.reduceLeDiff, ↓reduceIte, rd_new_lt, own_new_lt, mp_new_lt, rd_newm_lt, own_newm_lt, mp_newm_lt, rd_wr_ne, own_wr_ne, mp_wr_ne, rd_wrm_ne, own_wrm_ne, mp_wrm_ne, rd_new_eq, own_new_eq, mp_newm_eq, s_ref27_more]
      rw [eq_none]
      refine Both.dec (fun hz => absurd hz (by simp)) (fun _ => ?_)
      simp (disch := (first | omega | (simp only [size_new, size_newm, size_wr, size_wrm] <;> omega) | fail)) only [go_sem, Nat.reduceBEq, Nat.reduceAdd, Nat.reduceMul, Nat.reduceLeDiff, ↓reduceIte, rd_new_lt, own_new_lt, mp_new_lt, rd_newm_lt, own_newm_lt, mp_newm_lt, rd_wr_ne, own_wr_ne, mp_wr_ne, rd_wrm_ne, own_wrm_ne, mp_wrm_ne, rd_new_eq, own_new_eq, mp_newm_eq]
      have hsz : (⟨((q ++ [b]).map bt).toArray⟩ : ByteArray).size = q.length + 1 := by rw [size_str]; simp
      have hwr : IntKind.i64.wrap (((q.length + 1 : Nat) : Int) - 1) = (q.length : Int) := by rw [wrap64 (by omega) (by omega)]; omega
      have hex : (⟨((q ++ [b]).map bt).toArray⟩ : ByteArray).extract ((0 : Nat) : Int).toNat ((q.length : Nat) : Int).toNat = ⟨(q.map bt).toArray⟩ := by
        rw [ext_str, hm]
        congr 2
        rw [Int.toNat_natCast, Int.toNat_natCast, List.drop_zero, List.take_left' (by simp)]
      have hgt : (⟨((q ++ [b]).map bt).toArray⟩ : ByteArray)[q.length]? = some (bt b) := by
        rw [get_str, hm, List.getElem?_append_right (by simp)]
        simp
      rw [hsz, hwr, hex]
      refine ⟨⟨by omega, by omega, by omega⟩, ?_⟩
      simp (disch := (first | omega | (simp only [size_new, size_newm, size_wr, size_wrm] <;> omega) | fail)) only [go_sem, Nat.reduceBEq, Nat.reduceAdd, Nat.reduceMul, Nat.reduceLeDiff, ↓reduceIte, rd_new_lt, own_new_lt, mp_new_lt, rd_newm_lt, own_newm_lt, mp_newm_lt, rd_wr_ne, own_wr_ne, mp_wr_ne, rd_wrm_ne, own_wrm_ne, mp_wrm_ne, rd_new_eq, own_new_eq, mp_newm_eq]
      rw [hsz, hwr]
      refine ⟨by omega, ?_⟩
      cases b
      · simp (disch := (first | omega | (simp only [size_new, size_newm, size_wr, size_wrm] <;> omega) | fail)) only [go_sem, Nat.reduceBEq, Nat.reduceAdd, Nat.reduceMul, Nat.reduceLeDiff, ↓reduceIte, rd_new_lt, own_new_lt, mp_new_lt, rd_newm_lt, own_newm_lt, mp_newm_lt, rd_wr_ne, own_wr_ne, mp_wr_ne, rd_wrm_ne, own_wrm_ne, mp_wrm_ne, rd_new_eq, own_new_eq, mp_newm_eq, Int.toNat_natCast, hgt]
        refine Both.of_true (by decide) ?_
        simp (disch := (first | omega | (simp only [size_new, size_newm, size_wr, size_wrm] <;> omega) | fail)) only [go_sem, Nat.reduceBEq, Nat.reduceAdd, Nat.reduceMul, Nat.reduceLeDiff, ↓reduceIte, rd_new_lt, own_new_lt, mp_new_lt, rd_newm_lt, own_newm_lt, mp_newm_lt, rd_wr_ne, own_wr_ne, mp_wr_ne, rd_wrm_ne, own_wrm_ne, mp_wrm_ne, rd_new_eq, own_new_eq, mp_newm_eq]
        rw [cat_sz _ _ (by simp; omega)]
        simp (disch := (first | omega | (simp only [size_new, size_newm, size_wr, size_wrm] <;> omega) | fail)) only [go_sem, Nat.reduceBEq, Nat.reduceAdd, Nat.reduceMul, Nat.reduceLeDiff, ↓reduceIte, rd_new_lt, own_new_lt, mp_new_lt, rd_newm_lt, own_newm_lt, mp_newm_lt, rd_wr_ne, own_wr_ne, mp_wr_ne, rd_wrm_ne, own_wrm_ne, mp_wrm_ne, rd_new_eq, own_new_eq, mp_newm_eq]
        refine ⟨?_, rfl⟩
        rw [incB_zero]
        show strV (q.map bt ++ [49]) = strV ((q ++ [true]).map bt)
        rw [List.map_append]
        rfl
      · simp (disch := (first | omega | (simp only [size_new, size_newm, size_wr, size_wrm] <;> omega) | fail)) only [go_sem, Nat.reduceBEq, Nat.reduceAdd, Nat.reduceMul, Nat.reduceLeDiff, ↓reduceIte, rd_new_lt, own_new_lt, mp_new_lt, rd_newm_lt, own_newm_lt, mp_newm_lt, rd_wr_ne, own_wr_ne, mp_wr_ne, rd_wrm_ne, own_wrm_ne, mp_wrm_ne, rd_new_eq, own_new_eq, mp_newm_eq, Int.toNat_natCast, hgt]
        refine Both.dec (fun hz => absurd hz (by decide)) (fun _ => ?_)
        simp (disch := (first | omega | (simp only [size_new, size_newm, size_wr, size_wrm] <;> omega) | fail)) only [go_sem, Nat.reduceBEq, Nat.reduceAdd, Nat.reduceMul, Nat.reduceLeDiff, ↓reduceIte, rd_new_lt, own_new_lt, mp_new_lt, rd_newm_lt, own_newm_lt, mp_newm_lt, rd_wr_ne, own_wr_ne, mp_wr_ne, rd_wrm_ne, own_wrm_ne, mp_wrm_ne, rd_new_eq, own_new_eq, mp_newm_eq]
        refine (ih (by omega)).mono ?_
        rintro _ _ ⟨rfl, rfl⟩
        simp (disch := (first | omega | (simp only [size_new, size_newm, size_wr, size_wrm] <;> omega) | fail)) only [go_sem, Nat.reduceBEq, Nat.reduceAdd, Nat.reduceMul, Nat.reduceLeDiff, ↓reduceIte, rd_new_lt, own_new_lt, mp_new_lt, rd_newm_lt, own_newm_lt, mp_newm_lt, rd_wr_ne, own_wr_ne, mp_wr_ne, rd_wrm_ne, own_wrm_ne, mp_wrm_ne, rd_new_eq, own_new_eq, mp_newm_eq]
        rw [cat_sz _ _ (by have := incB_len q; simp; omega)]
        simp (disch := (first | omega | (simp only [size_new, size_newm, size_wr, size_wrm] <;> omega) | fail)) only [go_sem, Nat.reduceBEq, Nat.reduceAdd, Nat.reduceMul, Nat.reduceLeDiff, ↓reduceIte, rd_new_lt, own_new_lt, mp_new_lt, rd_newm_lt, own_newm_lt, mp_newm_lt, rd_wr_ne, own_wr_ne, mp_wr_ne, rd_wrm_ne, own_wrm_ne, mp_wrm_ne, rd_new_eq, own_new_eq, mp_newm_eq]
        refine ⟨?_, rfl⟩
        rw [incB_one]
        show strV ((incB q).map bt ++ [48]) = strV ((incB q ++ [false]).map bt)
        rw [List.map_append]
        rfl
  intro w hl
  have := key w.reverse (by rw [List.length_reverse]; exact hl)
  rwa [List.reverse_reverse] at this

end Go.Proofs.Ytbnaicgmnadkgaa

/-
  The package code: the word behind one.
-/
set_option linter.unusedVariables false
set_option linter.unusedSimpArgs false
namespace Go.Proofs.Ytbnaicgmnadkgaa
open Go Go.Vc

abbrev bv (x : Bool) : Value := .int .u8 (bt x).toNat
theorem bv_ff : bv false = .int .u8 48 := rfl
theorem bv_tt : bv true = .int .u8 49 := rfl

/-- A word of bits in a block that may be written. -/
def WdS (H : Hp) (v : Value) (w : List Bool) (b : Nat) : Prop :=
  ∃ l c, v = .slice (some ⟨b, 0, none⟩) w.length c ∧ orO (H.own b) (H.mrk b) = some l ∧ w.length ≤ c ∧ c ≤ l.length ∧ l.take w.length = w.map bv

theorem WdS.lt {H : Hp} {v : Value} {w : List Bool} {b : Nat} (h : WdS H v w b) : b < H.size := by
  obtain ⟨l, c, _, h2, _⟩ := h
  exact rd_lt (rd_of_orO h2)

theorem orO_ext {S : Nat → Prop} {H H' : Hp} (e : Ext S H H') {b : Nat} {l : List Value} (h : orO (H.own b) (H.mrk b) = some l) (hb : ¬ S b) : orO (H'.own b) (H'.mrk b) = some l := by
  rcases orO_spec h with h | h
  · exact orO_of_own (e.own h hb)
  · exact orO_of_mrk (e.mrk h hb)

theorem WdS.ext {S : Nat → Prop} {H H' : Hp} {v : Value} {w : List Bool} {b : Nat} (h : WdS H v w b) (e : Ext S H H') (hb : ¬ S b) : WdS H' v w b := by
  obtain ⟨l, c, h1, h2, h3⟩ := h
  exact ⟨l, c, h1, orO_ext e h2 hb, h3⟩

theorem WdS.rd {H : Hp} {v : Value} {w : List Bool} {b : Nat} (h : WdS H v w b) : RdS H 1 v w.length (w.map bv) := by
  obtain ⟨l, c, h1, h2, h3, h4, h5⟩ := h
  refine ⟨by simp, .inr ⟨b, 0, c, l, h1, rd_of_orO h2, by omega, by simpa using h5⟩⟩

/-- One bit of it is another one. -/
theorem WdS.set {H : Hp} {c : Nat} {w : List Bool} {b : Nat} {l : List Value} (hl : orO (H.own b) (H.mrk b) = some l) (h3 : w.length ≤ c) (h4 : c ≤ l.length) (h5 : l.take w.length = w.map bv) (i : Nat) (x : Bool) :
    WdS (H.wr b (l.set i (bv x))) (.slice (some ⟨b, 0, none⟩) w.length c) (w.set i x) b :=
  ⟨l.set i (bv x), c, by rw [List.length_set], orO_wr_same hl (by rw [List.length_set]), by rw [List.length_set]; exact h3, by rw [List.length_set]; exact h4, by rw [List.length_set, take_set', h5, List.map_set]⟩

theorem WdS.append {H : Hp} {T : TypeId} {v : Value} {w : List Bool} {b : Nat} {K : Value → Hp → Prop} (h : WdS H v w b) (hl : w.length ≤ 1000000)
    (hk : ∀ v' H' b', WdS H' v' (w ++ [false]) b' → Ext (fun z => z = b) H H' → (b' = b ∨ H.size ≤ b') → K v' H') :
    AppendV T 1 1 [.int .u8 0] v (.slice (some ⟨H.size, 0, none⟩) 1 1) (H.new T [.int .u8 48]) K := by
  have hlt := h.lt
  obtain ⟨l, c, rfl, h2, h3, h4, h5⟩ := h
  have e1 : Ext (fun z => z = b) H (H.new T [.int .u8 48]) := (Ext.refl _ _).new _ _
  have f1 : Fresh H (H.new T [.int .u8 48]) := (Ext.refl _ _).new _ _
  have h2' := orO_ext f1 h2 (fun h => h)
  have hr : RdS (H.new T [.int .u8 48]) 1 (.slice (some ⟨H.size, 0, none⟩) 1 1) 1 [.int .u8 48] := (Sl.lit_at (size := 1) (n := 1) (xs := [Value.int .u8 48]) rfl rfl).rd
  refine RdS.rowOf hr (F := fun m new => (w.length + m ≤ c → m = 0 → K (.slice (some ⟨b, 0, none⟩) w.length c) (H.new T [.int .u8 48])) ∧
      (w.length + m ≤ c → m ≠ 0 → baseV (some ⟨b, 0, none⟩) fun b o => withO (orO ((H.new T [.int .u8 48]).own b) ((H.new T [.int .u8 48]).mrk b)) fun l => Also (o + (w.length + m) * 1 ≤ l.length ∧ allOne new) (K (.slice (some ⟨b, 0, none⟩) (w.length + m) c) ((H.new T [.int .u8 48]).wr b (splice l (o + w.length * 1) new)))) ∧
      (c < w.length + m → Builtin.nextslicecap (w.length + m) c * 1 ≤ 2 ^ 48 ∧
        Vc.rowOf (H.new T [.int .u8 48]) 1 (.slice (some ⟨b, 0, none⟩) w.length c) fun _ old => ∀ c', w.length + m ≤ c' → K (.slice (some ⟨(H.new T [.int .u8 48]).size, 0, none⟩) (w.length + m) c') ((H.new T [.int .u8 48]).new T (old ++ new ++ padZ [.int .u8 0] (c' - (w.length + m)))))) ?_
  refine ⟨fun _ h => absurd h (by omega), fun hle _ => ?_, fun hlt2 => ⟨?_, ?_⟩⟩
  · show withO (orO ((H.new T [.int .u8 48]).own b) ((H.new T [.int .u8 48]).mrk b)) _
    rw [h2']
    refine ⟨⟨by omega, by intro v hv; rw [List.mem_singleton] at hv; subst hv; rfl⟩, ?_⟩
    rw [Nat.zero_add]
    refine hk _ _ b ⟨_, c, by simp, orO_wr_same h2' (by rw [length_splice]), by simpa using hle, by rw [length_splice]; exact h4, ?_⟩ (e1.wr (fun _ => rfl) _) (.inl rfl)
    have := take_splice (new := [Value.int .u8 48]) (l := l) (xs := w.map bv) (p := w.length) h5 (by simp) (by simp; omega)
    rw [List.length_append, List.map_append, Nat.mul_one]
    exact this
  · have h2 : Builtin.nextslicecap (w.length + 1) c ≤ 2 * (w.length + 1) := nextslicecap_le hlt2
    omega
  · have hw : RdS (H.new T [.int .u8 48]) 1 (.slice (some ⟨b, 0, none⟩) w.length c) w.length (w.map bv) := ⟨by simp, .inr ⟨b, 0, c, l, rfl, rd_of_orO h2', by omega, by simpa using h5⟩⟩
    refine RdS.rowOf hw ?_
    intro c' hc'
    refine hk _ _ (H.size + 1) ⟨_, c', by simp [size_new], orO_of_own (own_new_eq (by simp only [size_new])), by simpa using hc', ?_, ?_⟩ (e1.new _ _) (.inr (by omega))
    · simp only [List.length_append, List.length_map, length_padZ, List.length_singleton, Nat.mul_one]
      omega
    · have e : (w ++ [false]).length = (w.map bv ++ [Value.int .u8 48]).length := by simp
      rw [e, List.take_left, List.map_append]
      rfl

theorem incB_rep : ∀ k, incB (List.replicate k true) = List.replicate k false := by
  intro k
  induction k with
  | zero => rfl
  | succ k ih => rw [List.replicate_succ', incB_one, ih, List.replicate_succ']
theorem incB_mid (u : List Bool) (k : Nat) : incB (u ++ false :: List.replicate k true) = u ++ true :: List.replicate k false := by
  induction k with
  | zero => exact incB_zero u
  | succ k ih =>
    rw [show u ++ false :: List.replicate (k + 1) true = (u ++ false :: List.replicate k true) ++ [true] by rw [List.replicate_succ']; simp, incB_one, ih, List.replicate_succ']
    simp

theorem split_at {w : List Bool} {i : Nat} {x : Bool} (h : w[i]? = some x) : w = w.take i ++ x :: w.drop (i + 1) := by
  have h1 := (List.getElem?_eq_some_iff.1 h)
  obtain ⟨h2, h3⟩ := h1
  conv => lhs; rw [← List.take_append_drop i w]
  rw [List.drop_eq_getElem_cons h2, h3]

set_option maxRecDepth 100000 in
set_option maxHeartbeats 4000000 in
theorem code_follow_spec {H : Hp} {v : Value} {w : List Bool} {b : Nat} (h : WdS H v w b) (n : Nat) (hw : w.length ≤ 1000) (hn : n ≤ 1000) :
    CallH Try.prog n_code_follow [v, i64 n] H fun v' H' => Post (∃ b', WdS H' v' (padB n (incB w)) b' ∧ Ext (fun z => z = b) H H' ∧ (b' = b ∨ H.size ≤ b')) := by
  refine c_code_follow ⟨rfl, ?_⟩
  obtain ⟨l0, c, rfl, h2, h3, h4, h5⟩ := h
  simp (disch := (first | omega | (simp only [size_new, size_newm, size_wr, size_wrm] <;> omega) | fail)) only [go_sem, Nat.reduceBEq, Nat.reduceAdd, Nat.reduceMul, Nat.reduceLeDiff, ↓reduceIte, rd_new_lt, own_new_lt, mp_new_lt, rd_newm_lt, own_newm_lt, mp_newm_lt, rd_wr_ne, own_wr_ne, mp_wr_ne, rd_wrm_ne, own_wrm_ne, mp_wrm_ne, rd_new_eq, own_new_eq, mp_newm_eq, s_code_follow]
  have wd0 : WdS H (.slice (some ⟨b, 0, none⟩) w.length c) (w.take w.length ++ List.replicate (w.length - w.length) false) b := by
    rw [Nat.sub_self, List.replicate_zero, List.append_nil, List.take_length]
    exact ⟨l0, c, rfl, h2, h3, h4, h5⟩
  refine LoopV.intro (fun i env H' => i ≤ w.length ∧ (∀ x ∈ w.drop i, x = true) ∧ WdS H' (.slice (some ⟨b, 0, none⟩) w.length c) (w.take i ++ List.replicate (w.length - i) false) b ∧ Ext (fun z => z = b) H H' ∧
    env = [(0, .slice (some ⟨b, 0, none⟩) w.length c), (1, i64 n), (5, i64 ((i : Int) - 1))]) w.length ⟨Nat.le_refl _, by simp, wd0, Ext.refl _ _, by rw [wrap64 (by omega) (by omega)]⟩ ?_
  clear wd0 h2 h3 h4 h5
  rintro i env H1 ⟨hi, hall, wd, e1, rfl⟩
  have wl : (w.take i ++ List.replicate (w.length - i) false).length = w.length := by simp; omega
  have hwr : w.drop i = List.replicate (w.length - i) true := List.eq_replicate_iff.2 ⟨by simp, hall⟩
  simp (disch := (first | omega | (simp only [size_new, size_newm, size_wr, size_wrm] <;> omega) | fail)) only [go_sem, Nat.reduceBEq, Nat.reduceAdd, Nat.reduceMul, Nat.reduceLeDiff, ↓reduceIte, rd_new_lt, own_new_lt, mp_new_lt, rd_newm_lt, own_newm_lt, mp_newm_lt, rd_wr_ne, own_wr_ne, mp_wr_ne, rd_wrm_ne, own_wrm_ne, mp_wrm_ne, rd_new_eq, own_new_eq, mp_newm_eq]
  refine Both.dec (fun h0 => ?_) (fun h0 => ?_) <;> simp (disch := (first | omega | (simp only [size_new, size_newm, size_wr, size_wrm] <;> omega) | fail)) only [go_sem, Nat.reduceBEq, Nat.reduceAdd, Nat.reduceMul, Nat.reduceLeDiff, ↓reduceIte, rd_new_lt, own_new_lt, mp_new_lt, rd_newm_lt, own_newm_lt, mp_newm_lt, rd_wr_ne, own_wr_ne, mp_wr_ne, rd_wrm_ne, own_wrm_ne, mp_wrm_ne, rd_new_eq, own_new_eq, mp_newm_eq]
  · obtain ⟨x, hx⟩ : ∃ x, w[i - 1]? = some x := ⟨_, List.getElem?_eq_getElem (by omega)⟩
    obtain ⟨l, c', hv, k2, k3, k4, k5⟩ := id wd
    injection hv with _ _ hc
    subst hc
    have hto : ((i : Int) - 1).toNat = i - 1 := by omega
    have hcell : l[i - 1]? = some (bv x) := by
      have h7 : (l.take w.length)[i - 1]? = some (bv x) := by
        rw [wl] at k5
        rw [k5, List.getElem?_map, List.getElem?_append_left (by simp; omega), List.getElem?_take_of_lt (by omega), hx]
        rfl
      rwa [List.getElem?_take_of_lt (by omega)] at h7
    refine ⟨⟨by omega, by omega⟩, ?_⟩
    simp (disch := (first | omega | (simp only [size_new, size_newm, size_wr, size_wrm] <;> omega) | fail)) only [go_sem, Nat.reduceBEq, Nat.reduceAdd, Nat.reduceMul, Nat.reduceLeDiff, ↓reduceIte, rd_new_lt, own_new_lt, mp_new_lt, rd_newm_lt, own_newm_lt, mp_newm_lt, rd_wr_ne, own_wr_ne, mp_wr_ne, rd_wrm_ne, own_wrm_ne, mp_wrm_ne, rd_new_eq, own_new_eq, mp_newm_eq, rd_of_orO k2, Nat.zero_add, Nat.mul_one, hto, hcell]
    have hst := fun y => WdS.set k2 k3 k4 k5 (i - 1) y
    rw [wl] at hst k3
    cases x
    · refine Both.of_true rfl ?_
      simp (disch := (first | omega | (simp only [size_new, size_newm, size_wr, size_wrm] <;> omega) | fail)) only [go_sem, Nat.reduceBEq, Nat.reduceAdd, Nat.reduceMul, Nat.reduceLeDiff, ↓reduceIte, rd_new_lt, own_new_lt, mp_new_lt, rd_newm_lt, own_newm_lt, mp_newm_lt, rd_wr_ne, own_wr_ne, mp_wr_ne, rd_wrm_ne, own_wrm_ne, mp_wrm_ne, rd_new_eq, own_new_eq, mp_newm_eq]
      refine ⟨⟨by omega, by omega⟩, ?_⟩
      simp (disch := (first | omega | (simp only [size_new, size_newm, size_wr, size_wrm] <;> omega) | fail)) only [go_sem, Nat.reduceBEq, Nat.reduceAdd, Nat.reduceMul, Nat.reduceLeDiff, ↓reduceIte, rd_new_lt, own_new_lt, mp_new_lt, rd_newm_lt, own_newm_lt, mp_newm_lt, rd_wr_ne, own_wr_ne, mp_wr_ne, rd_wrm_ne, own_wrm_ne, mp_wrm_ne, rd_new_eq, own_new_eq, mp_newm_eq, k2, Nat.zero_add, Nat.mul_one, hto]
      refine ⟨by omega, ?_⟩
      simp (disch := (first | omega | (simp only [size_new, size_newm, size_wr, size_wrm] <;> omega) | fail)) only [go_sem, Nat.reduceBEq, Nat.reduceAdd, Nat.reduceMul, Nat.reduceLeDiff, ↓reduceIte, rd_new_lt, own_new_lt, mp_new_lt, rd_newm_lt, own_newm_lt, mp_newm_lt, rd_wr_ne, own_wr_ne, mp_wr_ne, rd_wrm_ne, own_wrm_ne, mp_wrm_ne, rd_new_eq, own_new_eq, mp_newm_eq]
      have hinc : (w.take i ++ List.replicate (w.length - i) false).set (i - 1) true = incB w := by
        have e := split_at hx
        have e2 : w.drop (i - 1 + 1) = List.replicate (w.length - i) true := by rw [show i - 1 + 1 = i by omega, hwr]
        rw [e2] at e
        conv => rhs; rw [e, incB_mid]
        have e3 : w.take i = w.take (i - 1) ++ [false] := by
          rw [show i = i - 1 + 1 by omega, List.take_add_one, hx]; rfl
        rw [e3, List.append_assoc, List.set_append_right _ _ (by rw [List.length_take]; omega), List.length_take, show i - 1 - min (i - 1) w.length = 0 by omega]
        rfl
      have ws := hst true
      rw [hinc] at ws
      have es : Ext (fun z => z = b) H (H1.wr b (l.set (i - 1) (bv true))) := e1.wr (fun _ => rfl) _
      rw [bv_tt] at ws es
      generalize H1.wr b (l.set (i - 1) (Value.int .u8 49)) = H2 at *
      have il : (incB w).length = w.length := incB_len w
      have hpz : ∀ k, (incB w ++ List.replicate k false).length = w.length + k := fun k => by simp [il]
      refine LoopV.intro (fun m env H' => ∃ (k : Nat) (v : Value) (b' : Nat), m = n - (w.length + k) ∧ (k = 0 ∨ w.length + k ≤ n) ∧ WdS H' v (incB w ++ List.replicate k false) b' ∧ Ext (fun z => z = b) H H' ∧ (b' = b ∨ H.size ≤ b') ∧ env = [(0, v), (1, i64 n)]) (n - w.length) ⟨0, .slice (some ⟨b, 0, none⟩) w.length c, b, rfl, .inl rfl, by rw [List.replicate_zero, List.append_nil]; exact ws, es, .inl rfl, rfl⟩ ?_
      rintro m env H3 ⟨k, v, b', rfl, hk, w3, e3, hb', rfl⟩
      obtain ⟨l3, c3, rfl, q2, q3, q4, q5⟩ := id w3
      rw [hpz] at w3
      simp (disch := (first | omega | (simp only [size_new, size_newm, size_wr, size_wrm] <;> omega) | fail)) only [go_sem, Nat.reduceBEq, Nat.reduceAdd, Nat.reduceMul, Nat.reduceLeDiff, ↓reduceIte, rd_new_lt, own_new_lt, mp_new_lt, rd_newm_lt, own_newm_lt, mp_newm_lt, rd_wr_ne, own_wr_ne, mp_wr_ne, rd_wrm_ne, own_wrm_ne, mp_wrm_ne, rd_new_eq, own_new_eq, mp_newm_eq]
      refine Both.dec (fun hlt => ?_) (fun hlt => ?_) <;> simp (disch := (first | omega | (simp only [size_new, size_newm, size_wr, size_wrm] <;> omega) | fail)) only [go_sem, Nat.reduceBEq, Nat.reduceAdd, Nat.reduceMul, Nat.reduceLeDiff, ↓reduceIte, rd_new_lt, own_new_lt, mp_new_lt, rd_newm_lt, own_newm_lt, mp_newm_lt, rd_wr_ne, own_wr_ne, mp_wr_ne, rd_wrm_ne, own_wrm_ne, mp_wrm_ne, rd_new_eq, own_new_eq, mp_newm_eq]
      · rw [hpz] at hlt
        have hb3 := w3.lt
        refine WdS.append (w := incB w ++ List.replicate k false) (by rw [hpz]; exact w3) (by rw [hpz]; omega) fun v' H4 b4 w4 e4 hb4 => ?_
        simp (disch := (first | omega | (simp only [size_new, size_newm, size_wr, size_wrm] <;> omega) | fail)) only [go_sem, Nat.reduceBEq, Nat.reduceAdd, Nat.reduceMul, Nat.reduceLeDiff, ↓reduceIte, rd_new_lt, own_new_lt, mp_new_lt, rd_newm_lt, own_newm_lt, mp_newm_lt, rd_wr_ne, own_wr_ne, mp_wr_ne, rd_wrm_ne, own_wrm_ne, mp_wrm_ne, rd_new_eq, own_new_eq, mp_newm_eq]
        have z3 := e3.size
        refine ⟨n - (w.length + (k + 1)), by omega, k + 1, v', b4, rfl, .inr (by omega), ?_, e3.trans' e4 (fun z hz h => by omega), by omega, rfl⟩
        rw [List.replicate_succ', ← List.append_assoc]
        exact w4
      · rw [hpz] at hlt
        have hp : incB w ++ List.replicate k false = padB n (incB w) := by
          unfold padB
          rw [il]
          congr 2
          omega
        rw [hp] at w3
        refine ⟨b', ?_, e3, hb'⟩
        rw [hpz, ← hpz k, hp]
        rw [← hpz k, hp] at w3
        exact w3
    · refine Both.of_false rfl ?_
      simp (disch := (first | omega | (simp only [size_new, size_newm, size_wr, size_wrm] <;> omega) | fail)) only [go_sem, Nat.reduceBEq, Nat.reduceAdd, Nat.reduceMul, Nat.reduceLeDiff, ↓reduceIte, rd_new_lt, own_new_lt, mp_new_lt, rd_newm_lt, own_newm_lt, mp_newm_lt, rd_wr_ne, own_wr_ne, mp_wr_ne, rd_wrm_ne, own_wrm_ne, mp_wrm_ne, rd_new_eq, own_new_eq, mp_newm_eq]
      refine ⟨⟨by omega, by omega⟩, ?_⟩
      simp (disch := (first | omega | (simp only [size_new, size_newm, size_wr, size_wrm] <;> omega) | fail)) only [go_sem, Nat.reduceBEq, Nat.reduceAdd, Nat.reduceMul, Nat.reduceLeDiff, ↓reduceIte, rd_new_lt, own_new_lt, mp_new_lt, rd_newm_lt, own_newm_lt, mp_newm_lt, rd_wr_ne, own_wr_ne, mp_wr_ne, rd_wrm_ne, own_wrm_ne, mp_wrm_ne, rd_new_eq, own_new_eq, mp_newm_eq, k2, Nat.zero_add, Nat.mul_one, hto]
      refine ⟨by omega, ?_⟩
      simp (disch := (first | omega | (simp only [size_new, size_newm, size_wr, size_wrm] <;> omega) | fail)) only [go_sem, Nat.reduceBEq, Nat.reduceAdd, Nat.reduceMul, Nat.reduceLeDiff, ↓reduceIte, rd_new_lt, own_new_lt, mp_new_lt, rd_newm_lt, own_newm_lt, mp_newm_lt, rd_wr_ne, own_wr_ne, mp_wr_ne, rd_wrm_ne, own_wrm_ne, mp_wrm_ne, rd_new_eq, own_new_eq, mp_newm_eq]
      have ws := hst false
      have hset : (w.take i ++ List.replicate (w.length - i) false).set (i - 1) false = w.take (i - 1) ++ List.replicate (w.length - (i - 1)) false := by
        have e3 : w.take i = w.take (i - 1) ++ [true] := by
          rw [show i = i - 1 + 1 by omega, List.take_add_one, hx]; rfl
        rw [e3, List.append_assoc, List.set_append_right _ _ (by rw [List.length_take]; omega), List.length_take, show i - 1 - min (i - 1) w.length = 0 by omega, show w.length - (i - 1) = (w.length - i) + 1 by omega, List.replicate_succ]
        rfl
      rw [hset] at ws
      refine ⟨i - 1, by omega, by omega, fun y hy => ?_, ws, e1.wr (fun _ => rfl) _, ?_⟩
      · rw [List.drop_eq_getElem_cons (by omega)] at hy
        rcases List.mem_cons.1 hy with rfl | hy
        · rw [List.getElem?_eq_getElem (by omega)] at hx; injection hx
        · rw [show i - 1 + 1 = i by omega] at hy
          exact hall y hy
      · rw [wrap64 (by omega) (by omega), show ((i - 1 : Nat) : Int) - 1 = (i : Int) - 1 - 1 by omega]
  · have hi0 : i = 0 := by omega
    subst hi0
    rw [Nat.sub_zero] at wd hwr
    have hinc : incB w = List.replicate w.length false := by
      rw [List.drop_zero] at hwr
      conv => lhs; rw [hwr]
      exact incB_rep _
    rw [List.take_zero, List.nil_append, ← hinc] at wd
    have ws := wd
    have es := e1
    clear wd e1
    generalize H1 = H2 at *
    have il : (incB w).length = w.length := incB_len w
    have hpz : ∀ k, (incB w ++ List.replicate k false).length = w.length + k := fun k => by simp [il]
    refine LoopV.intro (fun m env H' => ∃ (k : Nat) (v : Value) (b' : Nat), m = n - (w.length + k) ∧ (k = 0 ∨ w.length + k ≤ n) ∧ WdS H' v (incB w ++ List.replicate k false) b' ∧ Ext (fun z => z = b) H H' ∧ (b' = b ∨ H.size ≤ b') ∧ env = [(0, v), (1, i64 n)]) (n - w.length) ⟨0, .slice (some ⟨b, 0, none⟩) w.length c, b, rfl, .inl rfl, by rw [List.replicate_zero, List.append_nil]; exact ws, es, .inl rfl, rfl⟩ ?_
    rintro m env H3 ⟨k, v, b', rfl, hk, w3, e3, hb', rfl⟩
    obtain ⟨l3, c3, rfl, q2, q3, q4, q5⟩ := id w3
    rw [hpz] at w3
    simp (disch := (first | omega | (simp only [size_new, size_newm, size_wr, size_wrm] <;> omega) | fail)) only [go_sem, Nat.reduceBEq, Nat.reduceAdd, Nat.reduceMul, Nat.reduceLeDiff, ↓reduceIte, rd_new_lt, own_new_lt, mp_new_lt, rd_newm_lt, own_newm_lt, mp_newm_lt, rd_wr_ne, own_wr_ne, mp_wr_ne, rd_wrm_ne, own_wrm_ne, mp_wrm_ne, rd_new_eq, own_new_eq, mp_newm_eq]
    refine Both.dec (fun hlt => ?_) (fun hlt => ?_) <;> simp (disch := (first | omega | (simp only [size_new, size_newm, size_wr, size_wrm] <;> omega) | fail)) only [go_sem, Nat.reduceBEq, Nat.reduceAdd, Nat.reduceMul, Nat.reduceLeDiff, ↓reduceIte, rd_new_lt, own_new_lt, mp_new_lt, rd_newm_lt, own_newm_lt, mp_newm_lt, rd_wr_ne, own_wr_ne, mp_wr_ne, rd_wrm_ne, own_wrm_ne, mp_wrm_ne, rd_new_eq, own_new_eq, mp_newm_eq]
    · rw [hpz] at hlt
      have hb3 := w3.lt
      refine WdS.append (w := incB w ++ List.replicate k false) (by rw [hpz]; exact w3) (by rw [hpz]; omega) fun v' H4 b4 w4 e4 hb4 => ?_
      simp (disch := (first | omega | (simp only [size_new, size_newm, size_wr, size_wrm] <;> omega) | fail)) only [go_sem, Nat.reduceBEq, Nat.reduceAdd, Nat.reduceMul, Nat.reduceLeDiff, ↓reduceIte, rd_new_lt, own_new_lt, mp_new_lt, rd_newm_lt, own_newm_lt, mp_newm_lt, rd_wr_ne, own_wr_ne, mp_wr_ne, rd_wrm_ne, own_wrm_ne, mp_wrm_ne, rd_new_eq, own_new_eq, mp_newm_eq]
      have z3 := e3.size
      refine ⟨n - (w.length + (k + 1)), by omega, k + 1, v', b4, rfl, .inr (by omega), ?_, e3.trans' e4 (fun z hz h => by omega), by omega, rfl⟩
      rw [List.replicate_succ', ← List.append_assoc]
      exact w4
    · rw [hpz] at hlt
      have hp : incB w ++ List.replicate k false = padB n (incB w) := by
        unfold padB
        rw [il]
        congr 2
        omega
      rw [hp] at w3
      refine ⟨b', ?_, e3, hb'⟩
      rw [hpz, ← hpz k, hp]
      rw [← hpz k, hp] at w3
      exact w3

end Go.Proofs.Ytbnaicgmnadkgaa

/-
  The package code: a code in memory; a word is planted in its tree.
-/
set_option linter.unusedVariables false
set_option linter.unusedSimpArgs false
namespace Go.Proofs.Ytbnaicgmnadkgaa
open Go Go.Vc

def cellsL (y : Lf) : List Value := [i64 y.a, i64 y.b, i64 y.s]
def flatL (tr : List Lf) : List Value := tr.flatMap cellsL
theorem flatL_len (tr : List Lf) : (flatL tr).length = tr.length * 3 := by
  induction tr with
  | nil => rfl
  | cons c r ih => simp only [flatL, List.flatMap_cons, List.length_append, cellsL, List.length_cons, List.length_nil] at *; omega
theorem flatL_app (a b : List Lf) : flatL (a ++ b) = flatL a ++ flatL b := List.flatMap_append

theorem leaf_at {tr : List Lf} {i : Nat} {y : Lf} (hi : tr[i]? = some y) : (flatL tr)[i * 3]? = some (i64 y.a) ∧ (flatL tr)[i * 3 + 1]? = some (i64 y.b) ∧ (flatL tr)[i * 3 + 2]? = some (i64 y.s) := by
  induction tr generalizing i with
  | nil => simp at hi
  | cons a r ih =>
    have e : flatL (a :: r) = i64 a.a :: i64 a.b :: i64 a.s :: flatL r := rfl
    rw [e]
    cases i with
    | zero => simp at hi; subst hi; exact ⟨rfl, rfl, rfl⟩
    | succ i =>
      have := ih (by simpa using hi)
      rw [show (i + 1) * 3 = i * 3 + 3 by omega]
      exact this
theorem leaf_nx {tr : List Lf} {i : Nat} {y : Lf} (hi : tr[i]? = some y) (c : Bool) : (flatL tr)[i * 3 + c.toNat]? = some (i64 (y.nx c)) := by
  obtain ⟨h1, h2, h3⟩ := leaf_at hi
  cases c
  · exact h1
  · exact h2

theorem flatL_go {tr : List Lf} {i : Nat} {y : Lf} (hi : tr[i]? = some y) (c : Bool) (k : Nat) : (flatL tr).set (i * 3 + c.toNat) (i64 k) = flatL (tr.set i (y.go c k)) := by
  induction tr generalizing i with
  | nil => simp at hi
  | cons a r ih =>
    have e : flatL (a :: r) = i64 a.a :: i64 a.b :: i64 a.s :: flatL r := rfl
    cases i with
    | zero =>
      simp at hi; subst hi
      cases c <;> rfl
    | succ i =>
      have e2 : flatL ((a :: r).set (i + 1) (y.go c k)) = i64 a.a :: i64 a.b :: i64 a.s :: flatL (r.set i (y.go c k)) := rfl
      rw [e, e2, show (i + 1) * 3 + c.toNat = i * 3 + c.toNat + 1 + 1 + 1 by omega]
      simp only [List.set_cons_succ]
      rw [ih (by simpa using hi)]

theorem flatL_sym {tr : List Lf} {i : Nat} {y : Lf} (hi : tr[i]? = some y) (s : Int) : (flatL tr).set (i * 3 + 2) (i64 s) = flatL (tr.set i ⟨y.a, y.b, s⟩) := by
  induction tr generalizing i with
  | nil => simp at hi
  | cons a r ih =>
    have e : flatL (a :: r) = i64 a.a :: i64 a.b :: i64 a.s :: flatL r := rfl
    cases i with
    | zero => simp at hi; subst hi; rfl
    | succ i =>
      have e2 : flatL ((a :: r).set (i + 1) ⟨y.a, y.b, s⟩) = i64 a.a :: i64 a.b :: i64 a.s :: flatL (r.set i ⟨y.a, y.b, s⟩) := rfl
      rw [e, e2, show (i + 1) * 3 + 2 = i * 3 + 2 + 1 + 1 + 1 by omega]
      simp only [List.set_cons_succ]
      rw [ih (by simpa using hi)]

theorem bsub (c : Bool) : IntKind.u8.wrap ((((bt c).toNat : Nat) : Int) - 48) = ((c.toNat : Nat) : Int) := by cases c <;> decide

theorem rds_isS {H : Hp} {size n : Nat} {v : Value} {xs : List Value} (h : RdS H size v n xs) : ∃ a c, v = .slice a n c := by
  obtain ⟨_, ⟨rfl, a, c, rfl⟩ | ⟨b, o, c, l, rfl, _⟩⟩ := h
  · exact ⟨_, _, rfl⟩
  · exact ⟨_, _, rfl⟩

/-- A code in memory: its words, its tree. -/
structure CodeM (H : Hp) (x wb tb : Nat) (ws : List (List Bool)) (tr : List Lf) : Prop where
  rep : ∃ tv, H.own x = some [.slice (some ⟨wb, 0, none⟩) ws.length ws.length, tv] ∧ Sl H 3 tv tr.length (flatL tr) (some tb)
  words : H.own wb = some (ws.map strB)
  ne : x ≠ wb ∧ x ≠ tb ∧ wb ≠ tb

theorem CodeM.ext {S : Nat → Prop} {H H' : Hp} {x wb tb : Nat} {ws : List (List Bool)} {tr : List Lf} (h : CodeM H x wb tb ws tr) (e : Ext S H H') (hx : ¬ S x) (hw : ¬ S wb) (ht : ¬ S tb) : CodeM H' x wb tb ws tr := by
  obtain ⟨tv, h1, h2⟩ := h.rep
  exact ⟨⟨tv, e.own h1 hx, h2.ext e (fun b hb => by injection hb with hb; exact hb ▸ ht)⟩, e.own h.words hw, h.ne⟩
theorem CodeM.lt {H : Hp} {x wb tb : Nat} {ws : List (List Bool)} {tr : List Lf} (h : CodeM H x wb tb ws tr) : x < H.size ∧ wb < H.size ∧ tb < H.size := by
  obtain ⟨tv, h1, h2⟩ := h.rep
  exact ⟨own_lt h1, own_lt h.words, h2.lt⟩

/-- The leaves' block. -/
theorem CodeM.tree {H : Hp} {x wb tb : Nat} {ws : List (List Bool)} {tr : List Lf} (h : CodeM H x wb tb ws tr) : ∃ c l, H.own x = some [.slice (some ⟨wb, 0, none⟩) ws.length ws.length, .slice (some ⟨tb, 0, none⟩) tr.length c] ∧ H.own tb = some l ∧ tr.length ≤ c ∧ c * 3 ≤ l.length ∧ l.take (tr.length * 3) = flatL tr := by
  obtain ⟨tv, h1, h2⟩ := h.rep
  obtain ⟨_, l, c, rfl, h3, h4, h5, h6⟩ := h2
  exact ⟨c, l, h1, h3, h4, h5, h6⟩

theorem take_get {l xs : List Value} {n i : Nat} {v : Value} (h : l.take n = xs) (hi : xs[i]? = some v) : l[i]? = some v := by
  rw [← h, List.getElem?_take] at hi
  split at hi
  · exact hi
  · cases hi

/-- One leaf's cell is another one. -/
theorem CodeM.setL {H : Hp} {x wb tb : Nat} {ws : List (List Bool)} {tr tr' : List Lf} (h : CodeM H x wb tb ws tr) {l : List Value} (hl : H.own tb = some l) (i : Nat) (v : Value) (hs : (flatL tr).set i v = flatL tr') (hn : tr'.length = tr.length) : CodeM (H.wr tb (l.set i v)) x wb tb ws tr' := by
  obtain ⟨c, l', h1, h2, h3, h4, h5⟩ := h.tree
  rw [hl] at h2
  injection h2 with h2
  subst h2
  obtain ⟨n1, n2, n3⟩ := h.ne
  refine ⟨⟨_, by rw [own_wr_ne (Ne.symm n2)]; exact h1, ?_⟩, by rw [own_wr_ne (Ne.symm n3)]; exact h.words, h.ne⟩
  refine ⟨by rw [flatL_len], l.set i v, c, by rw [hn], own_wr_same hl, by rw [hn]; exact h3, by rw [List.length_set]; exact h4, by rw [hn, take_set', h5, hs]⟩

theorem bytes_bits (w : List Bool) : ((⟨(w.map bt).toArray⟩ : ByteArray).data.toList.map fun b => Value.int .u8 b.toNat) = w.map bv := by
  simp only [List.map_map]
  rfl

set_option maxRecDepth 100000 in
set_option maxHeartbeats 4000000 in
theorem code_plant_spec {H : Hp} {x wb tb s : Nat} {ws : List (List Bool)} {tr : List Lf} {pth : List (List Bool)} {P : List (Nat × List Bool)} {w : List Bool} (m0 : CodeM H x wb tb ws tr) (t0 : TrieI tr pth P []) (hs : ws[s]? = some w) (hw : w.length ≤ 1000) (hl : tr.length ≤ 1000000000) (hwl : ws.length ≤ 1000000000) :
    CallH Try.prog n_code_Code_plant [ptr x, i64 s] H fun _ H' => Post (∃ tr' pth' tb', CodeM H' x wb tb' ws tr' ∧ TrieI tr' pth' ((s, w) :: P) [] ∧ tr'.length ≤ tr.length + w.length ∧ Ext (fun z => z = x ∨ z = tb) H H' ∧ (tb' = tb ∨ H.size ≤ tb')) := by
  have hsl := (List.getElem?_eq_some_iff.1 hs).1
  obtain ⟨c0, l0, o0, o1, o2, o3, o4⟩ := m0.tree
  have hsv : (ws.map strB)[s]? = some (strB w) := by rw [List.getElem?_map, hs]; rfl
  refine c_code_Code_plant ⟨rfl, ?_⟩
  simp (disch := (first | omega | (simp only [size_new, size_newm, size_wr, size_wrm] <;> omega) | fail)) only [go_sem, Nat.reduceBEq, Nat.reduceAdd, Nat.reduceMul, Nat.reduceLeDiff, ↓reduceIte, rd_new_lt, own_new_lt, mp_new_lt, rd_newm_lt, own_newm_lt, mp_newm_lt, rd_wr_ne, own_wr_ne, mp_wr_ne, rd_wrm_ne, own_wrm_ne, mp_wrm_ne, rd_new_eq, own_new_eq, mp_newm_eq, s_code_Code_plant, rd_of_own o0]
  refine ⟨⟨by omega, by omega⟩, ?_⟩
  simp (disch := (first | omega | (simp only [size_new, size_newm, size_wr, size_wrm] <;> omega) | fail)) only [go_sem, Nat.reduceBEq, Nat.reduceAdd, Nat.reduceMul, Nat.reduceLeDiff, ↓reduceIte, rd_new_lt, own_new_lt, mp_new_lt, rd_newm_lt, own_newm_lt, mp_newm_lt, rd_wr_ne, own_wr_ne, mp_wr_ne, rd_wrm_ne, own_wrm_ne, mp_wrm_ne, rd_new_eq, own_new_eq, mp_newm_eq, rd_of_own m0.words, Nat.mul_one, Nat.zero_add, Int.toNat_natCast, hsv]
  intro cc hcc
  rw [size_str, List.length_map] at hcc ⊢
  rw [bytes_bits]
  have e1 : Fresh H (H.newk 5 (w.map bv ++ List.replicate (cc - w.length) (.int .u8 0))) := (Ext.refl _ _).newk _ _
  have r1 : RdS (H.newk 5 (w.map bv ++ List.replicate (cc - w.length) (.int .u8 0))) 1 (.slice (some ⟨H.size, 0, none⟩) w.length cc) w.length (w.map bv) :=
    ⟨by simp, .inr ⟨H.size, 0, cc, _, rfl, rd_of_mrk (mrk_newk _ _ _), by simp, by simp⟩⟩
  generalize H.newk 5 (w.map bv ++ List.replicate (cc - w.length) (.int .u8 0)) = H1 at *
  have m1 := m0.ext e1 (fun h => h) (fun h => h) (fun h => h)
  have z1 := e1.size
  have hlt := m0.lt
  simp (disch := (first | omega | (simp only [size_new, size_newm, size_wr, size_wrm] <;> omega) | fail)) only [go_sem, Nat.reduceBEq, Nat.reduceAdd, Nat.reduceMul, Nat.reduceLeDiff, ↓reduceIte, rd_new_lt, own_new_lt, mp_new_lt, rd_newm_lt, own_newm_lt, mp_newm_lt, rd_wr_ne, own_wr_ne, mp_wr_ne, rd_wrm_ne, own_wrm_ne, mp_wrm_ne, rd_new_eq, own_new_eq, mp_newm_eq]
  refine LoopV.intro (fun m env H' => ∃ (j at_ : Nat) (tr' : List Lf) (pth' : List (List Bool)) (tb' : Nat), m = w.length - j ∧ j ≤ w.length ∧ CodeM H' x wb tb' ws tr' ∧ TrieI tr' pth' P (w.take j) ∧ pth'[at_]? = some (w.take j) ∧ tr'.length ≤ tr.length + j ∧ RdS H' 1 (.slice (some ⟨H.size, 0, none⟩) w.length cc) w.length (w.map bv) ∧ Ext (fun z => z = x ∨ z = tb) H H' ∧ (tb' = tb ∨ H.size < tb') ∧
    env = [(0, ptr x), (1, i64 s), (4, i64 at_), (14, .slice (some ⟨H.size, 0, none⟩) w.length cc), (15, i64 w.length), (16, i64 j)]) w.length
    ⟨0, 0, tr, pth, tb, by omega, by omega, m1, t0, t0.root, by omega, r1, e1.mono (fun _ _ h => h.elim), .inl rfl, rfl⟩ ?_
  clear r1 m1
  rintro m env H2 ⟨j, at_, tr', pth', tb', hm, hj, m2, t2, hpa, htl, r2, e2, hb2, rfl⟩
  obtain ⟨c2, l2, p0, p1, p2, p3, p4⟩ := m2.tree
  have hat : at_ < tr'.length := by rw [t2.len]; exact (List.getElem?_eq_some_iff.1 hpa).1
  obtain ⟨y, hy⟩ : ∃ y, tr'[at_]? = some y := ⟨_, List.getElem?_eq_getElem hat⟩
  have hll2 := flatL_len tr'
  simp (disch := (first | omega | (simp only [size_new, size_newm, size_wr, size_wrm] <;> omega) | fail)) only [go_sem, Nat.reduceBEq, Nat.reduceAdd, Nat.reduceMul, Nat.reduceLeDiff, ↓reduceIte, rd_new_lt, own_new_lt, mp_new_lt, rd_newm_lt, own_newm_lt, mp_newm_lt, rd_wr_ne, own_wr_ne, mp_wr_ne, rd_wrm_ne, own_wrm_ne, mp_wrm_ne, rd_new_eq, own_new_eq, mp_newm_eq]
  refine Both.dec (fun hc => ?_) (fun hc => ?_) <;> simp (disch := (first | omega | (simp only [size_new, size_newm, size_wr, size_wrm] <;> omega) | fail)) only [go_sem, Nat.reduceBEq, Nat.reduceAdd, Nat.reduceMul, Nat.reduceLeDiff, ↓reduceIte, rd_new_lt, own_new_lt, mp_new_lt, rd_newm_lt, own_newm_lt, mp_newm_lt, rd_wr_ne, own_wr_ne, mp_wr_ne, rd_wrm_ne, own_wrm_ne, mp_wrm_ne, rd_new_eq, own_new_eq, mp_newm_eq]
  · obtain ⟨b, hb⟩ : ∃ b, w[j]? = some b := ⟨_, List.getElem?_eq_getElem (by omega)⟩
    have htk : w.take (j + 1) = w.take j ++ [b] := by rw [List.take_add_one, hb]; rfl
    have hcell : (w.map bv)[j]? = some (bv b) := by rw [List.getElem?_map, hb]; rfl
    obtain ⟨_, ⟨h0, _⟩ | ⟨b2, o2', c2', lb, hsl2, hrd, hle, hcells⟩⟩ := id r2
    · omega
    injection hsl2 with q1 q2 q3
    injection q1 with q1
    injection q1 with q1 q1' _
    subst q1; subst q1'; subst q3
    have hlb : lb[j]? = some (bv b) := by
      rw [List.drop_zero] at hcells
      exact take_get hcells hcell
    have hnx := take_get p4 (leaf_nx hy b)
    have hbt : (b.toNat : Int) < 2 := by cases b <;> decide
    have hbt0 : (0 : Int) ≤ (b.toNat : Int) := by omega
    refine ⟨⟨by omega, by omega⟩, ?_⟩
    simp (disch := (first | omega | (simp only [size_new, size_newm, size_wr, size_wrm] <;> omega) | fail)) only [go_sem, Nat.reduceBEq, Nat.reduceAdd, Nat.reduceMul, Nat.reduceLeDiff, ↓reduceIte, rd_new_lt, own_new_lt, mp_new_lt, rd_newm_lt, own_newm_lt, mp_newm_lt, rd_wr_ne, own_wr_ne, mp_wr_ne, rd_wrm_ne, own_wrm_ne, mp_wrm_ne, rd_new_eq, own_new_eq, mp_newm_eq, hrd, Int.toNat_natCast, Nat.zero_add, Nat.mul_one, hlb, rd_of_own p0]
    rw [bsub]
    refine ⟨⟨by omega, by omega⟩, ?_⟩
    simp (disch := (first | omega | (simp only [size_new, size_newm, size_wr, size_wrm] <;> omega) | fail)) only [go_sem, Nat.reduceBEq, Nat.reduceAdd, Nat.reduceMul, Nat.reduceLeDiff, ↓reduceIte, rd_new_lt, own_new_lt, mp_new_lt, rd_newm_lt, own_newm_lt, mp_newm_lt, rd_wr_ne, own_wr_ne, mp_wr_ne, rd_wrm_ne, own_wrm_ne, mp_wrm_ne, rd_new_eq, own_new_eq, mp_newm_eq, Int.toNat_natCast, Nat.zero_add, Nat.mul_one, Nat.add_zero]
    refine ⟨by omega, ?_⟩
    simp (disch := (first | omega | (simp only [size_new, size_newm, size_wr, size_wrm] <;> omega) | fail)) only [go_sem, Nat.reduceBEq, Nat.reduceAdd, Nat.reduceMul, Nat.reduceLeDiff, ↓reduceIte, rd_new_lt, own_new_lt, mp_new_lt, rd_newm_lt, own_newm_lt, mp_newm_lt, rd_wr_ne, own_wr_ne, mp_wr_ne, rd_wrm_ne, own_wrm_ne, mp_wrm_ne, rd_new_eq, own_new_eq, mp_newm_eq, rd_of_own p1, Int.toNat_natCast, Nat.zero_add, Nat.mul_one, Nat.add_zero, hnx]
    refine Both.dec (fun h0 => ?_) (fun h0 => ?_) <;> simp (disch := (first | omega | (simp only [size_new, size_newm, size_wr, size_wrm] <;> omega) | fail)) only [go_sem, Nat.reduceBEq, Nat.reduceAdd, Nat.reduceMul, Nat.reduceLeDiff, ↓reduceIte, rd_new_lt, own_new_lt, mp_new_lt, rd_newm_lt, own_newm_lt, mp_newm_lt, rd_wr_ne, own_wr_ne, mp_wr_ne, rd_wrm_ne, own_wrm_ne, mp_wrm_ne, rd_new_eq, own_new_eq, mp_newm_eq]
    · have h0' : y.nx b = 0 := by omega
      simp (disch := (first | omega | (simp only [size_new, size_newm, size_wr, size_wrm] <;> omega) | fail)) only [go_sem, Nat.reduceBEq, Nat.reduceAdd, Nat.reduceMul, Nat.reduceLeDiff, ↓reduceIte, rd_new_lt, own_new_lt, mp_new_lt, rd_newm_lt, own_newm_lt, mp_newm_lt, rd_wr_ne, own_wr_ne, mp_wr_ne, rd_wrm_ne, own_wrm_ne, mp_wrm_ne, rd_new_eq, own_new_eq, mp_newm_eq, rd_of_own p0]
      rw [bsub]
      refine ⟨⟨by omega, by omega⟩, ?_⟩
      simp (disch := (first | omega | (simp only [size_new, size_newm, size_wr, size_wrm] <;> omega) | fail)) only [go_sem, Nat.reduceBEq, Nat.reduceAdd, Nat.reduceMul, Nat.reduceLeDiff, ↓reduceIte, rd_new_lt, own_new_lt, mp_new_lt, rd_newm_lt, own_newm_lt, mp_newm_lt, rd_wr_ne, own_wr_ne, mp_wr_ne, rd_wrm_ne, own_wrm_ne, mp_wrm_ne, rd_new_eq, own_new_eq, mp_newm_eq, Int.toNat_natCast, Nat.zero_add, Nat.mul_one, Nat.add_zero, rd_of_own p0]
      refine ⟨by omega, ?_⟩
      simp (disch := (first | omega | (simp only [size_new, size_newm, size_wr, size_wrm] <;> omega) | fail)) only [go_sem, Nat.reduceBEq, Nat.reduceAdd, Nat.reduceMul, Nat.reduceLeDiff, ↓reduceIte, rd_new_lt, own_new_lt, mp_new_lt, rd_newm_lt, own_newm_lt, mp_newm_lt, rd_wr_ne, own_wr_ne, mp_wr_ne, rd_wrm_ne, own_wrm_ne, mp_wrm_ne, rd_new_eq, own_new_eq, mp_newm_eq, p1, Int.toNat_natCast, Nat.zero_add, Nat.mul_one, Nat.add_zero]
      refine ⟨by omega, ?_⟩
      simp (disch := (first | omega | (simp only [size_new, size_newm, size_wr, size_wrm] <;> omega) | fail)) only [go_sem, Nat.reduceBEq, Nat.reduceAdd, Nat.reduceMul, Nat.reduceLeDiff, ↓reduceIte, rd_new_lt, own_new_lt, mp_new_lt, rd_newm_lt, own_newm_lt, mp_newm_lt, rd_wr_ne, own_wr_ne, mp_wr_ne, rd_wrm_ne, own_wrm_ne, mp_wrm_ne, rd_new_eq, own_new_eq, mp_newm_eq]
      have m3 := m2.setL p1 (at_ * 3 + b.toNat) (i64 tr'.length) (flatL_go hy b tr'.length) (by rw [List.length_set])
      have e3 : Ext (fun z => z = tb') H2 (H2.wr tb' (l2.set (at_ * 3 + b.toNat) (i64 tr'.length))) := (Ext.refl (fun z => z = tb') _).wr (fun _ => rfl) _
      generalize H2.wr tb' (l2.set (at_ * 3 + b.toNat) (i64 tr'.length)) = H3 at *
      obtain ⟨tg, hpg⟩ := t2.grow hy hpa h0'
      obtain ⟨n1, n2, n3⟩ := m2.ne
      obtain ⟨tv3, s0, s1⟩ := m3.rep
      have lt2 := m2.lt
      simp (disch := (first | omega | (simp only [size_new, size_newm, size_wr, size_wrm] <;> omega) | fail)) only [go_sem, Nat.reduceBEq, Nat.reduceAdd, Nat.reduceMul, Nat.reduceLeDiff, ↓reduceIte, rd_new_lt, own_new_lt, mp_new_lt, rd_newm_lt, own_newm_lt, mp_newm_lt, rd_wr_ne, own_wr_ne, mp_wr_ne, rd_wrm_ne, own_wrm_ne, mp_wrm_ne, rd_new_eq, own_new_eq, mp_newm_eq, rd_of_own s0]
      have e4 : Fresh H3 (H3.new 89 [i64 0, i64 0, i64 (-1)]) := (Ext.refl _ _).new _ _
      have r4 : RdS (H3.new 89 [i64 0, i64 0, i64 (-1)]) 3 (.slice (some ⟨H3.size, 0, none⟩) 1 1) 1 [i64 0, i64 0, i64 (-1)] := (Sl.lit_at (size := 3) (n := 1) rfl rfl).rd
      have s1' := s1.ext e4 (fun _ _ h => h)
      have s0' := e4.own s0 (fun h => h)
      have w4 := e4.own m3.words (fun h => h)
      have hzz := rd_lt hrd
      have z3 := e3.size
      have z4 := e4.size
      have z2 := e2.size
      refine Sl.append s1' r4 rfl (by intro v hv; simp at hv; rcases hv with rfl | rfl | rfl <;> rfl) (by simp; omega) ?_
      intro v' H5 fp' s5 e5 hf5
      generalize H3.new 89 [i64 0, i64 0, i64 (-1)] = H4 at *
      have o5 := e5.own s0' (fun h => n2 (by injection h with h; exact h.symm))
      have w5 := e5.own w4 (fun h => n3 (by injection h with h; exact h.symm))
      obtain ⟨tb5, rfl, hb5⟩ : ∃ tb5, fp' = some tb5 ∧ (tb5 = tb' ∨ H4.size ≤ tb5) := by
        rcases hf5 with rfl | ⟨b5, rfl, h1, _⟩
        · exact ⟨tb', rfl, .inl rfl⟩
        · exact ⟨b5, rfl, .inr h1⟩
      obtain ⟨a', cc', hv'⟩ := rds_isS s5.rd
      subst hv'
      simp (disch := (first | omega | (simp only [size_new, size_newm, size_wr, size_wrm] <;> omega) | fail)) only [go_sem, Nat.reduceBEq, Nat.reduceAdd, Nat.reduceMul, Nat.reduceLeDiff, ↓reduceIte, rd_new_lt, own_new_lt, mp_new_lt, rd_newm_lt, own_newm_lt, mp_newm_lt, rd_wr_ne, own_wr_ne, mp_wr_ne, rd_wrm_ne, own_wrm_ne, mp_wrm_ne, rd_new_eq, own_new_eq, mp_newm_eq, o5]
      generalize hv' : Value.slice a' _ cc' = v' at *
      have e6 : Ext (fun z => z = x) H5 (H5.wr x [.slice (some ⟨wb, 0, none⟩) ws.length ws.length, v']) := (Ext.refl (fun z => z = x) _).wr (fun _ => rfl) _
      have o6 : (H5.wr x [.slice (some ⟨wb, 0, none⟩) ws.length ws.length, v']).own x = _ := own_wr_same o5
      have n2' : x ≠ tb5 := by omega
      have n3' : wb ≠ tb5 := by omega
      have s6 := s5.ext e6 (fun b hb h => by injection hb with hb; exact n2' (by omega))
      have w6 := e6.own w5 (fun h => n1 h.symm)
      have m6 : CodeM (H5.wr x [.slice (some ⟨wb, 0, none⟩) ws.length ws.length, v']) x wb tb5 ws (tr'.set at_ (y.go b tr'.length) ++ [⟨0, 0, -1⟩]) := by
        refine ⟨⟨v', o6, ?_⟩, w6, n1, n2', n3'⟩
        rw [flatL_app, List.length_append]
        exact s6
      have z5 := e5.size
      have z6 := e6.size
      have e26 : Ext (fun z => z = x ∨ z = tb') H2 (H5.wr x [.slice (some ⟨wb, 0, none⟩) ws.length ws.length, v']) :=
        ((e3.mono fun z _ h => .inr h).trans (e4.mono fun _ _ h => h.elim)).trans ((e5.mono fun z _ h => .inr (by injection h with h; exact h.symm)).trans (e6.mono fun z _ h => .inl h))
      generalize H5.wr x [.slice (some ⟨wb, 0, none⟩) ws.length ws.length, v'] = H6 at *
      obtain ⟨c6, l6, g0, g1, g2, g3, g4⟩ := m6.tree
      have hy6 : (tr'.set at_ (y.go b tr'.length) ++ [⟨0, 0, -1⟩])[at_]? = some (y.go b tr'.length) := by rw [List.getElem?_append_left (by simpa using hat), List.getElem?_set_self hat]
      have hnx6 := take_get g4 (leaf_nx hy6 b)
      rw [Lf.nx_go, if_pos rfl] at hnx6
      have hl6 : (tr'.set at_ (y.go b tr'.length) ++ [(⟨0, 0, -1⟩ : Lf)]).length = tr'.length + 1 := by simp
      have hll6 := flatL_len (tr'.set at_ (y.go b tr'.length) ++ [⟨0, 0, -1⟩])
      rw [hl6] at g0 g2 hll6
      simp (disch := (first | omega | (simp only [size_new, size_newm, size_wr, size_wrm] <;> omega) | fail)) only [go_sem, Nat.reduceBEq, Nat.reduceAdd, Nat.reduceMul, Nat.reduceLeDiff, ↓reduceIte, rd_new_lt, own_new_lt, mp_new_lt, rd_newm_lt, own_newm_lt, mp_newm_lt, rd_wr_ne, own_wr_ne, mp_wr_ne, rd_wrm_ne, own_wrm_ne, mp_wrm_ne, rd_new_eq, own_new_eq, mp_newm_eq, rd_of_own g0]
      rw [bsub]
      refine ⟨⟨by omega, by omega⟩, ?_⟩
      simp (disch := (first | omega | (simp only [size_new, size_newm, size_wr, size_wrm] <;> omega) | fail)) only [go_sem, Nat.reduceBEq, Nat.reduceAdd, Nat.reduceMul, Nat.reduceLeDiff, ↓reduceIte, rd_new_lt, own_new_lt, mp_new_lt, rd_newm_lt, own_newm_lt, mp_newm_lt, rd_wr_ne, own_wr_ne, mp_wr_ne, rd_wrm_ne, own_wrm_ne, mp_wrm_ne, rd_new_eq, own_new_eq, mp_newm_eq, Int.toNat_natCast, Nat.zero_add, Nat.mul_one, Nat.add_zero]
      refine ⟨by omega, ?_⟩
      simp (disch := (first | omega | (simp only [size_new, size_newm, size_wr, size_wrm] <;> omega) | fail)) only [go_sem, Nat.reduceBEq, Nat.reduceAdd, Nat.reduceMul, Nat.reduceLeDiff, ↓reduceIte, rd_new_lt, own_new_lt, mp_new_lt, rd_newm_lt, own_newm_lt, mp_newm_lt, rd_wr_ne, own_wr_ne, mp_wr_ne, rd_wrm_ne, own_wrm_ne, mp_wrm_ne, rd_new_eq, own_new_eq, mp_newm_eq, rd_of_own g1, Int.toNat_natCast, Nat.zero_add, Nat.mul_one, Nat.add_zero, hnx6]
      rw [wrap64 (n := (j : Int) + 1) (by omega) (by omega)]
      exact ⟨w.length - (j + 1), by omega, j + 1, tr'.length, _, _, tb5, rfl, by omega, m6, by rw [htk]; exact tg, by rw [htk]; exact hpg, by omega, ⟨by simp, .inr ⟨H.size, 0, cc, lb, rfl, e26.rd hrd (by omega), hle, hcells⟩⟩, e2.trans' e26 (fun z hz h => by omega), by omega, rfl⟩
    · have h0' : y.nx b ≠ 0 := by omega
      obtain ⟨hpg, tg⟩ := t2.step hy hpa h0'
      simp (disch := (first | omega | (simp only [size_new, size_newm, size_wr, size_wrm] <;> omega) | fail)) only [go_sem, Nat.reduceBEq, Nat.reduceAdd, Nat.reduceMul, Nat.reduceLeDiff, ↓reduceIte, rd_new_lt, own_new_lt, mp_new_lt, rd_newm_lt, own_newm_lt, mp_newm_lt, rd_wr_ne, own_wr_ne, mp_wr_ne, rd_wrm_ne, own_wrm_ne, mp_wrm_ne, rd_new_eq, own_new_eq, mp_newm_eq, rd_of_own p0]
      rw [bsub]
      refine ⟨⟨by omega, by omega⟩, ?_⟩
      simp (disch := (first | omega | (simp only [size_new, size_newm, size_wr, size_wrm] <;> omega) | fail)) only [go_sem, Nat.reduceBEq, Nat.reduceAdd, Nat.reduceMul, Nat.reduceLeDiff, ↓reduceIte, rd_new_lt, own_new_lt, mp_new_lt, rd_newm_lt, own_newm_lt, mp_newm_lt, rd_wr_ne, own_wr_ne, mp_wr_ne, rd_wrm_ne, own_wrm_ne, mp_wrm_ne, rd_new_eq, own_new_eq, mp_newm_eq, Int.toNat_natCast, Nat.zero_add, Nat.mul_one, Nat.add_zero]
      refine ⟨by omega, ?_⟩
      simp (disch := (first | omega | (simp only [size_new, size_newm, size_wr, size_wrm] <;> omega) | fail)) only [go_sem, Nat.reduceBEq, Nat.reduceAdd, Nat.reduceMul, Nat.reduceLeDiff, ↓reduceIte, rd_new_lt, own_new_lt, mp_new_lt, rd_newm_lt, own_newm_lt, mp_newm_lt, rd_wr_ne, own_wr_ne, mp_wr_ne, rd_wrm_ne, own_wrm_ne, mp_wrm_ne, rd_new_eq, own_new_eq, mp_newm_eq, rd_of_own p1, Int.toNat_natCast, Nat.zero_add, Nat.mul_one, Nat.add_zero, hnx]
      rw [wrap64 (n := (j : Int) + 1) (by omega) (by omega)]
      exact ⟨w.length - (j + 1), by omega, j + 1, y.nx b, _, _, tb', rfl, by omega, m2, by rw [htk]; exact tg, by rw [htk]; exact hpg, by omega, r2, e2, hb2, rfl⟩
  · have hj2 : j = w.length := by omega
    subst hj2
    rw [List.take_length] at t2 hpa
    simp (disch := (first | omega | (simp only [size_new, size_newm, size_wr, size_wrm] <;> omega) | fail)) only [go_sem, Nat.reduceBEq, Nat.reduceAdd, Nat.reduceMul, Nat.reduceLeDiff, ↓reduceIte, rd_new_lt, own_new_lt, mp_new_lt, rd_newm_lt, own_newm_lt, mp_newm_lt, rd_wr_ne, own_wr_ne, mp_wr_ne, rd_wrm_ne, own_wrm_ne, mp_wrm_ne, rd_new_eq, own_new_eq, mp_newm_eq, rd_of_own p0]
    refine ⟨⟨by omega, by omega⟩, ?_⟩
    simp (disch := (first | omega | (simp only [size_new, size_newm, size_wr, size_wrm] <;> omega) | fail)) only [go_sem, Nat.reduceBEq, Nat.reduceAdd, Nat.reduceMul, Nat.reduceLeDiff, ↓reduceIte, rd_new_lt, own_new_lt, mp_new_lt, rd_newm_lt, own_newm_lt, mp_newm_lt, rd_wr_ne, own_wr_ne, mp_wr_ne, rd_wrm_ne, own_wrm_ne, mp_wrm_ne, rd_new_eq, own_new_eq, mp_newm_eq, p1, Int.toNat_natCast, Nat.zero_add, Nat.mul_one, Nat.add_zero]
    refine ⟨by omega, ?_⟩
    simp (disch := (first | omega | (simp only [size_new, size_newm, size_wr, size_wrm] <;> omega) | fail)) only [go_sem, Nat.reduceBEq, Nat.reduceAdd, Nat.reduceMul, Nat.reduceLeDiff, ↓reduceIte, rd_new_lt, own_new_lt, mp_new_lt, rd_newm_lt, own_newm_lt, mp_newm_lt, rd_wr_ne, own_wr_ne, mp_wr_ne, rd_wrm_ne, own_wrm_ne, mp_wrm_ne, rd_new_eq, own_new_eq, mp_newm_eq]
    exact ⟨_, _, tb', m2.setL p1 (at_ * 3 + 2) (i64 s) (flatL_sym hy s) (by rw [List.length_set]), t2.end_ hy hpa s, by rw [List.length_set]; exact htl, e2.wr (fun hz => by omega) _, by omega⟩

end Go.Proofs.Ytbnaicgmnadkgaa

/-
  Does a text begin with another one; are they bits: the document's way.
-/
set_option linter.unusedVariables false
set_option linter.unusedSimpArgs false
namespace Go.Proofs.Ytbnaicgmnadkgaa
open Go Go.Vc

theorem ref27_begins_spec (H : Hp) (s w : List UInt8) (hs : s.length ≤ 1000000000) (hw : w.length ≤ 1000000000) :
    CallH Try.prog n_ref27_begins [strV s, strV w] H fun v H' => Post (v = .bool (decide (w <+: s)) ∧ H = H') := by
  refine c_ref27_begins ⟨rfl, ?_⟩
  simp (disch := (first | omega | (simp only [size_new, size_newm, size_wr, size_wrm] <;> omega) | fail)) only [go_sem, Nat.reduceBEq, Nat.reduceAdd, Nat.reduceMul, Nat.reduceLeDiff, ↓reduceIte, rd_new_lt, own_new_lt, mp_new_lt, rd_newm_lt, own_newm_lt, mp_newm_lt, rd_wr_ne, own_wr_ne, mp_wr_ne, rd_wrm_ne, own_wrm_ne, mp_wrm_ne, rd_new_eq, own_new_eq, mp_newm_eq, s_ref27_begins]
  rw [size_str, size_str]
  refine Both.dec (fun g => ?_) (fun g => ?_) <;> simp (disch := (first | omega | (simp only [size_new, size_newm, size_wr, size_wrm] <;> omega) | fail)) only [go_sem, Nat.reduceBEq, Nat.reduceAdd, Nat.reduceMul, Nat.reduceLeDiff, ↓reduceIte, rd_new_lt, own_new_lt, mp_new_lt, rd_newm_lt, own_newm_lt, mp_newm_lt, rd_wr_ne, own_wr_ne, mp_wr_ne, rd_wrm_ne, own_wrm_ne, mp_wrm_ne, rd_new_eq, own_new_eq, mp_newm_eq]
  · rw [size_str, ext_str]
    refine ⟨⟨by omega, by omega, by rw [size_str]; omega⟩, ?_⟩
    simp (disch := (first | omega | (simp only [size_new, size_newm, size_wr, size_wrm] <;> omega) | fail)) only [go_sem, Nat.reduceBEq, Nat.reduceAdd, Nat.reduceMul, Nat.reduceLeDiff, ↓reduceIte, rd_new_lt, own_new_lt, mp_new_lt, rd_newm_lt, own_newm_lt, mp_newm_lt, rd_wr_ne, own_wr_ne, mp_wr_ne, rd_wrm_ne, own_wrm_ne, mp_wrm_ne, rd_new_eq, own_new_eq, mp_newm_eq]
    rw [eq_bytes]
    refine ⟨congrArg Value.bool ?_, rfl⟩
    rw [decide_eq_decide, Int.toNat_natCast, List.prefix_iff_eq_take]
    simp
    exact eq_comm
  · refine ⟨congrArg Value.bool ?_, rfl⟩
    symm
    rw [decide_eq_false_iff_not]
    intro hp
    have := hp.length_le
    omega

def isBit (c : UInt8) : Bool := decide (c = 48) || decide (c = 49)

set_option maxRecDepth 100000 in
theorem ref27_Bits_spec (H : Hp) (s : List UInt8) (hs : s.length ≤ 1000000000) :
    CallH Try.prog n_ref27_Bits [strV s] H fun v H' => Post (v = .bool (s.all isBit && decide (s.length ≤ 1048576)) ∧ H = H') := by
  refine c_ref27_Bits ⟨rfl, ?_⟩
  simp (disch := (first | omega | (simp only [size_new, size_newm, size_wr, size_wrm] <;> omega) | fail)) only [go_sem, Nat.reduceBEq, Nat.reduceAdd, Nat.reduceMul, Nat.reduceLeDiff, ↓reduceIte, rd_new_lt, own_new_lt, mp_new_lt, rd_newm_lt, own_newm_lt, mp_newm_lt, rd_wr_ne, own_wr_ne, mp_wr_ne, rd_wrm_ne, own_wrm_ne, mp_wrm_ne, rd_new_eq, own_new_eq, mp_newm_eq, s_ref27_Bits]
  refine LoopV.intro (fun m env H' => H' = H ∧ ∃ j : Nat, m = s.length - j ∧ j ≤ s.length ∧ (∀ x ∈ s.take j, isBit x = true) ∧ env = [(0, strV s), (3, i64 j)]) s.length ⟨rfl, 0, by omega, by omega, by simp, rfl⟩ ?_
  rintro m env H1 ⟨rfl, j, hm, hj, hall, rfl⟩
  simp (disch := (first | omega | (simp only [size_new, size_newm, size_wr, size_wrm] <;> omega) | fail)) only [go_sem, Nat.reduceBEq, Nat.reduceAdd, Nat.reduceMul, Nat.reduceLeDiff, ↓reduceIte, rd_new_lt, own_new_lt, mp_new_lt, rd_newm_lt, own_newm_lt, mp_newm_lt, rd_wr_ne, own_wr_ne, mp_wr_ne, rd_wrm_ne, own_wrm_ne, mp_wrm_ne, rd_new_eq, own_new_eq, mp_newm_eq]
  rw [size_str]
  refine Both.dec (fun hlt => ?_) (fun hlt => ?_) <;> simp (disch := (first | omega | (simp only [size_new, size_newm, size_wr, size_wrm] <;> omega) | fail)) only [go_sem, Nat.reduceBEq, Nat.reduceAdd, Nat.reduceMul, Nat.reduceLeDiff, ↓reduceIte, rd_new_lt, own_new_lt, mp_new_lt, rd_newm_lt, own_newm_lt, mp_newm_lt, rd_wr_ne, own_wr_ne, mp_wr_ne, rd_wrm_ne, own_wrm_ne, mp_wrm_ne, rd_new_eq, own_new_eq, mp_newm_eq]
  · obtain ⟨x, hx⟩ : ∃ x, s[j]? = some x := ⟨_, List.getElem?_eq_getElem (by omega)⟩
    have hg : (⟨s.toArray⟩ : ByteArray)[j]? = some x := by rw [get_str, hx]
    refine ⟨by omega, ?_⟩
    simp (disch := (first | omega | (simp only [size_new, size_newm, size_wr, size_wrm] <;> omega) | fail)) only [go_sem, Nat.reduceBEq, Nat.reduceAdd, Nat.reduceMul, Nat.reduceLeDiff, ↓reduceIte, rd_new_lt, own_new_lt, mp_new_lt, rd_newm_lt, own_newm_lt, mp_newm_lt, rd_wr_ne, own_wr_ne, mp_wr_ne, rd_wrm_ne, own_wrm_ne, mp_wrm_ne, rd_new_eq, own_new_eq, mp_newm_eq, Int.toNat_natCast, hg]
    have hmem := List.mem_of_getElem? hx
    have next : isBit x = true → ∀ y ∈ s.take (j + 1), isBit y = true := fun hb y hy => by
      rw [List.take_add_one, hx] at hy
      rcases List.mem_append.1 hy with hy | hy
      · exact hall y hy
      · have : y = x := by simpa using hy
        rw [this]; exact hb
    have e48 : ((x.toNat : Nat) : Int) = 48 → isBit x = true := fun hh => by
      have : x = 48 := UInt8.toNat_inj.1 (by show x.toNat = 48; omega)
      subst this; rfl
    have e49 : ((x.toNat : Nat) : Int) = 49 → isBit x = true := fun hh => by
      have : x = 49 := UInt8.toNat_inj.1 (by show x.toNat = 49; omega)
      subst this; rfl
    refine Both.dec (fun g1 => ?_) (fun g1 => ?_) <;> simp (disch := (first | omega | (simp only [size_new, size_newm, size_wr, size_wrm] <;> omega) | fail)) only [go_sem, Nat.reduceBEq, Nat.reduceAdd, Nat.reduceMul, Nat.reduceLeDiff, ↓reduceIte, rd_new_lt, own_new_lt, mp_new_lt, rd_newm_lt, own_newm_lt, mp_newm_lt, rd_wr_ne, own_wr_ne, mp_wr_ne, rd_wrm_ne, own_wrm_ne, mp_wrm_ne, rd_new_eq, own_new_eq, mp_newm_eq]
    · rw [wrap64 (n := (j : Int) + 1) (by omega) (by omega)]
      exact ⟨s.length - (j + 1), by omega, trivial, j + 1, rfl, by omega, next (e48 g1), rfl⟩
    refine ⟨by omega, ?_⟩
    simp (disch := (first | omega | (simp only [size_new, size_newm, size_wr, size_wrm] <;> omega) | fail)) only [go_sem, Nat.reduceBEq, Nat.reduceAdd, Nat.reduceMul, Nat.reduceLeDiff, ↓reduceIte, rd_new_lt, own_new_lt, mp_new_lt, rd_newm_lt, own_newm_lt, mp_newm_lt, rd_wr_ne, own_wr_ne, mp_wr_ne, rd_wrm_ne, own_wrm_ne, mp_wrm_ne, rd_new_eq, own_new_eq, mp_newm_eq, Int.toNat_natCast, hg]
    refine Both.dec (fun g2 => ?_) (fun g2 => ?_) <;> simp (disch := (first | omega | (simp only [size_new, size_newm, size_wr, size_wrm] <;> omega) | fail)) only [go_sem, Nat.reduceBEq, Nat.reduceAdd, Nat.reduceMul, Nat.reduceLeDiff, ↓reduceIte, rd_new_lt, own_new_lt, mp_new_lt, rd_newm_lt, own_newm_lt, mp_newm_lt, rd_wr_ne, own_wr_ne, mp_wr_ne, rd_wrm_ne, own_wrm_ne, mp_wrm_ne, rd_new_eq, own_new_eq, mp_newm_eq]
    · rw [wrap64 (n := (j : Int) + 1) (by omega) (by omega)]
      exact ⟨s.length - (j + 1), by omega, trivial, j + 1, rfl, by omega, next (e49 g2), rfl⟩
    · refine ⟨congrArg Value.bool ?_, rfl⟩
      symm
      rw [Bool.and_eq_false_iff]
      left
      rw [List.all_eq_false]
      refine ⟨x, hmem, fun hb => ?_⟩
      unfold isBit at hb
      rw [Bool.or_eq_true, decide_eq_true_eq, decide_eq_true_eq] at hb
      rcases hb with hb | hb
      · subst hb; exact g1 rfl
      · subst hb; exact g2 rfl
  · have hj2 : j = s.length := by omega
    subst hj2
    rw [List.take_length] at hall
    refine ⟨congrArg Value.bool ?_, rfl⟩
    rw [List.all_eq_true.2 hall, Bool.true_and, size_str, decide_eq_decide]
    omega

end Go.Proofs.Ytbnaicgmnadkgaa

/-
  Slices of bytes.
-/
set_option linter.unusedVariables false
set_option linter.unusedSimpArgs false
namespace Go.Proofs.Ytbnaicgmnadkgaa
open Go Go.Vc

def u8s (ns : List Nat) : List Value := ns.map fun (n : Nat) => Value.int .u8 (n : Int)
theorem ones_u8s (ns : List Nat) : allOne (u8s ns) := fun v hv => by
  obtain ⟨x, _, rfl⟩ := List.mem_map.1 hv
  rfl
theorem u8s_app (a b : List Nat) : u8s (a ++ b) = u8s a ++ u8s b := List.map_append
theorem u8s_len (a : List Nat) : (u8s a).length = a.length := List.length_map ..

theorem wrapU8_mod (n : Nat) : IntKind.u8.wrap (n : Int) = ((n % 256 : Nat) : Int) := by
  have e : (2 ^ IntKind.u8.bits : Int) = 256 := rfl
  unfold IntKind.wrap
  simp only [e, IntKind.signed, Bool.false_and]
  rw [if_neg (by simp)]; omega
theorem RdS.byte {H : Hp} {a : Option Addr} {n c : Nat} {ns : List Nat} (h : RdS H 1 (.slice a n c) n (u8s ns)) {i x : Nat} (hx : ns[i]? = some x) :
    i < n ∧ ∃ b o lb, a = some ⟨b, o, none⟩ ∧ H.rd b = some lb ∧ lb[o + i]? = some (.int .u8 (x : Int)) := by
  obtain ⟨hl, hv⟩ := h
  rw [u8s_len, Nat.mul_one] at hl
  have hi : i < ns.length := by
    rcases Nat.lt_or_ge i ns.length with h | h
    · exact h
    · rw [List.getElem?_eq_none h] at hx; cases hx
  refine ⟨by omega, ?_⟩
  rcases hv with ⟨hn, _⟩ | ⟨b, o, c2, l, hs, hrd, hle, ht⟩
  · omega
  · injection hs with hs1 hs2 hs3
    refine ⟨b, o, l, hs1, hrd, ?_⟩
    have h7 : (u8s ns)[i]? = some (.int .u8 (x : Int)) := by unfold u8s; rw [List.getElem?_map, hx]; rfl
    rw [← ht, List.getElem?_take] at h7
    split at h7
    · rw [List.getElem?_drop] at h7; exact h7
    · cases h7

theorem bytesOf_u8s (ns : List Nat) : Go.Vc.bytesOf (u8s ns) = some (ns.map UInt8.ofNat) := by
  induction ns with
  | nil => rfl
  | cons n ns ih =>
    show Go.Vc.bytesOf (Value.int .u8 (n : Int) :: u8s ns) = _
    rw [Go.Vc.bytesOf_cons, ih, Int.toNat_natCast]
    rfl

/-- A byte more at the end of a slice whose block is of the call's own. -/
theorem pushB {H : Hp} {T B b : Nat} {w : Value} {ns : List Nat} {K : Value → Hp → Prop} (hb : B ≤ b) (hB : B ≤ H.size) (s : Sl H 1 w ns.length (u8s ns) (some b)) (x : Nat) (hl : ns.length ≤ 1000000000000)
    (hk : ∀ w' H' b', B ≤ b' → Sl H' 1 w' (ns ++ [x]).length (u8s (ns ++ [x])) (some b') → Ext (fun z => B ≤ z) H H' → K w' H') :
    AppendV T 1 1 [.int .u8 0] w (.slice (some ⟨H.size, 0, none⟩) 1 1) (H.new T [.int .u8 (x : Int)]) K := by
  have fl : Fresh H (H.new T [.int .u8 (x : Int)]) := (Ext.refl _ _).new _ _
  refine Sl.append (s.ext fl (fun _ _ h => h)) (Sl.lit_at (size := 1) (n := 1) (xs := u8s [x]) rfl rfl).rd rfl (ones_u8s [x]) (by omega) ?_
  intro v' H' fp' s' e' hf'
  have e2 : Ext (fun z => B ≤ z) H H' := ⟨Nat.le_trans fl.size e'.size, fun z hz hn => by
    rw [e'.keep z (Nat.lt_of_lt_of_le hz fl.size) (fun h => hn (by injection h with h; omega)), fl.keep z hz (fun h => h)]⟩
  have s2 : Sl H' 1 v' (ns ++ [x]).length (u8s (ns ++ [x])) fp' := by rw [List.length_append, u8s_app]; exact s'
  rcases hf' with rfl | ⟨b', rfl, h1, h2⟩
  · exact hk v' H' b hb s2 e2
  · rw [size_new] at h1
    exact hk v' H' b' (by omega) s2 e2

/-- Also onto nothing. -/
theorem pushBO {H : Hp} {T B : Nat} {w : Value} {ns : List Nat} {fp : Option Nat} {K : Value → Hp → Prop} (hfp : ∀ b, fp = some b → B ≤ b) (hB : B ≤ H.size) (s : Sl H 1 w ns.length (u8s ns) fp) (x : Nat) (hl : ns.length ≤ 1000000000000)
    (hk : ∀ w' H' fp', (∀ b, fp' = some b → B ≤ b) → Sl H' 1 w' (ns ++ [x]).length (u8s (ns ++ [x])) fp' → Ext (fun z => B ≤ z) H H' → K w' H') :
    AppendV T 1 1 [.int .u8 0] w (.slice (some ⟨H.size, 0, none⟩) 1 1) (H.new T [.int .u8 (x : Int)]) K := by
  have fl : Fresh H (H.new T [.int .u8 (x : Int)]) := (Ext.refl _ _).new _ _
  refine Sl.append (s.ext fl (fun _ _ h => h)) (Sl.lit_at (size := 1) (n := 1) (xs := u8s [x]) rfl rfl).rd rfl (ones_u8s [x]) (by omega) ?_
  intro v' H' fp' s' e' hf'
  refine hk v' H' fp' (fun b hb => ?_) (by rw [List.length_append, u8s_app]; exact s') ⟨Nat.le_trans fl.size e'.size, fun z hz hn => ?_⟩
  · rcases hf' with h | ⟨b', hb', h1, h2⟩
    · exact hfp b (by rw [← h]; exact hb)
    · rw [hb] at hb'; injection hb' with hb'; have := fl.size; omega
  · rw [e'.keep z (Nat.lt_of_lt_of_le hz fl.size) (fun h => hn (hfp z h)), fl.keep z hz (fun h => h)]

end Go.Proofs.Ytbnaicgmnadkgaa
