/-
  Whatever keys come into one heap come out in their order.
-/
import Derived.Test.YteicchpglnamcaaAtN
set_option linter.unusedVariables false
set_option linter.unusedSimpArgs false
namespace Go.Proofs.Yteicchpglnamcaa
open Go Go.Vc

set_option maxHeartbeats 2000000 in
theorem law05_sorts_spec {ov : Value} {I : Hp → (Nat → Prop) → Int → Nw → Prop} {lim : Int → Int} {rows : Bool} (ho : NestS ov I lim rows) {Hh H : Hp} {keys : List Int} {kv : Value} (hrd : RdS Hh 1 kv keys.length (keys.map i64)) (hmax : keys.length ≤ 60000)
    (h : AtN I Hh H ⟨[false], List.replicate keys.length (0, 0, 0)⟩) : CallH Try.prog n_law05_sorts [ov, kv] H fun v H' => Post (v = .bool true ∧ Fresh Hh H') := by
  obtain ⟨a, c, rfl⟩ := RdS.val2 hrd
  refine c_law05_sorts ⟨rfl, ?_⟩
  simp (disch := (first | omega | (simp only [size_new, size_newm, size_wr, size_wrm] <;> omega) | fail)) only [go_sem, Nat.reduceBEq, Nat.reduceAdd, Nat.reduceMul, Nat.reduceLeDiff, ↓reduceIte, rd_new_lt, own_new_lt, mp_new_lt, rd_newm_lt, own_newm_lt, mp_newm_lt, rd_wr_ne, own_wr_ne, mp_wr_ne, rd_wrm_ne, own_wrm_ne, mp_wrm_ne, rd_new_eq, own_new_eq, mp_newm_eq, s_law05_sorts]
  refine InvH.mono (ho.makeA h) ?_
  rintro _ H1 (⟨h1, _⟩ | ⟨_, rfl, t1⟩)
  · simp at h1
  simp only [List.length_singleton]
  simp (disch := (first | omega | (simp only [size_new, size_newm, size_wr, size_wrm] <;> omega) | fail)) only [go_sem, Nat.reduceBEq, Nat.reduceAdd, Nat.reduceMul, Nat.reduceLeDiff, ↓reduceIte, rd_new_lt, own_new_lt, mp_new_lt, rd_newm_lt, own_newm_lt, mp_newm_lt, rd_wr_ne, own_wr_ne, mp_wr_ne, rd_wrm_ne, own_wrm_ne, mp_wrm_ne, rd_new_eq, own_new_eq, mp_newm_eq]
  refine LoopV.intro (fun m env H' => ∃ (i : Nat) (w : Nw), env = [(0, ov), (1, .slice a keys.length c), (5, i64 1), (18, .slice a keys.length c), (19, i64 keys.length), (20, i64 i)] ∧ m = keys.length - i ∧ i ≤ keys.length ∧ AtN I Hh H' w ∧
      w.hs = [false, true] ∧ w.cs.length = keys.length ∧ (w.len 1 = i) ∧ ∀ (j : Nat) (k : Int), keys[j]? = some k → w.cs[j]? = some (if j < i then (1, k, 0) else (0, 0, 0))) keys.length
    ⟨0, _, rfl, by omega, by omega, t1, rfl, by simp [Nw.make], ?_, fun j k hk => ?_⟩ ?_
  · rw [Nw.len0.2 (.inr fun i c hc => by
      simp only [Nw.make, List.getElem?_replicate] at hc
      split at hc
      · injection hc with hc; subst hc; simp
      · cases hc)]
    rfl
  · have := (List.getElem?_eq_some_iff.1 hk).1
    simp only [Nw.make, List.getElem?_replicate, if_pos this]
    rfl
  rintro m env H2 ⟨i, w, rfl, rfl, hi, t2, hhs, hcl, hlen, hcs⟩
  simp (disch := (first | omega | (simp only [size_new, size_newm, size_wr, size_wrm] <;> omega) | fail)) only [go_sem, Nat.reduceBEq, Nat.reduceAdd, Nat.reduceMul, Nat.reduceLeDiff, ↓reduceIte, rd_new_lt, own_new_lt, mp_new_lt, rd_newm_lt, own_newm_lt, mp_newm_lt, rd_wr_ne, own_wr_ne, mp_wr_ne, rd_wrm_ne, own_wrm_ne, mp_wrm_ne, rd_new_eq, own_new_eq, mp_newm_eq]
  refine Both.dec (fun hin => ?_) (fun hin => ?_)
  · simp (disch := (first | omega | (simp only [size_new, size_newm, size_wr, size_wrm] <;> omega) | fail)) only [go_sem, Nat.reduceBEq, Nat.reduceAdd, Nat.reduceMul, Nat.reduceLeDiff, ↓reduceIte, rd_new_lt, own_new_lt, mp_new_lt, rd_newm_lt, own_newm_lt, mp_newm_lt, rd_wr_ne, own_wr_ne, mp_wr_ne, rd_wrm_ne, own_wrm_ne, mp_wrm_ne, rd_new_eq, own_new_eq, mp_newm_eq]
    obtain ⟨k, hk⟩ : ∃ k, keys[i]? = some k := ⟨_, List.getElem?_eq_getElem (by omega)⟩
    obtain ⟨bb, bo, bc, bl, q1, q2, q3, q4⟩ := RdS.get (hrd.fresh t2.fresh) (i := i) (j := 0) (x := i64 k) (by omega) (by simp [hk])
    injection q1 with q1 _ q1'
    subst q1 q1'
    refine ⟨by omega, ?_⟩
    simp (disch := (first | omega | (simp only [size_new, size_newm, size_wr, size_wrm] <;> omega) | fail)) only [go_sem, Nat.reduceBEq, Nat.reduceAdd, Nat.reduceMul, Nat.reduceLeDiff, ↓reduceIte, rd_new_lt, own_new_lt, mp_new_lt, rd_newm_lt, own_newm_lt, mp_newm_lt, rd_wr_ne, own_wr_ne, mp_wr_ne, rd_wrm_ne, own_wrm_ne, mp_wrm_ne, rd_new_eq, own_new_eq, mp_newm_eq, q2, Int.toNat_natCast, show bl[bo + i * 1]? = some (i64 k) from q4]
    refine InvH.mono (ho.insertA t2 1 i k 0) ?_
    have hci := hcs i k hk
    rw [if_neg (Nat.lt_irrefl _)] at hci
    have hcan : w.canPut 1 i := ⟨⟨by omega, by rw [hhs]; rfl⟩, ⟨by omega, by omega⟩, fun hin => by
      obtain ⟨_, x, hx, hx0⟩ := hin
      rw [Int.toNat_natCast, hci] at hx
      injection hx with hx
      subst hx
      omega⟩
    rintro _ H3 (⟨h3, _⟩ | ⟨_, rfl, t3⟩)
    · exact absurd hcan h3
    have hci' : w.cs[(i : Int).toNat]? = some (0, 0, 0) := by rw [Int.toNat_natCast]; exact hci
    have hlen3 : (w.put i (1, k, 0)).len 1 = (i : Int) + 1 := by
      rw [Nw.len_put hci' 1, if_neg (by omega), if_pos ⟨by omega, rfl⟩]; omega
    simp (disch := (first | omega | (simp only [size_new, size_newm, size_wr, size_wrm] <;> omega) | fail)) only [go_sem, Nat.reduceBEq, Nat.reduceAdd, Nat.reduceMul, Nat.reduceLeDiff, ↓reduceIte, rd_new_lt, own_new_lt, mp_new_lt, rd_newm_lt, own_newm_lt, mp_newm_lt, rd_wr_ne, own_wr_ne, mp_wr_ne, rd_wrm_ne, own_wrm_ne, mp_wrm_ne, rd_new_eq, own_new_eq, mp_newm_eq]
    refine InvH.mono (ho.lenA t3 1) ?_
    rintro _ _ ⟨rfl, rfl⟩
    rw [hlen3]
    simp (disch := (first | omega | (simp only [size_new, size_newm, size_wr, size_wrm] <;> omega) | fail)) only [go_sem, Nat.reduceBEq, Nat.reduceAdd, Nat.reduceMul, Nat.reduceLeDiff, ↓reduceIte, rd_new_lt, own_new_lt, mp_new_lt, rd_newm_lt, own_newm_lt, mp_newm_lt, rd_wr_ne, own_wr_ne, mp_wr_ne, rd_wrm_ne, own_wrm_ne, mp_wrm_ne, rd_new_eq, own_new_eq, mp_newm_eq]
    rw [wrap64 (n := (i : Int) + 1) (by omega) (by omega)]
    refine Both.of_true (by simp) ?_
    simp (disch := (first | omega | (simp only [size_new, size_newm, size_wr, size_wrm] <;> omega) | fail)) only [go_sem, Nat.reduceBEq, Nat.reduceAdd, Nat.reduceMul, Nat.reduceLeDiff, ↓reduceIte, rd_new_lt, own_new_lt, mp_new_lt, rd_newm_lt, own_newm_lt, mp_newm_lt, rd_wr_ne, own_wr_ne, mp_wr_ne, rd_wrm_ne, own_wrm_ne, mp_wrm_ne, rd_new_eq, own_new_eq, mp_newm_eq]
    rw [wrap64 (n := (i : Int) + 1) (by omega) (by omega)]
    refine ⟨keys.length - (i + 1), by omega, i + 1, _, rfl, rfl, by omega, t3, hhs, by simpa [Nw.put] using hcl, by rw [hlen3]; rfl, fun j k' hk' => ?_⟩
    show (w.cs.set (i : Int).toNat _)[j]? = _
    rw [Int.toNat_natCast]
    by_cases hj : i = j
    · subst hj
      rw [hk] at hk'
      injection hk' with hk'
      subst hk'
      rw [List.getElem?_set_self (by omega), if_pos (by omega)]
    · rw [List.getElem?_set_ne hj, hcs j k' hk']
      by_cases hj2 : j < i
      · rw [if_pos hj2, if_pos (by omega)]
      · rw [if_neg hj2, if_neg (by omega)]
  · have hiL : i = keys.length := by omega
    subst hiL
    simp (disch := (first | omega | (simp only [size_new, size_newm, size_wr, size_wrm] <;> omega) | fail)) only [go_sem, Nat.reduceBEq, Nat.reduceAdd, Nat.reduceMul, Nat.reduceLeDiff, ↓reduceIte, rd_new_lt, own_new_lt, mp_new_lt, rd_newm_lt, own_newm_lt, mp_newm_lt, rd_wr_ne, own_wr_ne, mp_wr_ne, rd_wrm_ne, own_wrm_ne, mp_wrm_ne, rd_new_eq, own_new_eq, mp_newm_eq]
    refine LoopV.intro (fun m env H' => ∃ (i : Nat) (w : Nw) (last : Int), env = [(0, ov), (1, .slice a keys.length c), (5, i64 1), (8, i64 last), (42, i64 keys.length), (43, i64 i)] ∧ m = keys.length - i ∧ i ≤ keys.length ∧ AtN I Hh H' w ∧
        w.hs = [false, true] ∧ w.cs.length = keys.length ∧ (w.len 1 = keys.length - i) ∧ (∀ (j : Nat) (k : Int), keys[j]? = some k → w.cs[j]? = some (1, k, 0) ∨ w.cs[j]? = some (0, 0, 0)) ∧
        (last = -1 ∨ (0 ≤ last ∧ ∃ kl, keys[last.toNat]? = some kl ∧ ∀ (y : Nat) (k : Int), w.cs[y]? = some (1, k, 0) → kl < k ∨ kl = k ∧ last < y))) keys.length
      ⟨0, w, -1, rfl, by omega, by omega, t2, hhs, hcl, by omega, fun j k hk => ?_, .inl rfl⟩ ?_
    · have := (List.getElem?_eq_some_iff.1 hk).1
      have h := hcs j k hk
      rw [if_pos this] at h
      exact .inl h
    clear hcs hlen hcl hhs t2 hin
    rintro m env H3 ⟨i, w, last, rfl, rfl, hi, t3, hhs, hcl, hlen, hcs, hlast⟩
    simp (disch := (first | omega | (simp only [size_new, size_newm, size_wr, size_wrm] <;> omega) | fail)) only [go_sem, Nat.reduceBEq, Nat.reduceAdd, Nat.reduceMul, Nat.reduceLeDiff, ↓reduceIte, rd_new_lt, own_new_lt, mp_new_lt, rd_newm_lt, own_newm_lt, mp_newm_lt, rd_wr_ne, own_wr_ne, mp_wr_ne, rd_wrm_ne, own_wrm_ne, mp_wrm_ne, rd_new_eq, own_new_eq, mp_newm_eq]
    refine Both.dec (fun hin => ?_) (fun hin => ?_)
    · simp (disch := (first | omega | (simp only [size_new, size_newm, size_wr, size_wrm] <;> omega) | fail)) only [go_sem, Nat.reduceBEq, Nat.reduceAdd, Nat.reduceMul, Nat.reduceLeDiff, ↓reduceIte, rd_new_lt, own_new_lt, mp_new_lt, rd_newm_lt, own_newm_lt, mp_newm_lt, rd_wr_ne, own_wr_ne, mp_wr_ne, rd_wrm_ne, own_wrm_ne, mp_wrm_ne, rd_new_eq, own_new_eq, mp_newm_eq]
      refine InvH.mono (ho.minA t3 1) ?_
      rintro _ H4 ⟨t4, ⟨h4, _⟩ | ⟨x, hx, rfl⟩⟩
      · omega
      simp (disch := (first | omega | (simp only [size_new, size_newm, size_wr, size_wrm] <;> omega) | fail)) only [go_sem, Nat.reduceBEq, Nat.reduceAdd, Nat.reduceMul, Nat.reduceLeDiff, ↓reduceIte, rd_new_lt, own_new_lt, mp_new_lt, rd_newm_lt, own_newm_lt, mp_newm_lt, rd_wr_ne, own_wr_ne, mp_wr_ne, rd_wrm_ne, own_wrm_ne, mp_wrm_ne, rd_new_eq, own_new_eq, mp_newm_eq]
      refine InvH.mono (ho.extractA t4 1) ?_
      rintro _ H5 (⟨h5, _⟩ | ⟨y, hy, rfl, t5⟩)
      · omega
      obtain rfl := hx.uniq hy
      obtain ⟨hx1, hx0, ⟨e, he⟩, hleast⟩ := id hx
      have hxl := (List.getElem?_eq_some_iff.1 he).1
      obtain ⟨k, hk⟩ : ∃ k, keys[x.toNat]? = some k := ⟨_, List.getElem?_eq_getElem (by omega)⟩
      have hek : e = (k, 0) := by
        rcases hcs _ k hk with h | h
        · rw [he] at h; injection h with h; injection h with _ h
        · rw [he] at h; injection h with h; injection h with h _; omega
      subst hek
      have hlen5 : (w.put x (0, 0, 0)).len 1 = (keys.length : Int) - (i + 1) := by
        rw [Nw.len_put he 1, if_pos ⟨by omega, rfl⟩, if_neg (fun h => by have := h.2; simp only at this; omega)]; omega
      simp (disch := (first | omega | (simp only [size_new, size_newm, size_wr, size_wrm] <;> omega) | fail)) only [go_sem, Nat.reduceBEq, Nat.reduceAdd, Nat.reduceMul, Nat.reduceLeDiff, ↓reduceIte, rd_new_lt, own_new_lt, mp_new_lt, rd_newm_lt, own_newm_lt, mp_newm_lt, rd_wr_ne, own_wr_ne, mp_wr_ne, rd_wrm_ne, own_wrm_ne, mp_wrm_ne, rd_new_eq, own_new_eq, mp_newm_eq]
      refine Both.of_true (by simp) ?_
      simp (disch := (first | omega | (simp only [size_new, size_newm, size_wr, size_wrm] <;> omega) | fail)) only [go_sem, Nat.reduceBEq, Nat.reduceAdd, Nat.reduceMul, Nat.reduceLeDiff, ↓reduceIte, rd_new_lt, own_new_lt, mp_new_lt, rd_newm_lt, own_newm_lt, mp_newm_lt, rd_wr_ne, own_wr_ne, mp_wr_ne, rd_wrm_ne, own_wrm_ne, mp_wrm_ne, rd_new_eq, own_new_eq, mp_newm_eq]
      refine Both.of_false (by simpa using hx0) ?_
      simp (disch := (first | omega | (simp only [size_new, size_newm, size_wr, size_wrm] <;> omega) | fail)) only [go_sem, Nat.reduceBEq, Nat.reduceAdd, Nat.reduceMul, Nat.reduceLeDiff, ↓reduceIte, rd_new_lt, own_new_lt, mp_new_lt, rd_newm_lt, own_newm_lt, mp_newm_lt, rd_wr_ne, own_wr_ne, mp_wr_ne, rd_wrm_ne, own_wrm_ne, mp_wrm_ne, rd_new_eq, own_new_eq, mp_newm_eq]
      refine Both.of_false (by simp; omega) ?_
      simp (disch := (first | omega | (simp only [size_new, size_newm, size_wr, size_wrm] <;> omega) | fail)) only [go_sem, Nat.reduceBEq, Nat.reduceAdd, Nat.reduceMul, Nat.reduceLeDiff, ↓reduceIte, rd_new_lt, own_new_lt, mp_new_lt, rd_newm_lt, own_newm_lt, mp_newm_lt, rd_wr_ne, own_wr_ne, mp_wr_ne, rd_wrm_ne, own_wrm_ne, mp_wrm_ne, rd_new_eq, own_new_eq, mp_newm_eq]
      refine InvH.mono (ho.lenA t5 1) ?_
      rintro _ _ ⟨rfl, rfl⟩
      rw [hlen5]
      simp (disch := (first | omega | (simp only [size_new, size_newm, size_wr, size_wrm] <;> omega) | fail)) only [go_sem, Nat.reduceBEq, Nat.reduceAdd, Nat.reduceMul, Nat.reduceLeDiff, ↓reduceIte, rd_new_lt, own_new_lt, mp_new_lt, rd_newm_lt, own_newm_lt, mp_newm_lt, rd_wr_ne, own_wr_ne, mp_wr_ne, rd_wrm_ne, own_wrm_ne, mp_wrm_ne, rd_new_eq, own_new_eq, mp_newm_eq]
      rw [wrap64 (n := (keys.length : Int) - 1) (by omega) (by omega), wrap64 (n := (keys.length : Int) - 1 - i) (by omega) (by omega)]
      refine Both.of_true (decide_eq_true (by omega)) ?_
      simp (disch := (first | omega | (simp only [size_new, size_newm, size_wr, size_wrm] <;> omega) | fail)) only [go_sem, Nat.reduceBEq, Nat.reduceAdd, Nat.reduceMul, Nat.reduceLeDiff, ↓reduceIte, rd_new_lt, own_new_lt, mp_new_lt, rd_newm_lt, own_newm_lt, mp_newm_lt, rd_wr_ne, own_wr_ne, mp_wr_ne, rd_wrm_ne, own_wrm_ne, mp_wrm_ne, rd_new_eq, own_new_eq, mp_newm_eq]
      have hcs5 : ∀ (j : Nat) (k' : Int), keys[j]? = some k' → (w.put x (0, 0, 0)).cs[j]? = some (1, k', 0) ∨ (w.put x (0, 0, 0)).cs[j]? = some (0, 0, 0) := fun j k' hk' => by
        show (w.cs.set x.toNat (0, 0, 0))[j]? = _ ∨ (w.cs.set x.toNat (0, 0, 0))[j]? = _
        by_cases hj : x.toNat = j
        · subst hj
          rw [List.getElem?_set_self hxl]
          exact .inr rfl
        · rw [List.getElem?_set_ne hj]
          exact hcs j k' hk'
      have hnext : ∃ kl, keys[x.toNat]? = some kl ∧ ∀ (y : Nat) (k : Int), (w.put x (0, 0, 0)).cs[y]? = some (1, k, 0) → kl < k ∨ kl = k ∧ x < y := ⟨k, hk, fun y k' hy' => by
        have hy2 : (w.cs.set x.toNat (0, 0, 0))[y]? = some (1, k', 0) := hy'
        by_cases hj : x.toNat = y
        · subst hj
          rw [List.getElem?_set_self hxl] at hy2
          injection hy2 with hy2; injection hy2 with hy2 _; omega
        · rw [List.getElem?_set_ne hj] at hy2
          have h6 := hleast y (by omega) ⟨_, by rw [Int.toNat_natCast]; exact hy2⟩ (by omega)
          unfold ltW Nw.key Nw.seq at h6
          simp only [List.getD_eq_getElem?_getD, he, Int.toNat_natCast, hy2, Option.getD_some, decide_eq_true_eq] at h6
          omega⟩
      have hl5 : (w.put x (0, 0, 0)).cs.length = keys.length := by simpa [Nw.put] using hcl
      rcases hlast with rfl | ⟨hl0, kl, hkl, hll⟩
      · refine Both.of_false (by simp) ?_
        simp (disch := (first | omega | (simp only [size_new, size_newm, size_wr, size_wrm] <;> omega) | fail)) only [go_sem, Nat.reduceBEq, Nat.reduceAdd, Nat.reduceMul, Nat.reduceLeDiff, ↓reduceIte, rd_new_lt, own_new_lt, mp_new_lt, rd_newm_lt, own_newm_lt, mp_newm_lt, rd_wr_ne, own_wr_ne, mp_wr_ne, rd_wrm_ne, own_wrm_ne, mp_wrm_ne, rd_new_eq, own_new_eq, mp_newm_eq]
        rw [wrap64 (n := (i : Int) + 1) (by omega) (by omega)]
        exact ⟨keys.length - (i + 1), by omega, i + 1, _, x, rfl, rfl, by omega, t5, hhs, hl5, by rw [hlen5]; rfl, hcs5, .inr ⟨hx0, hnext⟩⟩
      · have hfact := hll x.toNat k (by rcases hcs _ k hk with h | h <;> rw [he] at h <;> first | exact he | (injection h with h; injection h with h _; omega))
        refine Both.of_true (by simpa using hl0) ?_
        obtain ⟨bb, bo, bc, bl, q1, q2, q3, q4⟩ := RdS.get (hrd.fresh t5.fresh) (i := x.toNat) (j := 0) (x := i64 k) (by omega) (by simp [hk])
        injection q1 with q1 _ q1'
        subst q1 q1'
        obtain ⟨bb', bo', bc', bl', r1, r2, r3, r4⟩ := RdS.get (hrd.fresh t5.fresh) (i := last.toNat) (j := 0) (x := i64 kl) (by omega) (by simp [hkl])
        injection r1 with r1 _ r1'
        injection r1 with r1
        injection r1 with r1 r1b _
        subst r1 r1b
        rw [q2] at r2
        injection r2 with r2
        subst r2
        simp (disch := (first | omega | (simp only [size_new, size_newm, size_wr, size_wrm] <;> omega) | fail)) only [go_sem, Nat.reduceBEq, Nat.reduceAdd, Nat.reduceMul, Nat.reduceLeDiff, ↓reduceIte, rd_new_lt, own_new_lt, mp_new_lt, rd_newm_lt, own_newm_lt, mp_newm_lt, rd_wr_ne, own_wr_ne, mp_wr_ne, rd_wrm_ne, own_wrm_ne, mp_wrm_ne, rd_new_eq, own_new_eq, mp_newm_eq]
        refine ⟨by omega, ?_⟩
        simp (disch := (first | omega | (simp only [size_new, size_newm, size_wr, size_wrm] <;> omega) | fail)) only [go_sem, Nat.reduceBEq, Nat.reduceAdd, Nat.reduceMul, Nat.reduceLeDiff, ↓reduceIte, rd_new_lt, own_new_lt, mp_new_lt, rd_newm_lt, own_newm_lt, mp_newm_lt, rd_wr_ne, own_wr_ne, mp_wr_ne, rd_wrm_ne, own_wrm_ne, mp_wrm_ne, rd_new_eq, own_new_eq, mp_newm_eq, q2, show bl[bo + last.toNat * 1]? = some (i64 kl) from r4]
        refine ⟨by omega, ?_⟩
        simp (disch := (first | omega | (simp only [size_new, size_newm, size_wr, size_wrm] <;> omega) | fail)) only [go_sem, Nat.reduceBEq, Nat.reduceAdd, Nat.reduceMul, Nat.reduceLeDiff, ↓reduceIte, rd_new_lt, own_new_lt, mp_new_lt, rd_newm_lt, own_newm_lt, mp_newm_lt, rd_wr_ne, own_wr_ne, mp_wr_ne, rd_wrm_ne, own_wrm_ne, mp_wrm_ne, rd_new_eq, own_new_eq, mp_newm_eq, q2, show bl[bo + x.toNat * 1]? = some (i64 k) from q4]
        refine Both.of_false (by simp; omega) ?_
        simp (disch := (first | omega | (simp only [size_new, size_newm, size_wr, size_wrm] <;> omega) | fail)) only [go_sem, Nat.reduceBEq, Nat.reduceAdd, Nat.reduceMul, Nat.reduceLeDiff, ↓reduceIte, rd_new_lt, own_new_lt, mp_new_lt, rd_newm_lt, own_newm_lt, mp_newm_lt, rd_wr_ne, own_wr_ne, mp_wr_ne, rd_wrm_ne, own_wrm_ne, mp_wrm_ne, rd_new_eq, own_new_eq, mp_newm_eq]
        refine ⟨by omega, ?_⟩
        simp (disch := (first | omega | (simp only [size_new, size_newm, size_wr, size_wrm] <;> omega) | fail)) only [go_sem, Nat.reduceBEq, Nat.reduceAdd, Nat.reduceMul, Nat.reduceLeDiff, ↓reduceIte, rd_new_lt, own_new_lt, mp_new_lt, rd_newm_lt, own_newm_lt, mp_newm_lt, rd_wr_ne, own_wr_ne, mp_wr_ne, rd_wrm_ne, own_wrm_ne, mp_wrm_ne, rd_new_eq, own_new_eq, mp_newm_eq, q2, show bl[bo + last.toNat * 1]? = some (i64 kl) from r4]
        refine ⟨by omega, ?_⟩
        simp (disch := (first | omega | (simp only [size_new, size_newm, size_wr, size_wrm] <;> omega) | fail)) only [go_sem, Nat.reduceBEq, Nat.reduceAdd, Nat.reduceMul, Nat.reduceLeDiff, ↓reduceIte, rd_new_lt, own_new_lt, mp_new_lt, rd_newm_lt, own_newm_lt, mp_newm_lt, rd_wr_ne, own_wr_ne, mp_wr_ne, rd_wrm_ne, own_wrm_ne, mp_wrm_ne, rd_new_eq, own_new_eq, mp_newm_eq, q2, show bl[bo + x.toNat * 1]? = some (i64 k) from q4]
        refine Both.dec (fun hkk => ?_) (fun hkk => ?_)
        · simp (disch := (first | omega | (simp only [size_new, size_newm, size_wr, size_wrm] <;> omega) | fail)) only [go_sem, Nat.reduceBEq, Nat.reduceAdd, Nat.reduceMul, Nat.reduceLeDiff, ↓reduceIte, rd_new_lt, own_new_lt, mp_new_lt, rd_newm_lt, own_newm_lt, mp_newm_lt, rd_wr_ne, own_wr_ne, mp_wr_ne, rd_wrm_ne, own_wrm_ne, mp_wrm_ne, rd_new_eq, own_new_eq, mp_newm_eq]
          refine Both.of_false (by simp; omega) ?_
          simp (disch := (first | omega | (simp only [size_new, size_newm, size_wr, size_wrm] <;> omega) | fail)) only [go_sem, Nat.reduceBEq, Nat.reduceAdd, Nat.reduceMul, Nat.reduceLeDiff, ↓reduceIte, rd_new_lt, own_new_lt, mp_new_lt, rd_newm_lt, own_newm_lt, mp_newm_lt, rd_wr_ne, own_wr_ne, mp_wr_ne, rd_wrm_ne, own_wrm_ne, mp_wrm_ne, rd_new_eq, own_new_eq, mp_newm_eq]
          rw [wrap64 (n := (i : Int) + 1) (by omega) (by omega)]
          exact ⟨keys.length - (i + 1), by omega, i + 1, _, x, rfl, rfl, by omega, t5, hhs, hl5, by rw [hlen5]; rfl, hcs5, .inr ⟨hx0, hnext⟩⟩
        · simp (disch := (first | omega | (simp only [size_new, size_newm, size_wr, size_wrm] <;> omega) | fail)) only [go_sem, Nat.reduceBEq, Nat.reduceAdd, Nat.reduceMul, Nat.reduceLeDiff, ↓reduceIte, rd_new_lt, own_new_lt, mp_new_lt, rd_newm_lt, own_newm_lt, mp_newm_lt, rd_wr_ne, own_wr_ne, mp_wr_ne, rd_wrm_ne, own_wrm_ne, mp_wrm_ne, rd_new_eq, own_new_eq, mp_newm_eq]
          rw [wrap64 (n := (i : Int) + 1) (by omega) (by omega)]
          exact ⟨keys.length - (i + 1), by omega, i + 1, _, x, rfl, rfl, by omega, t5, hhs, hl5, by rw [hlen5]; rfl, hcs5, .inr ⟨hx0, hnext⟩⟩
    · simp (disch := (first | omega | (simp only [size_new, size_newm, size_wr, size_wrm] <;> omega) | fail)) only [go_sem, Nat.reduceBEq, Nat.reduceAdd, Nat.reduceMul, Nat.reduceLeDiff, ↓reduceIte, rd_new_lt, own_new_lt, mp_new_lt, rd_newm_lt, own_newm_lt, mp_newm_lt, rd_wr_ne, own_wr_ne, mp_wr_ne, rd_wrm_ne, own_wrm_ne, mp_wrm_ne, rd_new_eq, own_new_eq, mp_newm_eq]
      refine InvH.mono (ho.minA t3 1) ?_
      rintro _ H4 ⟨t4, ⟨h4, rfl⟩ | ⟨x, hx, rfl⟩⟩
      · simp (disch := (first | omega | (simp only [size_new, size_newm, size_wr, size_wrm] <;> omega) | fail)) only [go_sem, Nat.reduceBEq, Nat.reduceAdd, Nat.reduceMul, Nat.reduceLeDiff, ↓reduceIte, rd_new_lt, own_new_lt, mp_new_lt, rd_newm_lt, own_newm_lt, mp_newm_lt, rd_wr_ne, own_wr_ne, mp_wr_ne, rd_wrm_ne, own_wrm_ne, mp_wrm_ne, rd_new_eq, own_new_eq, mp_newm_eq]
        exact ⟨rfl, t4.fresh⟩
      · have := hx.pos
        omega

theorem law05_Sorts_spec {ov : Value} {I : Hp → (Nat → Prop) → Int → Nw → Prop} {lim : Int → Int} {rows : Bool} (ho : NestS ov I lim rows) {Hh H : Hp} {keys : List Int} {kv : Value} (hrd : RdS Hh 1 kv keys.length (keys.map i64)) (hmax : keys.length ≤ 60000)
    (h : AtN I Hh H ⟨[false], List.replicate keys.length (0, 0, 0)⟩) : CallH Try.prog n_law05_Sorts [ov, kv] H fun v H' => Post (v = i64 1 ∧ Fresh Hh H') := by
  refine c_law05_Sorts ⟨rfl, ?_⟩
  simp (disch := (first | omega | (simp only [size_new, size_newm, size_wr, size_wrm] <;> omega) | fail)) only [go_sem, Nat.reduceBEq, Nat.reduceAdd, Nat.reduceMul, Nat.reduceLeDiff, ↓reduceIte, rd_new_lt, own_new_lt, mp_new_lt, rd_newm_lt, own_newm_lt, mp_newm_lt, rd_wr_ne, own_wr_ne, mp_wr_ne, rd_wrm_ne, own_wrm_ne, mp_wrm_ne, rd_new_eq, own_new_eq, mp_newm_eq, s_law05_Sorts]
  refine (law05_sorts_spec ho hrd hmax h).mono ?_
  rintro _ H1 ⟨rfl, f1⟩
  simp (disch := (first | omega | (simp only [size_new, size_newm, size_wr, size_wrm] <;> omega) | fail)) only [go_sem, Nat.reduceBEq, Nat.reduceAdd, Nat.reduceMul, Nat.reduceLeDiff, ↓reduceIte, rd_new_lt, own_new_lt, mp_new_lt, rd_newm_lt, own_newm_lt, mp_newm_lt, rd_wr_ne, own_wr_ne, mp_wr_ne, rd_wrm_ne, own_wrm_ne, mp_wrm_ne, rd_new_eq, own_new_eq, mp_newm_eq]
  refine (law05_one_spec true H1).mono ?_
  rintro _ _ ⟨rfl, rfl⟩
  simp (disch := (first | omega | (simp only [size_new, size_newm, size_wr, size_wrm] <;> omega) | fail)) only [go_sem, Nat.reduceBEq, Nat.reduceAdd, Nat.reduceMul, Nat.reduceLeDiff, ↓reduceIte, rd_new_lt, own_new_lt, mp_new_lt, rd_newm_lt, own_newm_lt, mp_newm_lt, rd_wr_ne, own_wr_ne, mp_wr_ne, rd_wrm_ne, own_wrm_ne, mp_wrm_ne, rd_new_eq, own_new_eq, mp_newm_eq]
  exact ⟨rfl, f1⟩

end Go.Proofs.Yteicchpglnamcaa
