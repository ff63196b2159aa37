/-
  Keys in two heaps, melded, come out as from one.
-/
import Derived.Test.YteicchpglnamcaaSorts
import Derived.Test.YteicchpglnamcaaJoinW
set_option linter.unusedVariables false
set_option linter.unusedSimpArgs false
namespace Go.Proofs.Yteicchpglnamcaa
open Go Go.Vc

set_option maxHeartbeats 4000000 in
theorem law05_halves_spec {ov : Value} {I : Hp → (Nat → Prop) → Int → Nw → Prop} {lim : Int → Int} {rows : Bool} (ho : NestS ov I lim rows) {Hh H : Hp} {keys : List Int} {kv : Value} (hrd : RdS Hh 1 kv keys.length (keys.map i64)) (hmax : keys.length ≤ 60000)
    (hkeys : ∀ k ∈ keys, -9223372036854775808 ≤ k) {left : List Bool} {lv : Value} (hld : RdS Hh 1 lv left.length (left.map .bool)) (low gone : Int)
    (h : AtN I Hh H ⟨[false], List.replicate keys.length (0, 0, 0)⟩) : CallH Try.prog n_law05_halves [ov, kv, .agg [lv, i64 low, i64 gone].toArray] H fun v H' => Post (v = .bool true ∧ Fresh Hh H') := by
  obtain ⟨a, c, rfl⟩ := RdS.val2 hrd
  obtain ⟨la, lc, rfl⟩ := RdS.val2 hld
  refine c_law05_halves ⟨rfl, ?_⟩
  simp (disch := (first | omega | (simp only [size_new, size_newm, size_wr, size_wrm] <;> omega) | fail)) only [go_sem, Nat.reduceBEq, Nat.reduceAdd, Nat.reduceMul, Nat.reduceLeDiff, ↓reduceIte, rd_new_lt, own_new_lt, mp_new_lt, rd_newm_lt, own_newm_lt, mp_newm_lt, rd_wr_ne, own_wr_ne, mp_wr_ne, rd_wrm_ne, own_wrm_ne, mp_wrm_ne, rd_new_eq, own_new_eq, mp_newm_eq, s_law05_halves]
  have f0 : Fresh H (H.new 46 [.slice la left.length lc, i64 low, i64 gone]) := (Ext.refl _ _).new _ _
  have t0 := ho.keepA h f0
  generalize H.new 46 [.slice la left.length lc, i64 low, i64 gone] = H0 at *
  refine InvH.mono (ho.makeA t0) ?_
  rintro _ H1 (⟨h1, _⟩ | ⟨_, rfl, t1⟩)
  · simp at h1
  simp only [List.length_singleton]
  simp (disch := (first | omega | (simp only [size_new, size_newm, size_wr, size_wrm] <;> omega) | fail)) only [go_sem, Nat.reduceBEq, Nat.reduceAdd, Nat.reduceMul, Nat.reduceLeDiff, ↓reduceIte, rd_new_lt, own_new_lt, mp_new_lt, rd_newm_lt, own_newm_lt, mp_newm_lt, rd_wr_ne, own_wr_ne, mp_wr_ne, rd_wrm_ne, own_wrm_ne, mp_wrm_ne, rd_new_eq, own_new_eq, mp_newm_eq]
  refine InvH.mono (ho.makeA t1) ?_
  rintro _ H2 (⟨h1, _⟩ | ⟨_, rfl, t2⟩)
  · simp [Nw.make] at h1
  simp only [Nw.make, List.length_append, List.length_singleton]
  simp (disch := (first | omega | (simp only [size_new, size_newm, size_wr, size_wrm] <;> omega) | fail)) only [go_sem, Nat.reduceBEq, Nat.reduceAdd, Nat.reduceMul, Nat.reduceLeDiff, ↓reduceIte, rd_new_lt, own_new_lt, mp_new_lt, rd_newm_lt, own_newm_lt, mp_newm_lt, rd_wr_ne, own_wr_ne, mp_wr_ne, rd_wrm_ne, own_wrm_ne, mp_wrm_ne, rd_new_eq, own_new_eq, mp_newm_eq]
  refine LoopV.intro (fun m env H' => ∃ (i : Nat) (w : Nw), env = [(0, ov), (1, .slice a keys.length c), (7, .slice la left.length lc), (8, i64 low), (9, i64 gone), (10, i64 1), (11, i64 2), (29, .slice a keys.length c), (30, i64 keys.length), (31, i64 i)] ∧ m = keys.length - i ∧ i ≤ keys.length ∧ AtN I Hh H' w ∧
      w.hs = [false, true, true] ∧ w.cs.length = keys.length ∧ (w.len 1 + w.len 2 = i) ∧ ∀ (j : Nat) (k : Int), keys[j]? = some k → if j < i then (w.cs[j]? = some (1, k, 1) ∨ w.cs[j]? = some (2, k, 1)) else w.cs[j]? = some (0, 0, 0)) keys.length
    ⟨0, _, rfl, by omega, by omega, t2, rfl, by simp [Nw.make], ?_, fun j k hk => ?_⟩ ?_
  · have hz : ∀ g, ((⟨[false], List.replicate keys.length (0, 0, 0)⟩ : Nw).make.make).len (g + 1) = 0 := fun g => Nw.len0.2 (by
      by_cases hg : g + 1 ≤ 0
      · exact .inl hg
      · refine .inr fun i c hc => ?_
        simp only [Nw.make, List.getElem?_replicate] at hc
        split at hc
        · injection hc with hc; subst hc; simp only; omega
        · cases hc)
    have h1 := hz 0
    have h2 := hz 1
    simp only [Int.zero_add, Int.reduceAdd] at h1 h2
    rw [h1, h2]
    rfl
  · have := (List.getElem?_eq_some_iff.1 hk).1
    rw [if_neg (by omega)]
    simp only [Nw.make, List.getElem?_replicate, if_pos this]
  rintro m env H3 ⟨i, w, rfl, rfl, hi, t3, hhs, hcl, hlen, hcs⟩
  simp (disch := (first | omega | (simp only [size_new, size_newm, size_wr, size_wrm] <;> omega) | fail)) only [go_sem, Nat.reduceBEq, Nat.reduceAdd, Nat.reduceMul, Nat.reduceLeDiff, ↓reduceIte, rd_new_lt, own_new_lt, mp_new_lt, rd_newm_lt, own_newm_lt, mp_newm_lt, rd_wr_ne, own_wr_ne, mp_wr_ne, rd_wrm_ne, own_wrm_ne, mp_wrm_ne, rd_new_eq, own_new_eq, mp_newm_eq]
  refine Both.dec (fun hin => ?_) (fun hin => ?_) <;> simp (disch := (first | omega | (simp only [size_new, size_newm, size_wr, size_wrm] <;> omega) | fail)) only [go_sem, Nat.reduceBEq, Nat.reduceAdd, Nat.reduceMul, Nat.reduceLeDiff, ↓reduceIte, rd_new_lt, own_new_lt, mp_new_lt, rd_newm_lt, own_newm_lt, mp_newm_lt, rd_wr_ne, own_wr_ne, mp_wr_ne, rd_wrm_ne, own_wrm_ne, mp_wrm_ne, rd_new_eq, own_new_eq, mp_newm_eq]
  · obtain ⟨k, hk⟩ : ∃ k, keys[i]? = some k := ⟨_, List.getElem?_eq_getElem (by omega)⟩
    obtain ⟨bb, bo, bc, bl, q1, q2, q3, q4⟩ := RdS.get (hrd.fresh t3.fresh) (i := i) (j := 0) (x := i64 k) (by omega) (by simp [hk])
    injection q1 with q1 _ q1'
    subst q1 q1'
    refine ⟨by omega, ?_⟩
    simp (disch := (first | omega | (simp only [size_new, size_newm, size_wr, size_wrm] <;> omega) | fail)) only [go_sem, Nat.reduceBEq, Nat.reduceAdd, Nat.reduceMul, Nat.reduceLeDiff, ↓reduceIte, rd_new_lt, own_new_lt, mp_new_lt, rd_newm_lt, own_newm_lt, mp_newm_lt, rd_wr_ne, own_wr_ne, mp_wr_ne, rd_wrm_ne, own_wrm_ne, mp_wrm_ne, rd_new_eq, own_new_eq, mp_newm_eq, q2, Int.toNat_natCast, show bl[bo + i * 1]? = some (i64 k) from q4]
    refine vc_cut (fun e H' => H' = H3 ∧ e.find 0 = some ov ∧ e.find 1 = some (.slice (some ⟨bb, bo, none⟩) keys.length c) ∧ e.find 7 = some (.slice la left.length lc) ∧ e.find 8 = some (i64 low) ∧ e.find 9 = some (i64 gone) ∧ e.find 10 = some (i64 1) ∧ e.find 11 = some (i64 2) ∧
      e.find 12 = some (i64 i) ∧ e.find 13 = some (i64 k) ∧ e.find 29 = some (.slice (some ⟨bb, bo, none⟩) keys.length c) ∧ e.find 30 = some (i64 keys.length) ∧ e.find 31 = some (i64 i) ∧ ∃ g : Int, e.find 14 = some (i64 g) ∧ (g = 1 ∨ g = 2)) ?_ ?_
    · simp (disch := (first | omega | (simp only [size_new, size_newm, size_wr, size_wrm] <;> omega) | fail)) only [go_sem, Nat.reduceBEq, Nat.reduceAdd, Nat.reduceMul, Nat.reduceLeDiff, ↓reduceIte, rd_new_lt, own_new_lt, mp_new_lt, rd_newm_lt, own_newm_lt, mp_newm_lt, rd_wr_ne, own_wr_ne, mp_wr_ne, rd_wrm_ne, own_wrm_ne, mp_wrm_ne, rd_new_eq, own_new_eq, mp_newm_eq]
      refine Both.dec (fun hl => ?_) (fun hl => ?_) <;> simp (disch := (first | omega | (simp only [size_new, size_newm, size_wr, size_wrm] <;> omega) | fail)) only [go_sem, Nat.reduceBEq, Nat.reduceAdd, Nat.reduceMul, Nat.reduceLeDiff, ↓reduceIte, rd_new_lt, own_new_lt, mp_new_lt, rd_newm_lt, own_newm_lt, mp_newm_lt, rd_wr_ne, own_wr_ne, mp_wr_ne, rd_wrm_ne, own_wrm_ne, mp_wrm_ne, rd_new_eq, own_new_eq, mp_newm_eq]
      · obtain ⟨b, hb⟩ : ∃ b, left[i]? = some b := ⟨_, List.getElem?_eq_getElem (by omega)⟩
        obtain ⟨lb, lo, lcc, ll, r1, r2, r3, r4⟩ := RdS.get (hld.fresh t3.fresh) (i := i) (j := 0) (x := .bool b) (by omega) (by simp [hb])
        injection r1 with r1 _ r1'
        subst r1 r1'
        refine ⟨by omega, ?_⟩
        simp (disch := (first | omega | (simp only [size_new, size_newm, size_wr, size_wrm] <;> omega) | fail)) only [go_sem, Nat.reduceBEq, Nat.reduceAdd, Nat.reduceMul, Nat.reduceLeDiff, ↓reduceIte, rd_new_lt, own_new_lt, mp_new_lt, rd_newm_lt, own_newm_lt, mp_newm_lt, rd_wr_ne, own_wr_ne, mp_wr_ne, rd_wrm_ne, own_wrm_ne, mp_wrm_ne, rd_new_eq, own_new_eq, mp_newm_eq, r2, Int.toNat_natCast, show ll[lo + i * 1]? = some (.bool b) from r4]
        cases b <;> simp (disch := (first | omega | (simp only [size_new, size_newm, size_wr, size_wrm] <;> omega) | fail)) only [go_sem, Nat.reduceBEq, Nat.reduceAdd, Nat.reduceMul, Nat.reduceLeDiff, ↓reduceIte, rd_new_lt, own_new_lt, mp_new_lt, rd_newm_lt, own_newm_lt, mp_newm_lt, rd_wr_ne, own_wr_ne, mp_wr_ne, rd_wrm_ne, own_wrm_ne, mp_wrm_ne, rd_new_eq, own_new_eq, mp_newm_eq]
        · exact ⟨trivial, trivial, trivial, trivial, trivial, trivial, trivial, trivial, trivial, trivial, trivial, trivial, trivial, 1, rfl, .inl rfl⟩
        · exact ⟨trivial, trivial, trivial, trivial, trivial, trivial, trivial, trivial, trivial, trivial, trivial, trivial, trivial, 2, rfl, .inr rfl⟩
      · exact ⟨trivial, trivial, trivial, trivial, trivial, trivial, trivial, trivial, trivial, trivial, trivial, trivial, trivial, 1, rfl, .inl rfl⟩
    rintro e H3' ⟨hH, e0, e1, e7, e8, e9, e10, e11, e12, e13, e29, e30, e31, g, e14, hg⟩
    obtain rfl := hH.symm
    simp (disch := (first | omega | (simp only [size_new, size_newm, size_wr, size_wrm] <;> omega) | fail)) only [go_sem, Nat.reduceBEq, Nat.reduceAdd, Nat.reduceMul, Nat.reduceLeDiff, ↓reduceIte, rd_new_lt, own_new_lt, mp_new_lt, rd_newm_lt, own_newm_lt, mp_newm_lt, rd_wr_ne, own_wr_ne, mp_wr_ne, rd_wrm_ne, own_wrm_ne, mp_wrm_ne, rd_new_eq, own_new_eq, mp_newm_eq, e0, e1, e7, e8, e9, e10, e11, e12, e13, e14, e29, e30, e31]
    have hci := hcs i k hk
    rw [if_neg (Nat.lt_irrefl _)] at hci
    have hci' : w.cs[(i : Int).toNat]? = some (0, 0, 0) := by rw [Int.toNat_natCast]; exact hci
    refine InvH.mono (ho.insertA t3 g i k 1) ?_
    have hcan : w.canPut g i := ⟨⟨by omega, by rw [hhs]; rcases hg with rfl | rfl <;> rfl⟩, ⟨by omega, by omega⟩, fun hin => by
      obtain ⟨_, x, hx, hx0⟩ := hin
      rw [hci'] at hx
      injection hx with hx
      subst hx
      omega⟩
    rintro _ H4 (⟨h3, _⟩ | ⟨_, rfl, t4⟩)
    · exact absurd hcan h3
    simp (disch := (first | omega | (simp only [size_new, size_newm, size_wr, size_wrm] <;> omega) | fail)) only [go_sem, Nat.reduceBEq, Nat.reduceAdd, Nat.reduceMul, Nat.reduceLeDiff, ↓reduceIte, rd_new_lt, own_new_lt, mp_new_lt, rd_newm_lt, own_newm_lt, mp_newm_lt, rd_wr_ne, own_wr_ne, mp_wr_ne, rd_wrm_ne, own_wrm_ne, mp_wrm_ne, rd_new_eq, own_new_eq, mp_newm_eq, e0, e1, e7, e8, e9, e10, e11, e12, e13, e14, e29, e30, e31]
    rw [wrap64 (n := (i : Int) + 1) (by omega) (by omega)]
    refine ⟨keys.length - (i + 1), by omega, i + 1, _, rfl, rfl, by omega, t4, hhs, by simpa [Nw.put] using hcl, ?_, fun j k' hk' => ?_⟩
    · rw [Nw.len_put hci' 1, Nw.len_put hci' 2]
      simp only
      rcases hg with rfl | rfl <;> simp <;> omega
    · show if j < i + 1 then ((w.cs.set (i : Int).toNat (g, k, 1))[j]? = _ ∨ (w.cs.set (i : Int).toNat (g, k, 1))[j]? = _) else (w.cs.set (i : Int).toNat (g, k, 1))[j]? = _
      rw [Int.toNat_natCast]
      have hh := hcs j k' hk'
      by_cases hj : i = j
      · subst hj
        rw [hk] at hk'
        injection hk' with hk'
        subst hk'
        rw [List.getElem?_set_self (by omega), if_pos (by omega)]
        rcases hg with rfl | rfl
        · exact .inl rfl
        · exact .inr rfl
      · rw [List.getElem?_set_ne hj]
        by_cases hj2 : j < i
        · rw [if_pos hj2] at hh
          rw [if_pos (by omega)]
          exact hh
        · rw [if_neg hj2] at hh
          rw [if_neg (by omega)]
          exact hh
  · have hiL : i = keys.length := by omega
    subst hiL
    have ha1 : w.has 1 := ⟨by omega, by rw [hhs]; rfl⟩
    have ha2 : w.has 2 := ⟨by omega, by rw [hhs]; rfl⟩
    refine InvH.mono (ho.meldA t3 1 2) ?_
    rintro _ H4 (⟨h3, _⟩ | ⟨_, rfl, t4⟩)
    · exact absurd ⟨ha1, ha2, by omega⟩ h3
    have hhs4 : (w.join 1 2).hs = [false, true, false] := by unfold Nw.join; rw [hhs]; rfl
    have hno2 : ¬ (w.join 1 2).has 2 := fun h => by have := h.2; rw [hhs4] at this; cases this
    simp (disch := (first | omega | (simp only [size_new, size_newm, size_wr, size_wrm] <;> omega) | fail)) only [go_sem, Nat.reduceBEq, Nat.reduceAdd, Nat.reduceMul, Nat.reduceLeDiff, ↓reduceIte, rd_new_lt, own_new_lt, mp_new_lt, rd_newm_lt, own_newm_lt, mp_newm_lt, rd_wr_ne, own_wr_ne, mp_wr_ne, rd_wrm_ne, own_wrm_ne, mp_wrm_ne, rd_new_eq, own_new_eq, mp_newm_eq]
    refine InvH.mono (ho.meldA t4 1 2) ?_
    rintro _ H5 (⟨_, rfl, t5⟩ | ⟨h5, _⟩)
    · skip
      simp (disch := (first | omega | (simp only [size_new, size_newm, size_wr, size_wrm] <;> omega) | fail)) only [go_sem, Nat.reduceBEq, Nat.reduceAdd, Nat.reduceMul, Nat.reduceLeDiff, ↓reduceIte, rd_new_lt, own_new_lt, mp_new_lt, rd_newm_lt, own_newm_lt, mp_newm_lt, rd_wr_ne, own_wr_ne, mp_wr_ne, rd_wrm_ne, own_wrm_ne, mp_wrm_ne, rd_new_eq, own_new_eq, mp_newm_eq]
      refine InvH.mono (ho.lenA t5 1) ?_
      rintro _ _ ⟨rfl, rfl⟩
      have hl5 : (w.join 1 2).len 1 = keys.length := by
        rw [Nw.len_join w (by omega) (by omega) (by omega), if_pos rfl]; omega
      rw [hl5]
      simp (disch := (first | omega | (simp only [size_new, size_newm, size_wr, size_wrm] <;> omega) | fail)) only [go_sem, Nat.reduceBEq, Nat.reduceAdd, Nat.reduceMul, Nat.reduceLeDiff, ↓reduceIte, rd_new_lt, own_new_lt, mp_new_lt, rd_newm_lt, own_newm_lt, mp_newm_lt, rd_wr_ne, own_wr_ne, mp_wr_ne, rd_wrm_ne, own_wrm_ne, mp_wrm_ne, rd_new_eq, own_new_eq, mp_newm_eq]
      refine Both.of_true (by simp) ?_
      simp (disch := (first | omega | (simp only [size_new, size_newm, size_wr, size_wrm] <;> omega) | fail)) only [go_sem, Nat.reduceBEq, Nat.reduceAdd, Nat.reduceMul, Nat.reduceLeDiff, ↓reduceIte, rd_new_lt, own_new_lt, mp_new_lt, rd_newm_lt, own_newm_lt, mp_newm_lt, rd_wr_ne, own_wr_ne, mp_wr_ne, rd_wrm_ne, own_wrm_ne, mp_wrm_ne, rd_new_eq, own_new_eq, mp_newm_eq]
      refine InvH.mono (ho.hasA t5 2) ?_
      rintro _ _ ⟨rfl, rfl⟩
      rw [decide_eq_false hno2]
      simp (disch := (first | omega | (simp only [size_new, size_newm, size_wr, size_wrm] <;> omega) | fail)) only [go_sem, Nat.reduceBEq, Nat.reduceAdd, Nat.reduceMul, Nat.reduceLeDiff, ↓reduceIte, rd_new_lt, own_new_lt, mp_new_lt, rd_newm_lt, own_newm_lt, mp_newm_lt, rd_wr_ne, own_wr_ne, mp_wr_ne, rd_wrm_ne, own_wrm_ne, mp_wrm_ne, rd_new_eq, own_new_eq, mp_newm_eq]
      have hcs5 : ∀ (j : Nat) (k : Int), keys[j]? = some k → (w.join 1 2).cs[j]? = some (1, k, 1) := fun j k hk => by
        have hj := (List.getElem?_eq_some_iff.1 hk).1
        have h := hcs j k hk
        rw [if_pos hj] at h
        rw [join_get]
        rcases h with h | h <;> rw [h] <;> rfl
      have hcl5 : (w.join 1 2).cs.length = keys.length := by unfold Nw.join; simpa using hcl
      generalize w.join 1 2 = w5 at *
      clear hcs hlen hcl hhs t3 t4 hin ha1 ha2
      -- one is lowered
      refine vc_cut (fun e H' => e.find 0 = some ov ∧ e.find 1 = some (.slice a keys.length c) ∧ e.find 8 = some (i64 low) ∧ e.find 9 = some (i64 gone) ∧ e.find 10 = some (i64 1) ∧ ∃ (there : Int) (w6 : Nw), e.find 15 = some (i64 there) ∧ AtN I Hh H' w6 ∧ w6.cs.length = keys.length ∧ w6.len 1 = keys.length ∧
        (∀ (j : Nat), j < keys.length → ∃ k s, w6.cs[j]? = some (1, k, s)) ∧ (there = 0 ∨ (there = 1 ∧ 0 ≤ low ∧ w6.cs[low.toNat]? = some (1, -9223372036854775808, 0) ∧ ∀ (j : Nat) (k s : Int), w6.cs[j]? = some (1, k, s) → (j : Int) ≠ low → -9223372036854775808 ≤ k ∧ s = 1))) ?_ ?_
      · have plain : ∀ (j : Nat), j < keys.length → ∃ k s, w5.cs[j]? = some (1, k, s) := fun j hj => ⟨_, _, hcs5 j _ (List.getElem?_eq_getElem hj)⟩
        simp (disch := (first | omega | (simp only [size_new, size_newm, size_wr, size_wrm] <;> omega) | fail)) only [go_sem, Nat.reduceBEq, Nat.reduceAdd, Nat.reduceMul, Nat.reduceLeDiff, ↓reduceIte, rd_new_lt, own_new_lt, mp_new_lt, rd_newm_lt, own_newm_lt, mp_newm_lt, rd_wr_ne, own_wr_ne, mp_wr_ne, rd_wrm_ne, own_wrm_ne, mp_wrm_ne, rd_new_eq, own_new_eq, mp_newm_eq]
        refine Both.dec (fun h1 => ?_) (fun h1 => ?_) <;> simp (disch := (first | omega | (simp only [size_new, size_newm, size_wr, size_wrm] <;> omega) | fail)) only [go_sem, Nat.reduceBEq, Nat.reduceAdd, Nat.reduceMul, Nat.reduceLeDiff, ↓reduceIte, rd_new_lt, own_new_lt, mp_new_lt, rd_newm_lt, own_newm_lt, mp_newm_lt, rd_wr_ne, own_wr_ne, mp_wr_ne, rd_wrm_ne, own_wrm_ne, mp_wrm_ne, rd_new_eq, own_new_eq, mp_newm_eq]
        · refine Both.dec (fun h2 => ?_) (fun h2 => ?_) <;> simp (disch := (first | omega | (simp only [size_new, size_newm, size_wr, size_wrm] <;> omega) | fail)) only [go_sem, Nat.reduceBEq, Nat.reduceAdd, Nat.reduceMul, Nat.reduceLeDiff, ↓reduceIte, rd_new_lt, own_new_lt, mp_new_lt, rd_newm_lt, own_newm_lt, mp_newm_lt, rd_wr_ne, own_wr_ne, mp_wr_ne, rd_wrm_ne, own_wrm_ne, mp_wrm_ne, rd_new_eq, own_new_eq, mp_newm_eq]
          · refine InvH.mono (ho.decreaseA t5 low (-9223372036854775808) 0) ?_
            obtain ⟨k, hk⟩ : ∃ k, keys[low.toNat]? = some k := ⟨_, List.getElem?_eq_getElem (by omega)⟩
            have hck := hcs5 _ k hk
            have hcan : w5.canLower low (-9223372036854775808) 0 := ⟨⟨h1, _, hck, by omega⟩, fun y hy => by
              rw [hck] at hy
              injection hy with hy
              subst hy
              have := hkeys k (List.mem_of_getElem? hk)
              unfold lessE
              simp only
              omega⟩
            rintro _ H6 (⟨h6, _⟩ | ⟨_, rfl, y, hy, t6⟩)
            · exact absurd hcan h6
            rw [hck] at hy
            injection hy with hy
            subst hy
            have hset : ∀ j : Nat, j ≠ low.toNat → (w5.put low (1, -9223372036854775808, 0)).cs[j]? = w5.cs[j]? := fun j hj => List.getElem?_set_ne (Ne.symm hj)
            have hself : (w5.put low (1, -9223372036854775808, 0)).cs[low.toNat]? = some (1, -9223372036854775808, 0) := List.getElem?_set_self (by omega)
            simp (disch := (first | omega | (simp only [size_new, size_newm, size_wr, size_wrm] <;> omega) | fail)) only [go_sem, Nat.reduceBEq, Nat.reduceAdd, Nat.reduceMul, Nat.reduceLeDiff, ↓reduceIte, rd_new_lt, own_new_lt, mp_new_lt, rd_newm_lt, own_newm_lt, mp_newm_lt, rd_wr_ne, own_wr_ne, mp_wr_ne, rd_wrm_ne, own_wrm_ne, mp_wrm_ne, rd_new_eq, own_new_eq, mp_newm_eq]
            refine ⟨trivial, trivial, trivial, trivial, trivial, 1, _, rfl, t6, by simpa [Nw.put] using hcl5, ?_, fun j hj => ?_, .inr ⟨rfl, h1, hself, fun j k' s hj hne => ?_⟩⟩
            · rw [Nw.len_put hck 1, if_pos ⟨by omega, rfl⟩]; omega
            · by_cases hjl : j = low.toNat
              · subst hjl; exact ⟨_, _, hself⟩
              · rw [hset j hjl]; exact plain j hj
            · rw [hset j (by omega)] at hj
              have hjl : j < keys.length := by have := (List.getElem?_eq_some_iff.1 hj).1; omega
              have h7 := hcs5 j _ (List.getElem?_eq_getElem hjl)
              rw [hj] at h7
              injection h7 with h7
              injection h7 with _ h7
              injection h7 with h7 h8
              exact ⟨by rw [h7]; exact hkeys _ (List.getElem_mem hjl), h8⟩
          · exact ⟨trivial, trivial, trivial, trivial, trivial, 0, w5, rfl, t5, hcl5, hl5, plain, .inl rfl⟩
        · exact ⟨trivial, trivial, trivial, trivial, trivial, 0, w5, rfl, t5, hcl5, hl5, plain, .inl rfl⟩
      rintro e H6 ⟨e0, e1, e8, e9, e10, there, w6, e15, t6, hcl6, hl6, hpl6, hth6⟩
      clear t5 hcl5 hl5 hcs5
      have hfirst6 : ∀ w' : Nw, (∀ (j : Nat) (x : Ce), w'.cs[j]? = some x → x.1 = 1 → w6.cs[j]? = some x) → there = 1 → w'.cs[low.toNat]? = w6.cs[low.toNat]? → w'.first 1 low := fun w' hsub h1 hlow => by
        rcases hth6 with h | ⟨_, hl0, hlc, hoth⟩
        · omega
        · rw [hlc] at hlow
          refine ⟨by omega, hl0, ⟨_, hlow⟩, fun y hy ⟨ey, hey⟩ hne => ?_⟩
          obtain ⟨k, s⟩ := ey
          have hoy := hoth y.toNat k s (hsub _ _ hey rfl) (by omega)
          unfold ltW Nw.key Nw.seq
          simp only [List.getD_eq_getElem?_getD, hlow, hey, Option.getD_some, decide_eq_true_eq]
          omega
      simp (disch := (first | omega | (simp only [size_new, size_newm, size_wr, size_wrm] <;> omega) | fail)) only [go_sem, Nat.reduceBEq, Nat.reduceAdd, Nat.reduceMul, Nat.reduceLeDiff, ↓reduceIte, rd_new_lt, own_new_lt, mp_new_lt, rd_newm_lt, own_newm_lt, mp_newm_lt, rd_wr_ne, own_wr_ne, mp_wr_ne, rd_wrm_ne, own_wrm_ne, mp_wrm_ne, rd_new_eq, own_new_eq, mp_newm_eq, e0, e1, e8, e9, e10, e15]
      refine Both.dec (fun g1 => ?_) (fun g1 => ?_)
      · simp (disch := (first | omega | (simp only [size_new, size_newm, size_wr, size_wrm] <;> omega) | fail)) only [go_sem, Nat.reduceBEq, Nat.reduceAdd, Nat.reduceMul, Nat.reduceLeDiff, ↓reduceIte, rd_new_lt, own_new_lt, mp_new_lt, rd_newm_lt, own_newm_lt, mp_newm_lt, rd_wr_ne, own_wr_ne, mp_wr_ne, rd_wrm_ne, own_wrm_ne, mp_wrm_ne, rd_new_eq, own_new_eq, mp_newm_eq, e0, e1, e8, e9, e10, e15]
        refine Both.dec (fun g2 => ?_) (fun g2 => ?_)
        · simp (disch := (first | omega | (simp only [size_new, size_newm, size_wr, size_wrm] <;> omega) | fail)) only [go_sem, Nat.reduceBEq, Nat.reduceAdd, Nat.reduceMul, Nat.reduceLeDiff, ↓reduceIte, rd_new_lt, own_new_lt, mp_new_lt, rd_newm_lt, own_newm_lt, mp_newm_lt, rd_wr_ne, own_wr_ne, mp_wr_ne, rd_wrm_ne, own_wrm_ne, mp_wrm_ne, rd_new_eq, own_new_eq, mp_newm_eq, e0, e1, e8, e9, e10, e15]
          refine Both.dec (fun g3 => ?_) (fun g3 => ?_)
          · simp (disch := (first | omega | (simp only [size_new, size_newm, size_wr, size_wrm] <;> omega) | fail)) only [go_sem, Nat.reduceBEq, Nat.reduceAdd, Nat.reduceMul, Nat.reduceLeDiff, ↓reduceIte, rd_new_lt, own_new_lt, mp_new_lt, rd_newm_lt, own_newm_lt, mp_newm_lt, rd_wr_ne, own_wr_ne, mp_wr_ne, rd_wrm_ne, own_wrm_ne, mp_wrm_ne, rd_new_eq, own_new_eq, mp_newm_eq, e0, e1, e8, e9, e10, e15]
            refine LoopV.intro (fun m env H' => ∃ (i : Nat) (w : Nw), env = [(0, ov), (1, .slice a keys.length c), (8, i64 low), (9, i64 gone), (10, i64 1), (15, i64 there), (16, i64 i)] ∧ m = (w.len 1).toNat ∧ AtN I Hh H' w ∧ (i : Int) + w.len 1 ≤ keys.length ∧
                (gone ≠ low → 0 ≤ gone → ∀ e, w.cs[gone.toNat]? ≠ some (1, e)) ∧ (i = 0 → there = 1 → w.first 1 low)) (w6.len 1).toNat ⟨0, w6, rfl, rfl, t6, by have := hl6; omega, fun h => absurd g3 (by omega), fun _ h => (hfirst6 w6 (fun _ _ h _ => h) h rfl)⟩ ?_
            rintro m env H9 ⟨i, w9, rfl, rfl, t9, hil, hgone, hfirst⟩
            have hw9 := (w9.len_le 1).1
            simp (disch := (first | omega | (simp only [size_new, size_newm, size_wr, size_wrm] <;> omega) | fail)) only [go_sem, Nat.reduceBEq, Nat.reduceAdd, Nat.reduceMul, Nat.reduceLeDiff, ↓reduceIte, rd_new_lt, own_new_lt, mp_new_lt, rd_newm_lt, own_newm_lt, mp_newm_lt, rd_wr_ne, own_wr_ne, mp_wr_ne, rd_wrm_ne, own_wrm_ne, mp_wrm_ne, rd_new_eq, own_new_eq, mp_newm_eq]
            refine InvH.mono (ho.lenA t9 1) ?_
            rintro _ _ ⟨rfl, rfl⟩
            simp (disch := (first | omega | (simp only [size_new, size_newm, size_wr, size_wrm] <;> omega) | fail)) only [go_sem, Nat.reduceBEq, Nat.reduceAdd, Nat.reduceMul, Nat.reduceLeDiff, ↓reduceIte, rd_new_lt, own_new_lt, mp_new_lt, rd_newm_lt, own_newm_lt, mp_newm_lt, rd_wr_ne, own_wr_ne, mp_wr_ne, rd_wrm_ne, own_wrm_ne, mp_wrm_ne, rd_new_eq, own_new_eq, mp_newm_eq]
            refine Both.dec (fun hpos => ?_) (fun hpos => ?_) <;> simp (disch := (first | omega | (simp only [size_new, size_newm, size_wr, size_wrm] <;> omega) | fail)) only [go_sem, Nat.reduceBEq, Nat.reduceAdd, Nat.reduceMul, Nat.reduceLeDiff, ↓reduceIte, rd_new_lt, own_new_lt, mp_new_lt, rd_newm_lt, own_newm_lt, mp_newm_lt, rd_wr_ne, own_wr_ne, mp_wr_ne, rd_wrm_ne, own_wrm_ne, mp_wrm_ne, rd_new_eq, own_new_eq, mp_newm_eq]
            · refine InvH.mono (ho.extractA t9 1) ?_
              rintro _ H10 (⟨h0, _⟩ | ⟨x, hx, rfl, t10⟩)
              · omega
              obtain ⟨e, he⟩ := hx.2.2.1
              have hl10 : (w9.put x (0, 0, 0)).len 1 = w9.len 1 - 1 := by
                rw [Nw.len_put he 1, if_pos ⟨by omega, rfl⟩, if_neg (fun h => by have := h.2; simp only at this; omega)]; omega
              have fin : ∃ m', m' < (w9.len 1).toNat ∧ ∃ (i' : Nat) (w' : Nw), [(0, ov), (1, .slice a keys.length c), (8, i64 low), (9, i64 gone), (10, i64 1), (15, i64 there), (16, i64 ((i : Int) + 1))] = [(0, ov), (1, .slice a keys.length c), (8, i64 low), (9, i64 gone), (10, i64 1), (15, i64 there), (16, i64 i')] ∧ m' = (w'.len 1).toNat ∧ AtN I Hh H10 w' ∧ (i' : Int) + w'.len 1 ≤ keys.length ∧
                (gone ≠ low → 0 ≤ gone → ∀ e, w'.cs[gone.toNat]? ≠ some (1, e)) ∧ (i' = 0 → there = 1 → w'.first 1 low) := by
                refine ⟨((w9.put x (0, 0, 0)).len 1).toNat, by omega, i + 1, w9.put x (0, 0, 0), rfl, rfl, t10, by omega, fun h1 h2 e' h3 => ?_, fun h => by omega⟩
                have h3 : (w9.cs.set x.toNat (0, 0, 0))[gone.toNat]? = some (1, e') := h3
                by_cases hj : x.toNat = gone.toNat
                · rw [hj, List.getElem?_set_self (by rw [← hj]; exact (List.getElem?_eq_some_iff.1 he).1)] at h3
                  injection h3 with h3; injection h3 with h3 _; omega
                · rw [List.getElem?_set_ne hj] at h3
                  exact hgone h1 h2 e' h3
              have hxg : x = gone → gone = low := fun h => by
                by_cases hgl : gone = low
                · exact hgl
                · exact absurd (h ▸ he) (hgone hgl (by have := hx.2.1; omega) e)
              have hxl : i = 0 → there = 1 → x = low := fun h1 h2 => hx.uniq (hfirst h1 h2)
              have hwr : IntKind.i64.wrap ((i : Int) + 1) = (i : Int) + 1 := wrap64 (by omega) (by omega)
              simp (disch := (first | omega | (simp only [size_new, size_newm, size_wr, size_wrm] <;> omega) | fail)) only [go_sem, Nat.reduceBEq, Nat.reduceAdd, Nat.reduceMul, Nat.reduceLeDiff, ↓reduceIte, rd_new_lt, own_new_lt, mp_new_lt, rd_newm_lt, own_newm_lt, mp_newm_lt, rd_wr_ne, own_wr_ne, mp_wr_ne, rd_wrm_ne, own_wrm_ne, mp_wrm_ne, rd_new_eq, own_new_eq, mp_newm_eq]
              refine Both.of_false (by simp; omega) ?_
              simp (disch := (first | omega | (simp only [size_new, size_newm, size_wr, size_wrm] <;> omega) | fail)) only [go_sem, Nat.reduceBEq, Nat.reduceAdd, Nat.reduceMul, Nat.reduceLeDiff, ↓reduceIte, rd_new_lt, own_new_lt, mp_new_lt, rd_newm_lt, own_newm_lt, mp_newm_lt, rd_wr_ne, own_wr_ne, mp_wr_ne, rd_wrm_ne, own_wrm_ne, mp_wrm_ne, rd_new_eq, own_new_eq, mp_newm_eq]
              refine Both.dec (fun h1 => ?_) (fun h1 => ?_)
              · simp (disch := (first | omega | (simp only [size_new, size_newm, size_wr, size_wrm] <;> omega) | fail)) only [go_sem, Nat.reduceBEq, Nat.reduceAdd, Nat.reduceMul, Nat.reduceLeDiff, ↓reduceIte, rd_new_lt, own_new_lt, mp_new_lt, rd_newm_lt, own_newm_lt, mp_newm_lt, rd_wr_ne, own_wr_ne, mp_wr_ne, rd_wrm_ne, own_wrm_ne, mp_wrm_ne, rd_new_eq, own_new_eq, mp_newm_eq]
                refine Both.of_true (decide_eq_true (hxg h1)) ?_
                simp (disch := (first | omega | (simp only [size_new, size_newm, size_wr, size_wrm] <;> omega) | fail)) only [go_sem, Nat.reduceBEq, Nat.reduceAdd, Nat.reduceMul, Nat.reduceLeDiff, ↓reduceIte, rd_new_lt, own_new_lt, mp_new_lt, rd_newm_lt, own_newm_lt, mp_newm_lt, rd_wr_ne, own_wr_ne, mp_wr_ne, rd_wrm_ne, own_wrm_ne, mp_wrm_ne, rd_new_eq, own_new_eq, mp_newm_eq]
                refine Both.dec (fun h2 => ?_) (fun h2 => ?_)
                · simp (disch := (first | omega | (simp only [size_new, size_newm, size_wr, size_wrm] <;> omega) | fail)) only [go_sem, Nat.reduceBEq, Nat.reduceAdd, Nat.reduceMul, Nat.reduceLeDiff, ↓reduceIte, rd_new_lt, own_new_lt, mp_new_lt, rd_newm_lt, own_newm_lt, mp_newm_lt, rd_wr_ne, own_wr_ne, mp_wr_ne, rd_wrm_ne, own_wrm_ne, mp_wrm_ne, rd_new_eq, own_new_eq, mp_newm_eq]
                  refine Both.dec (fun h3 => ?_) (fun h3 => ?_)
                  · simp (disch := (first | omega | (simp only [size_new, size_newm, size_wr, size_wrm] <;> omega) | fail)) only [go_sem, Nat.reduceBEq, Nat.reduceAdd, Nat.reduceMul, Nat.reduceLeDiff, ↓reduceIte, rd_new_lt, own_new_lt, mp_new_lt, rd_newm_lt, own_newm_lt, mp_newm_lt, rd_wr_ne, own_wr_ne, mp_wr_ne, rd_wrm_ne, own_wrm_ne, mp_wrm_ne, rd_new_eq, own_new_eq, mp_newm_eq]
                    refine Both.of_true (decide_eq_true (hxl (by omega) h3)) ?_
                    simp (disch := (first | omega | (simp only [size_new, size_newm, size_wr, size_wrm] <;> omega) | fail)) only [go_sem, Nat.reduceBEq, Nat.reduceAdd, Nat.reduceMul, Nat.reduceLeDiff, ↓reduceIte, rd_new_lt, own_new_lt, mp_new_lt, rd_newm_lt, own_newm_lt, mp_newm_lt, rd_wr_ne, own_wr_ne, mp_wr_ne, rd_wrm_ne, own_wrm_ne, mp_wrm_ne, rd_new_eq, own_new_eq, mp_newm_eq]
                    rw [hwr]
                    exact fin
                  · simp (disch := (first | omega | (simp only [size_new, size_newm, size_wr, size_wrm] <;> omega) | fail)) only [go_sem, Nat.reduceBEq, Nat.reduceAdd, Nat.reduceMul, Nat.reduceLeDiff, ↓reduceIte, rd_new_lt, own_new_lt, mp_new_lt, rd_newm_lt, own_newm_lt, mp_newm_lt, rd_wr_ne, own_wr_ne, mp_wr_ne, rd_wrm_ne, own_wrm_ne, mp_wrm_ne, rd_new_eq, own_new_eq, mp_newm_eq]
                    rw [hwr]
                    exact fin
                · simp (disch := (first | omega | (simp only [size_new, size_newm, size_wr, size_wrm] <;> omega) | fail)) only [go_sem, Nat.reduceBEq, Nat.reduceAdd, Nat.reduceMul, Nat.reduceLeDiff, ↓reduceIte, rd_new_lt, own_new_lt, mp_new_lt, rd_newm_lt, own_newm_lt, mp_newm_lt, rd_wr_ne, own_wr_ne, mp_wr_ne, rd_wrm_ne, own_wrm_ne, mp_wrm_ne, rd_new_eq, own_new_eq, mp_newm_eq]
                  rw [hwr]
                  exact fin
              · simp (disch := (first | omega | (simp only [size_new, size_newm, size_wr, size_wrm] <;> omega) | fail)) only [go_sem, Nat.reduceBEq, Nat.reduceAdd, Nat.reduceMul, Nat.reduceLeDiff, ↓reduceIte, rd_new_lt, own_new_lt, mp_new_lt, rd_newm_lt, own_newm_lt, mp_newm_lt, rd_wr_ne, own_wr_ne, mp_wr_ne, rd_wrm_ne, own_wrm_ne, mp_wrm_ne, rd_new_eq, own_new_eq, mp_newm_eq]
                refine Both.dec (fun h2 => ?_) (fun h2 => ?_)
                · simp (disch := (first | omega | (simp only [size_new, size_newm, size_wr, size_wrm] <;> omega) | fail)) only [go_sem, Nat.reduceBEq, Nat.reduceAdd, Nat.reduceMul, Nat.reduceLeDiff, ↓reduceIte, rd_new_lt, own_new_lt, mp_new_lt, rd_newm_lt, own_newm_lt, mp_newm_lt, rd_wr_ne, own_wr_ne, mp_wr_ne, rd_wrm_ne, own_wrm_ne, mp_wrm_ne, rd_new_eq, own_new_eq, mp_newm_eq]
                  refine Both.dec (fun h3 => ?_) (fun h3 => ?_)
                  · simp (disch := (first | omega | (simp only [size_new, size_newm, size_wr, size_wrm] <;> omega) | fail)) only [go_sem, Nat.reduceBEq, Nat.reduceAdd, Nat.reduceMul, Nat.reduceLeDiff, ↓reduceIte, rd_new_lt, own_new_lt, mp_new_lt, rd_newm_lt, own_newm_lt, mp_newm_lt, rd_wr_ne, own_wr_ne, mp_wr_ne, rd_wrm_ne, own_wrm_ne, mp_wrm_ne, rd_new_eq, own_new_eq, mp_newm_eq]
                    refine Both.of_true (decide_eq_true (hxl (by omega) h3)) ?_
                    simp (disch := (first | omega | (simp only [size_new, size_newm, size_wr, size_wrm] <;> omega) | fail)) only [go_sem, Nat.reduceBEq, Nat.reduceAdd, Nat.reduceMul, Nat.reduceLeDiff, ↓reduceIte, rd_new_lt, own_new_lt, mp_new_lt, rd_newm_lt, own_newm_lt, mp_newm_lt, rd_wr_ne, own_wr_ne, mp_wr_ne, rd_wrm_ne, own_wrm_ne, mp_wrm_ne, rd_new_eq, own_new_eq, mp_newm_eq]
                    rw [hwr]
                    exact fin
                  · simp (disch := (first | omega | (simp only [size_new, size_newm, size_wr, size_wrm] <;> omega) | fail)) only [go_sem, Nat.reduceBEq, Nat.reduceAdd, Nat.reduceMul, Nat.reduceLeDiff, ↓reduceIte, rd_new_lt, own_new_lt, mp_new_lt, rd_newm_lt, own_newm_lt, mp_newm_lt, rd_wr_ne, own_wr_ne, mp_wr_ne, rd_wrm_ne, own_wrm_ne, mp_wrm_ne, rd_new_eq, own_new_eq, mp_newm_eq]
                    rw [hwr]
                    exact fin
                · simp (disch := (first | omega | (simp only [size_new, size_newm, size_wr, size_wrm] <;> omega) | fail)) only [go_sem, Nat.reduceBEq, Nat.reduceAdd, Nat.reduceMul, Nat.reduceLeDiff, ↓reduceIte, rd_new_lt, own_new_lt, mp_new_lt, rd_newm_lt, own_newm_lt, mp_newm_lt, rd_wr_ne, own_wr_ne, mp_wr_ne, rd_wrm_ne, own_wrm_ne, mp_wrm_ne, rd_new_eq, own_new_eq, mp_newm_eq]
                  rw [hwr]
                  exact fin
            · exact ⟨rfl, t9.fresh⟩
          · simp (disch := (first | omega | (simp only [size_new, size_newm, size_wr, size_wrm] <;> omega) | fail)) only [go_sem, Nat.reduceBEq, Nat.reduceAdd, Nat.reduceMul, Nat.reduceLeDiff, ↓reduceIte, rd_new_lt, own_new_lt, mp_new_lt, rd_newm_lt, own_newm_lt, mp_newm_lt, rd_wr_ne, own_wr_ne, mp_wr_ne, rd_wrm_ne, own_wrm_ne, mp_wrm_ne, rd_new_eq, own_new_eq, mp_newm_eq, e0, e1, e8, e9, e10, e15]
            refine InvH.mono (ho.deleteA t6 gone) ?_
            obtain ⟨k, s, hks⟩ := hpl6 gone.toNat (by omega)
            rintro _ H7 (⟨h7, _⟩ | ⟨_, rfl, t7⟩)
            · exact absurd ⟨g1, _, hks, by omega⟩ h7
            have hl7 : (w6.put gone (0, 0, 0)).len 1 = w6.len 1 - 1 := by
              rw [Nw.len_put hks 1, if_pos ⟨by omega, rfl⟩, if_neg (fun h => by have := h.2; simp only at this; omega)]; omega
            have hself : (w6.put gone (0, 0, 0)).cs[gone.toNat]? = some (0, 0, 0) := List.getElem?_set_self (by omega)
            have hset : ∀ j : Nat, j ≠ gone.toNat → (w6.put gone (0, 0, 0)).cs[j]? = w6.cs[j]? := fun j hj => List.getElem?_set_ne (Ne.symm hj)
            simp (disch := (first | omega | (simp only [size_new, size_newm, size_wr, size_wrm] <;> omega) | fail)) only [go_sem, Nat.reduceBEq, Nat.reduceAdd, Nat.reduceMul, Nat.reduceLeDiff, ↓reduceIte, rd_new_lt, own_new_lt, mp_new_lt, rd_newm_lt, own_newm_lt, mp_newm_lt, rd_wr_ne, own_wr_ne, mp_wr_ne, rd_wrm_ne, own_wrm_ne, mp_wrm_ne, rd_new_eq, own_new_eq, mp_newm_eq, e0, e1, e8, e9, e10, e15]
            refine LoopV.intro (fun m env H' => ∃ (i : Nat) (w : Nw), env = [(0, ov), (1, .slice a keys.length c), (8, i64 low), (9, i64 gone), (10, i64 1), (15, i64 there), (16, i64 i)] ∧ m = (w.len 1).toNat ∧ AtN I Hh H' w ∧ (i : Int) + w.len 1 ≤ keys.length ∧
                (gone ≠ low → 0 ≤ gone → ∀ e, w.cs[gone.toNat]? ≠ some (1, e)) ∧ (i = 0 → there = 1 → w.first 1 low)) ((w6.put gone (0, 0, 0)).len 1).toNat ⟨0, (w6.put gone (0, 0, 0)), rfl, rfl, t7, by have := hl7; omega, fun _ _ e h => by rw [hself] at h; injection h with h; injection h with h _; omega, fun _ h => (hfirst6 _ (fun j x hx h1 => by
                      by_cases hj : j = gone.toNat
                      · subst hj; rw [hself] at hx; injection hx with hx; subst hx; simp only at h1; omega
                      · rw [hset j hj] at hx; exact hx) h (by
                      rcases hth6 with h8 | ⟨_, hl0, _⟩
                      · omega
                      · exact hset _ (by omega)))⟩ ?_
            rintro m env H9 ⟨i, w9, rfl, rfl, t9, hil, hgone, hfirst⟩
            have hw9 := (w9.len_le 1).1
            simp (disch := (first | omega | (simp only [size_new, size_newm, size_wr, size_wrm] <;> omega) | fail)) only [go_sem, Nat.reduceBEq, Nat.reduceAdd, Nat.reduceMul, Nat.reduceLeDiff, ↓reduceIte, rd_new_lt, own_new_lt, mp_new_lt, rd_newm_lt, own_newm_lt, mp_newm_lt, rd_wr_ne, own_wr_ne, mp_wr_ne, rd_wrm_ne, own_wrm_ne, mp_wrm_ne, rd_new_eq, own_new_eq, mp_newm_eq]
            refine InvH.mono (ho.lenA t9 1) ?_
            rintro _ _ ⟨rfl, rfl⟩
            simp (disch := (first | omega | (simp only [size_new, size_newm, size_wr, size_wrm] <;> omega) | fail)) only [go_sem, Nat.reduceBEq, Nat.reduceAdd, Nat.reduceMul, Nat.reduceLeDiff, ↓reduceIte, rd_new_lt, own_new_lt, mp_new_lt, rd_newm_lt, own_newm_lt, mp_newm_lt, rd_wr_ne, own_wr_ne, mp_wr_ne, rd_wrm_ne, own_wrm_ne, mp_wrm_ne, rd_new_eq, own_new_eq, mp_newm_eq]
            refine Both.dec (fun hpos => ?_) (fun hpos => ?_) <;> simp (disch := (first | omega | (simp only [size_new, size_newm, size_wr, size_wrm] <;> omega) | fail)) only [go_sem, Nat.reduceBEq, Nat.reduceAdd, Nat.reduceMul, Nat.reduceLeDiff, ↓reduceIte, rd_new_lt, own_new_lt, mp_new_lt, rd_newm_lt, own_newm_lt, mp_newm_lt, rd_wr_ne, own_wr_ne, mp_wr_ne, rd_wrm_ne, own_wrm_ne, mp_wrm_ne, rd_new_eq, own_new_eq, mp_newm_eq]
            · refine InvH.mono (ho.extractA t9 1) ?_
              rintro _ H10 (⟨h0, _⟩ | ⟨x, hx, rfl, t10⟩)
              · omega
              obtain ⟨e, he⟩ := hx.2.2.1
              have hl10 : (w9.put x (0, 0, 0)).len 1 = w9.len 1 - 1 := by
                rw [Nw.len_put he 1, if_pos ⟨by omega, rfl⟩, if_neg (fun h => by have := h.2; simp only at this; omega)]; omega
              have fin : ∃ m', m' < (w9.len 1).toNat ∧ ∃ (i' : Nat) (w' : Nw), [(0, ov), (1, .slice a keys.length c), (8, i64 low), (9, i64 gone), (10, i64 1), (15, i64 there), (16, i64 ((i : Int) + 1))] = [(0, ov), (1, .slice a keys.length c), (8, i64 low), (9, i64 gone), (10, i64 1), (15, i64 there), (16, i64 i')] ∧ m' = (w'.len 1).toNat ∧ AtN I Hh H10 w' ∧ (i' : Int) + w'.len 1 ≤ keys.length ∧
                (gone ≠ low → 0 ≤ gone → ∀ e, w'.cs[gone.toNat]? ≠ some (1, e)) ∧ (i' = 0 → there = 1 → w'.first 1 low) := by
                refine ⟨((w9.put x (0, 0, 0)).len 1).toNat, by omega, i + 1, w9.put x (0, 0, 0), rfl, rfl, t10, by omega, fun h1 h2 e' h3 => ?_, fun h => by omega⟩
                have h3 : (w9.cs.set x.toNat (0, 0, 0))[gone.toNat]? = some (1, e') := h3
                by_cases hj : x.toNat = gone.toNat
                · rw [hj, List.getElem?_set_self (by rw [← hj]; exact (List.getElem?_eq_some_iff.1 he).1)] at h3
                  injection h3 with h3; injection h3 with h3 _; omega
                · rw [List.getElem?_set_ne hj] at h3
                  exact hgone h1 h2 e' h3
              have hxg : x = gone → gone = low := fun h => by
                by_cases hgl : gone = low
                · exact hgl
                · exact absurd (h ▸ he) (hgone hgl (by have := hx.2.1; omega) e)
              have hxl : i = 0 → there = 1 → x = low := fun h1 h2 => hx.uniq (hfirst h1 h2)
              have hwr : IntKind.i64.wrap ((i : Int) + 1) = (i : Int) + 1 := wrap64 (by omega) (by omega)
              simp (disch := (first | omega | (simp only [size_new, size_newm, size_wr, size_wrm] <;> omega) | fail)) only [go_sem, Nat.reduceBEq, Nat.reduceAdd, Nat.reduceMul, Nat.reduceLeDiff, ↓reduceIte, rd_new_lt, own_new_lt, mp_new_lt, rd_newm_lt, own_newm_lt, mp_newm_lt, rd_wr_ne, own_wr_ne, mp_wr_ne, rd_wrm_ne, own_wrm_ne, mp_wrm_ne, rd_new_eq, own_new_eq, mp_newm_eq]
              refine Both.of_false (by simp; omega) ?_
              simp (disch := (first | omega | (simp only [size_new, size_newm, size_wr, size_wrm] <;> omega) | fail)) only [go_sem, Nat.reduceBEq, Nat.reduceAdd, Nat.reduceMul, Nat.reduceLeDiff, ↓reduceIte, rd_new_lt, own_new_lt, mp_new_lt, rd_newm_lt, own_newm_lt, mp_newm_lt, rd_wr_ne, own_wr_ne, mp_wr_ne, rd_wrm_ne, own_wrm_ne, mp_wrm_ne, rd_new_eq, own_new_eq, mp_newm_eq]
              refine Both.dec (fun h1 => ?_) (fun h1 => ?_)
              · simp (disch := (first | omega | (simp only [size_new, size_newm, size_wr, size_wrm] <;> omega) | fail)) only [go_sem, Nat.reduceBEq, Nat.reduceAdd, Nat.reduceMul, Nat.reduceLeDiff, ↓reduceIte, rd_new_lt, own_new_lt, mp_new_lt, rd_newm_lt, own_newm_lt, mp_newm_lt, rd_wr_ne, own_wr_ne, mp_wr_ne, rd_wrm_ne, own_wrm_ne, mp_wrm_ne, rd_new_eq, own_new_eq, mp_newm_eq]
                refine Both.of_true (decide_eq_true (hxg h1)) ?_
                simp (disch := (first | omega | (simp only [size_new, size_newm, size_wr, size_wrm] <;> omega) | fail)) only [go_sem, Nat.reduceBEq, Nat.reduceAdd, Nat.reduceMul, Nat.reduceLeDiff, ↓reduceIte, rd_new_lt, own_new_lt, mp_new_lt, rd_newm_lt, own_newm_lt, mp_newm_lt, rd_wr_ne, own_wr_ne, mp_wr_ne, rd_wrm_ne, own_wrm_ne, mp_wrm_ne, rd_new_eq, own_new_eq, mp_newm_eq]
                refine Both.dec (fun h2 => ?_) (fun h2 => ?_)
                · simp (disch := (first | omega | (simp only [size_new, size_newm, size_wr, size_wrm] <;> omega) | fail)) only [go_sem, Nat.reduceBEq, Nat.reduceAdd, Nat.reduceMul, Nat.reduceLeDiff, ↓reduceIte, rd_new_lt, own_new_lt, mp_new_lt, rd_newm_lt, own_newm_lt, mp_newm_lt, rd_wr_ne, own_wr_ne, mp_wr_ne, rd_wrm_ne, own_wrm_ne, mp_wrm_ne, rd_new_eq, own_new_eq, mp_newm_eq]
                  refine Both.dec (fun h3 => ?_) (fun h3 => ?_)
                  · simp (disch := (first | omega | (simp only [size_new, size_newm, size_wr, size_wrm] <;> omega) | fail)) only [go_sem, Nat.reduceBEq, Nat.reduceAdd, Nat.reduceMul, Nat.reduceLeDiff, ↓reduceIte, rd_new_lt, own_new_lt, mp_new_lt, rd_newm_lt, own_newm_lt, mp_newm_lt, rd_wr_ne, own_wr_ne, mp_wr_ne, rd_wrm_ne, own_wrm_ne, mp_wrm_ne, rd_new_eq, own_new_eq, mp_newm_eq]
                    refine Both.of_true (decide_eq_true (hxl (by omega) h3)) ?_
                    simp (disch := (first | omega | (simp only [size_new, size_newm, size_wr, size_wrm] <;> omega) | fail)) only [go_sem, Nat.reduceBEq, Nat.reduceAdd, Nat.reduceMul, Nat.reduceLeDiff, ↓reduceIte, rd_new_lt, own_new_lt, mp_new_lt, rd_newm_lt, own_newm_lt, mp_newm_lt, rd_wr_ne, own_wr_ne, mp_wr_ne, rd_wrm_ne, own_wrm_ne, mp_wrm_ne, rd_new_eq, own_new_eq, mp_newm_eq]
                    rw [hwr]
                    exact fin
                  · simp (disch := (first | omega | (simp only [size_new, size_newm, size_wr, size_wrm] <;> omega) | fail)) only [go_sem, Nat.reduceBEq, Nat.reduceAdd, Nat.reduceMul, Nat.reduceLeDiff, ↓reduceIte, rd_new_lt, own_new_lt, mp_new_lt, rd_newm_lt, own_newm_lt, mp_newm_lt, rd_wr_ne, own_wr_ne, mp_wr_ne, rd_wrm_ne, own_wrm_ne, mp_wrm_ne, rd_new_eq, own_new_eq, mp_newm_eq]
                    rw [hwr]
                    exact fin
                · simp (disch := (first | omega | (simp only [size_new, size_newm, size_wr, size_wrm] <;> omega) | fail)) only [go_sem, Nat.reduceBEq, Nat.reduceAdd, Nat.reduceMul, Nat.reduceLeDiff, ↓reduceIte, rd_new_lt, own_new_lt, mp_new_lt, rd_newm_lt, own_newm_lt, mp_newm_lt, rd_wr_ne, own_wr_ne, mp_wr_ne, rd_wrm_ne, own_wrm_ne, mp_wrm_ne, rd_new_eq, own_new_eq, mp_newm_eq]
                  rw [hwr]
                  exact fin
              · simp (disch := (first | omega | (simp only [size_new, size_newm, size_wr, size_wrm] <;> omega) | fail)) only [go_sem, Nat.reduceBEq, Nat.reduceAdd, Nat.reduceMul, Nat.reduceLeDiff, ↓reduceIte, rd_new_lt, own_new_lt, mp_new_lt, rd_newm_lt, own_newm_lt, mp_newm_lt, rd_wr_ne, own_wr_ne, mp_wr_ne, rd_wrm_ne, own_wrm_ne, mp_wrm_ne, rd_new_eq, own_new_eq, mp_newm_eq]
                refine Both.dec (fun h2 => ?_) (fun h2 => ?_)
                · simp (disch := (first | omega | (simp only [size_new, size_newm, size_wr, size_wrm] <;> omega) | fail)) only [go_sem, Nat.reduceBEq, Nat.reduceAdd, Nat.reduceMul, Nat.reduceLeDiff, ↓reduceIte, rd_new_lt, own_new_lt, mp_new_lt, rd_newm_lt, own_newm_lt, mp_newm_lt, rd_wr_ne, own_wr_ne, mp_wr_ne, rd_wrm_ne, own_wrm_ne, mp_wrm_ne, rd_new_eq, own_new_eq, mp_newm_eq]
                  refine Both.dec (fun h3 => ?_) (fun h3 => ?_)
                  · simp (disch := (first | omega | (simp only [size_new, size_newm, size_wr, size_wrm] <;> omega) | fail)) only [go_sem, Nat.reduceBEq, Nat.reduceAdd, Nat.reduceMul, Nat.reduceLeDiff, ↓reduceIte, rd_new_lt, own_new_lt, mp_new_lt, rd_newm_lt, own_newm_lt, mp_newm_lt, rd_wr_ne, own_wr_ne, mp_wr_ne, rd_wrm_ne, own_wrm_ne, mp_wrm_ne, rd_new_eq, own_new_eq, mp_newm_eq]
                    refine Both.of_true (decide_eq_true (hxl (by omega) h3)) ?_
                    simp (disch := (first | omega | (simp only [size_new, size_newm, size_wr, size_wrm] <;> omega) | fail)) only [go_sem, Nat.reduceBEq, Nat.reduceAdd, Nat.reduceMul, Nat.reduceLeDiff, ↓reduceIte, rd_new_lt, own_new_lt, mp_new_lt, rd_newm_lt, own_newm_lt, mp_newm_lt, rd_wr_ne, own_wr_ne, mp_wr_ne, rd_wrm_ne, own_wrm_ne, mp_wrm_ne, rd_new_eq, own_new_eq, mp_newm_eq]
                    rw [hwr]
                    exact fin
                  · simp (disch := (first | omega | (simp only [size_new, size_newm, size_wr, size_wrm] <;> omega) | fail)) only [go_sem, Nat.reduceBEq, Nat.reduceAdd, Nat.reduceMul, Nat.reduceLeDiff, ↓reduceIte, rd_new_lt, own_new_lt, mp_new_lt, rd_newm_lt, own_newm_lt, mp_newm_lt, rd_wr_ne, own_wr_ne, mp_wr_ne, rd_wrm_ne, own_wrm_ne, mp_wrm_ne, rd_new_eq, own_new_eq, mp_newm_eq]
                    rw [hwr]
                    exact fin
                · simp (disch := (first | omega | (simp only [size_new, size_newm, size_wr, size_wrm] <;> omega) | fail)) only [go_sem, Nat.reduceBEq, Nat.reduceAdd, Nat.reduceMul, Nat.reduceLeDiff, ↓reduceIte, rd_new_lt, own_new_lt, mp_new_lt, rd_newm_lt, own_newm_lt, mp_newm_lt, rd_wr_ne, own_wr_ne, mp_wr_ne, rd_wrm_ne, own_wrm_ne, mp_wrm_ne, rd_new_eq, own_new_eq, mp_newm_eq]
                  rw [hwr]
                  exact fin
            · exact ⟨rfl, t9.fresh⟩
        · simp (disch := (first | omega | (simp only [size_new, size_newm, size_wr, size_wrm] <;> omega) | fail)) only [go_sem, Nat.reduceBEq, Nat.reduceAdd, Nat.reduceMul, Nat.reduceLeDiff, ↓reduceIte, rd_new_lt, own_new_lt, mp_new_lt, rd_newm_lt, own_newm_lt, mp_newm_lt, rd_wr_ne, own_wr_ne, mp_wr_ne, rd_wrm_ne, own_wrm_ne, mp_wrm_ne, rd_new_eq, own_new_eq, mp_newm_eq, e0, e1, e8, e9, e10, e15]
          refine LoopV.intro (fun m env H' => ∃ (i : Nat) (w : Nw), env = [(0, ov), (1, .slice a keys.length c), (8, i64 low), (9, i64 gone), (10, i64 1), (15, i64 there), (16, i64 i)] ∧ m = (w.len 1).toNat ∧ AtN I Hh H' w ∧ (i : Int) + w.len 1 ≤ keys.length ∧
              (gone ≠ low → 0 ≤ gone → ∀ e, w.cs[gone.toNat]? ≠ some (1, e)) ∧ (i = 0 → there = 1 → w.first 1 low)) (w6.len 1).toNat ⟨0, w6, rfl, rfl, t6, by have := hl6; omega, fun _ h0 e h => by have := (List.getElem?_eq_some_iff.1 h).1; omega, fun _ h => (hfirst6 w6 (fun _ _ h _ => h) h rfl)⟩ ?_
          rintro m env H9 ⟨i, w9, rfl, rfl, t9, hil, hgone, hfirst⟩
          have hw9 := (w9.len_le 1).1
          simp (disch := (first | omega | (simp only [size_new, size_newm, size_wr, size_wrm] <;> omega) | fail)) only [go_sem, Nat.reduceBEq, Nat.reduceAdd, Nat.reduceMul, Nat.reduceLeDiff, ↓reduceIte, rd_new_lt, own_new_lt, mp_new_lt, rd_newm_lt, own_newm_lt, mp_newm_lt, rd_wr_ne, own_wr_ne, mp_wr_ne, rd_wrm_ne, own_wrm_ne, mp_wrm_ne, rd_new_eq, own_new_eq, mp_newm_eq]
          refine InvH.mono (ho.lenA t9 1) ?_
          rintro _ _ ⟨rfl, rfl⟩
          simp (disch := (first | omega | (simp only [size_new, size_newm, size_wr, size_wrm] <;> omega) | fail)) only [go_sem, Nat.reduceBEq, Nat.reduceAdd, Nat.reduceMul, Nat.reduceLeDiff, ↓reduceIte, rd_new_lt, own_new_lt, mp_new_lt, rd_newm_lt, own_newm_lt, mp_newm_lt, rd_wr_ne, own_wr_ne, mp_wr_ne, rd_wrm_ne, own_wrm_ne, mp_wrm_ne, rd_new_eq, own_new_eq, mp_newm_eq]
          refine Both.dec (fun hpos => ?_) (fun hpos => ?_) <;> simp (disch := (first | omega | (simp only [size_new, size_newm, size_wr, size_wrm] <;> omega) | fail)) only [go_sem, Nat.reduceBEq, Nat.reduceAdd, Nat.reduceMul, Nat.reduceLeDiff, ↓reduceIte, rd_new_lt, own_new_lt, mp_new_lt, rd_newm_lt, own_newm_lt, mp_newm_lt, rd_wr_ne, own_wr_ne, mp_wr_ne, rd_wrm_ne, own_wrm_ne, mp_wrm_ne, rd_new_eq, own_new_eq, mp_newm_eq]
          · refine InvH.mono (ho.extractA t9 1) ?_
            rintro _ H10 (⟨h0, _⟩ | ⟨x, hx, rfl, t10⟩)
            · omega
            obtain ⟨e, he⟩ := hx.2.2.1
            have hl10 : (w9.put x (0, 0, 0)).len 1 = w9.len 1 - 1 := by
              rw [Nw.len_put he 1, if_pos ⟨by omega, rfl⟩, if_neg (fun h => by have := h.2; simp only at this; omega)]; omega
            have fin : ∃ m', m' < (w9.len 1).toNat ∧ ∃ (i' : Nat) (w' : Nw), [(0, ov), (1, .slice a keys.length c), (8, i64 low), (9, i64 gone), (10, i64 1), (15, i64 there), (16, i64 ((i : Int) + 1))] = [(0, ov), (1, .slice a keys.length c), (8, i64 low), (9, i64 gone), (10, i64 1), (15, i64 there), (16, i64 i')] ∧ m' = (w'.len 1).toNat ∧ AtN I Hh H10 w' ∧ (i' : Int) + w'.len 1 ≤ keys.length ∧
              (gone ≠ low → 0 ≤ gone → ∀ e, w'.cs[gone.toNat]? ≠ some (1, e)) ∧ (i' = 0 → there = 1 → w'.first 1 low) := by
              refine ⟨((w9.put x (0, 0, 0)).len 1).toNat, by omega, i + 1, w9.put x (0, 0, 0), rfl, rfl, t10, by omega, fun h1 h2 e' h3 => ?_, fun h => by omega⟩
              have h3 : (w9.cs.set x.toNat (0, 0, 0))[gone.toNat]? = some (1, e') := h3
              by_cases hj : x.toNat = gone.toNat
              · rw [hj, List.getElem?_set_self (by rw [← hj]; exact (List.getElem?_eq_some_iff.1 he).1)] at h3
                injection h3 with h3; injection h3 with h3 _; omega
              · rw [List.getElem?_set_ne hj] at h3
                exact hgone h1 h2 e' h3
            have hxg : x = gone → gone = low := fun h => by
              by_cases hgl : gone = low
              · exact hgl
              · exact absurd (h ▸ he) (hgone hgl (by have := hx.2.1; omega) e)
            have hxl : i = 0 → there = 1 → x = low := fun h1 h2 => hx.uniq (hfirst h1 h2)
            have hwr : IntKind.i64.wrap ((i : Int) + 1) = (i : Int) + 1 := wrap64 (by omega) (by omega)
            simp (disch := (first | omega | (simp only [size_new, size_newm, size_wr, size_wrm] <;> omega) | fail)) only [go_sem, Nat.reduceBEq, Nat.reduceAdd, Nat.reduceMul, Nat.reduceLeDiff, ↓reduceIte, rd_new_lt, own_new_lt, mp_new_lt, rd_newm_lt, own_newm_lt, mp_newm_lt, rd_wr_ne, own_wr_ne, mp_wr_ne, rd_wrm_ne, own_wrm_ne, mp_wrm_ne, rd_new_eq, own_new_eq, mp_newm_eq]
            refine Both.of_false (by simp; omega) ?_
            simp (disch := (first | omega | (simp only [size_new, size_newm, size_wr, size_wrm] <;> omega) | fail)) only [go_sem, Nat.reduceBEq, Nat.reduceAdd, Nat.reduceMul, Nat.reduceLeDiff, ↓reduceIte, rd_new_lt, own_new_lt, mp_new_lt, rd_newm_lt, own_newm_lt, mp_newm_lt, rd_wr_ne, own_wr_ne, mp_wr_ne, rd_wrm_ne, own_wrm_ne, mp_wrm_ne, rd_new_eq, own_new_eq, mp_newm_eq]
            refine Both.dec (fun h1 => ?_) (fun h1 => ?_)
            · simp (disch := (first | omega | (simp only [size_new, size_newm, size_wr, size_wrm] <;> omega) | fail)) only [go_sem, Nat.reduceBEq, Nat.reduceAdd, Nat.reduceMul, Nat.reduceLeDiff, ↓reduceIte, rd_new_lt, own_new_lt, mp_new_lt, rd_newm_lt, own_newm_lt, mp_newm_lt, rd_wr_ne, own_wr_ne, mp_wr_ne, rd_wrm_ne, own_wrm_ne, mp_wrm_ne, rd_new_eq, own_new_eq, mp_newm_eq]
              refine Both.of_true (decide_eq_true (hxg h1)) ?_
              simp (disch := (first | omega | (simp only [size_new, size_newm, size_wr, size_wrm] <;> omega) | fail)) only [go_sem, Nat.reduceBEq, Nat.reduceAdd, Nat.reduceMul, Nat.reduceLeDiff, ↓reduceIte, rd_new_lt, own_new_lt, mp_new_lt, rd_newm_lt, own_newm_lt, mp_newm_lt, rd_wr_ne, own_wr_ne, mp_wr_ne, rd_wrm_ne, own_wrm_ne, mp_wrm_ne, rd_new_eq, own_new_eq, mp_newm_eq]
              refine Both.dec (fun h2 => ?_) (fun h2 => ?_)
              · simp (disch := (first | omega | (simp only [size_new, size_newm, size_wr, size_wrm] <;> omega) | fail)) only [go_sem, Nat.reduceBEq, Nat.reduceAdd, Nat.reduceMul, Nat.reduceLeDiff, ↓reduceIte, rd_new_lt, own_new_lt, mp_new_lt, rd_newm_lt, own_newm_lt, mp_newm_lt, rd_wr_ne, own_wr_ne, mp_wr_ne, rd_wrm_ne, own_wrm_ne, mp_wrm_ne, rd_new_eq, own_new_eq, mp_newm_eq]
                refine Both.dec (fun h3 => ?_) (fun h3 => ?_)
                · simp (disch := (first | omega | (simp only [size_new, size_newm, size_wr, size_wrm] <;> omega) | fail)) only [go_sem, Nat.reduceBEq, Nat.reduceAdd, Nat.reduceMul, Nat.reduceLeDiff, ↓reduceIte, rd_new_lt, own_new_lt, mp_new_lt, rd_newm_lt, own_newm_lt, mp_newm_lt, rd_wr_ne, own_wr_ne, mp_wr_ne, rd_wrm_ne, own_wrm_ne, mp_wrm_ne, rd_new_eq, own_new_eq, mp_newm_eq]
                  refine Both.of_true (decide_eq_true (hxl (by omega) h3)) ?_
                  simp (disch := (first | omega | (simp only [size_new, size_newm, size_wr, size_wrm] <;> omega) | fail)) only [go_sem, Nat.reduceBEq, Nat.reduceAdd, Nat.reduceMul, Nat.reduceLeDiff, ↓reduceIte, rd_new_lt, own_new_lt, mp_new_lt, rd_newm_lt, own_newm_lt, mp_newm_lt, rd_wr_ne, own_wr_ne, mp_wr_ne, rd_wrm_ne, own_wrm_ne, mp_wrm_ne, rd_new_eq, own_new_eq, mp_newm_eq]
                  rw [hwr]
                  exact fin
                · simp (disch := (first | omega | (simp only [size_new, size_newm, size_wr, size_wrm] <;> omega) | fail)) only [go_sem, Nat.reduceBEq, Nat.reduceAdd, Nat.reduceMul, Nat.reduceLeDiff, ↓reduceIte, rd_new_lt, own_new_lt, mp_new_lt, rd_newm_lt, own_newm_lt, mp_newm_lt, rd_wr_ne, own_wr_ne, mp_wr_ne, rd_wrm_ne, own_wrm_ne, mp_wrm_ne, rd_new_eq, own_new_eq, mp_newm_eq]
                  rw [hwr]
                  exact fin
              · simp (disch := (first | omega | (simp only [size_new, size_newm, size_wr, size_wrm] <;> omega) | fail)) only [go_sem, Nat.reduceBEq, Nat.reduceAdd, Nat.reduceMul, Nat.reduceLeDiff, ↓reduceIte, rd_new_lt, own_new_lt, mp_new_lt, rd_newm_lt, own_newm_lt, mp_newm_lt, rd_wr_ne, own_wr_ne, mp_wr_ne, rd_wrm_ne, own_wrm_ne, mp_wrm_ne, rd_new_eq, own_new_eq, mp_newm_eq]
                rw [hwr]
                exact fin
            · simp (disch := (first | omega | (simp only [size_new, size_newm, size_wr, size_wrm] <;> omega) | fail)) only [go_sem, Nat.reduceBEq, Nat.reduceAdd, Nat.reduceMul, Nat.reduceLeDiff, ↓reduceIte, rd_new_lt, own_new_lt, mp_new_lt, rd_newm_lt, own_newm_lt, mp_newm_lt, rd_wr_ne, own_wr_ne, mp_wr_ne, rd_wrm_ne, own_wrm_ne, mp_wrm_ne, rd_new_eq, own_new_eq, mp_newm_eq]
              refine Both.dec (fun h2 => ?_) (fun h2 => ?_)
              · simp (disch := (first | omega | (simp only [size_new, size_newm, size_wr, size_wrm] <;> omega) | fail)) only [go_sem, Nat.reduceBEq, Nat.reduceAdd, Nat.reduceMul, Nat.reduceLeDiff, ↓reduceIte, rd_new_lt, own_new_lt, mp_new_lt, rd_newm_lt, own_newm_lt, mp_newm_lt, rd_wr_ne, own_wr_ne, mp_wr_ne, rd_wrm_ne, own_wrm_ne, mp_wrm_ne, rd_new_eq, own_new_eq, mp_newm_eq]
                refine Both.dec (fun h3 => ?_) (fun h3 => ?_)
                · simp (disch := (first | omega | (simp only [size_new, size_newm, size_wr, size_wrm] <;> omega) | fail)) only [go_sem, Nat.reduceBEq, Nat.reduceAdd, Nat.reduceMul, Nat.reduceLeDiff, ↓reduceIte, rd_new_lt, own_new_lt, mp_new_lt, rd_newm_lt, own_newm_lt, mp_newm_lt, rd_wr_ne, own_wr_ne, mp_wr_ne, rd_wrm_ne, own_wrm_ne, mp_wrm_ne, rd_new_eq, own_new_eq, mp_newm_eq]
                  refine Both.of_true (decide_eq_true (hxl (by omega) h3)) ?_
                  simp (disch := (first | omega | (simp only [size_new, size_newm, size_wr, size_wrm] <;> omega) | fail)) only [go_sem, Nat.reduceBEq, Nat.reduceAdd, Nat.reduceMul, Nat.reduceLeDiff, ↓reduceIte, rd_new_lt, own_new_lt, mp_new_lt, rd_newm_lt, own_newm_lt, mp_newm_lt, rd_wr_ne, own_wr_ne, mp_wr_ne, rd_wrm_ne, own_wrm_ne, mp_wrm_ne, rd_new_eq, own_new_eq, mp_newm_eq]
                  rw [hwr]
                  exact fin
                · simp (disch := (first | omega | (simp only [size_new, size_newm, size_wr, size_wrm] <;> omega) | fail)) only [go_sem, Nat.reduceBEq, Nat.reduceAdd, Nat.reduceMul, Nat.reduceLeDiff, ↓reduceIte, rd_new_lt, own_new_lt, mp_new_lt, rd_newm_lt, own_newm_lt, mp_newm_lt, rd_wr_ne, own_wr_ne, mp_wr_ne, rd_wrm_ne, own_wrm_ne, mp_wrm_ne, rd_new_eq, own_new_eq, mp_newm_eq]
                  rw [hwr]
                  exact fin
              · simp (disch := (first | omega | (simp only [size_new, size_newm, size_wr, size_wrm] <;> omega) | fail)) only [go_sem, Nat.reduceBEq, Nat.reduceAdd, Nat.reduceMul, Nat.reduceLeDiff, ↓reduceIte, rd_new_lt, own_new_lt, mp_new_lt, rd_newm_lt, own_newm_lt, mp_newm_lt, rd_wr_ne, own_wr_ne, mp_wr_ne, rd_wrm_ne, own_wrm_ne, mp_wrm_ne, rd_new_eq, own_new_eq, mp_newm_eq]
                rw [hwr]
                exact fin
          · exact ⟨rfl, t9.fresh⟩
      · simp (disch := (first | omega | (simp only [size_new, size_newm, size_wr, size_wrm] <;> omega) | fail)) only [go_sem, Nat.reduceBEq, Nat.reduceAdd, Nat.reduceMul, Nat.reduceLeDiff, ↓reduceIte, rd_new_lt, own_new_lt, mp_new_lt, rd_newm_lt, own_newm_lt, mp_newm_lt, rd_wr_ne, own_wr_ne, mp_wr_ne, rd_wrm_ne, own_wrm_ne, mp_wrm_ne, rd_new_eq, own_new_eq, mp_newm_eq, e0, e1, e8, e9, e10, e15]
        refine LoopV.intro (fun m env H' => ∃ (i : Nat) (w : Nw), env = [(0, ov), (1, .slice a keys.length c), (8, i64 low), (9, i64 gone), (10, i64 1), (15, i64 there), (16, i64 i)] ∧ m = (w.len 1).toNat ∧ AtN I Hh H' w ∧ (i : Int) + w.len 1 ≤ keys.length ∧
            (gone ≠ low → 0 ≤ gone → ∀ e, w.cs[gone.toNat]? ≠ some (1, e)) ∧ (i = 0 → there = 1 → w.first 1 low)) (w6.len 1).toNat ⟨0, w6, rfl, rfl, t6, by have := hl6; omega, fun _ h0 => absurd h0 (by omega), fun _ h => (hfirst6 w6 (fun _ _ h _ => h) h rfl)⟩ ?_
        rintro m env H9 ⟨i, w9, rfl, rfl, t9, hil, hgone, hfirst⟩
        have hw9 := (w9.len_le 1).1
        simp (disch := (first | omega | (simp only [size_new, size_newm, size_wr, size_wrm] <;> omega) | fail)) only [go_sem, Nat.reduceBEq, Nat.reduceAdd, Nat.reduceMul, Nat.reduceLeDiff, ↓reduceIte, rd_new_lt, own_new_lt, mp_new_lt, rd_newm_lt, own_newm_lt, mp_newm_lt, rd_wr_ne, own_wr_ne, mp_wr_ne, rd_wrm_ne, own_wrm_ne, mp_wrm_ne, rd_new_eq, own_new_eq, mp_newm_eq]
        refine InvH.mono (ho.lenA t9 1) ?_
        rintro _ _ ⟨rfl, rfl⟩
        simp (disch := (first | omega | (simp only [size_new, size_newm, size_wr, size_wrm] <;> omega) | fail)) only [go_sem, Nat.reduceBEq, Nat.reduceAdd, Nat.reduceMul, Nat.reduceLeDiff, ↓reduceIte, rd_new_lt, own_new_lt, mp_new_lt, rd_newm_lt, own_newm_lt, mp_newm_lt, rd_wr_ne, own_wr_ne, mp_wr_ne, rd_wrm_ne, own_wrm_ne, mp_wrm_ne, rd_new_eq, own_new_eq, mp_newm_eq]
        refine Both.dec (fun hpos => ?_) (fun hpos => ?_) <;> simp (disch := (first | omega | (simp only [size_new, size_newm, size_wr, size_wrm] <;> omega) | fail)) only [go_sem, Nat.reduceBEq, Nat.reduceAdd, Nat.reduceMul, Nat.reduceLeDiff, ↓reduceIte, rd_new_lt, own_new_lt, mp_new_lt, rd_newm_lt, own_newm_lt, mp_newm_lt, rd_wr_ne, own_wr_ne, mp_wr_ne, rd_wrm_ne, own_wrm_ne, mp_wrm_ne, rd_new_eq, own_new_eq, mp_newm_eq]
        · refine InvH.mono (ho.extractA t9 1) ?_
          rintro _ H10 (⟨h0, _⟩ | ⟨x, hx, rfl, t10⟩)
          · omega
          obtain ⟨e, he⟩ := hx.2.2.1
          have hl10 : (w9.put x (0, 0, 0)).len 1 = w9.len 1 - 1 := by
            rw [Nw.len_put he 1, if_pos ⟨by omega, rfl⟩, if_neg (fun h => by have := h.2; simp only at this; omega)]; omega
          have fin : ∃ m', m' < (w9.len 1).toNat ∧ ∃ (i' : Nat) (w' : Nw), [(0, ov), (1, .slice a keys.length c), (8, i64 low), (9, i64 gone), (10, i64 1), (15, i64 there), (16, i64 ((i : Int) + 1))] = [(0, ov), (1, .slice a keys.length c), (8, i64 low), (9, i64 gone), (10, i64 1), (15, i64 there), (16, i64 i')] ∧ m' = (w'.len 1).toNat ∧ AtN I Hh H10 w' ∧ (i' : Int) + w'.len 1 ≤ keys.length ∧
            (gone ≠ low → 0 ≤ gone → ∀ e, w'.cs[gone.toNat]? ≠ some (1, e)) ∧ (i' = 0 → there = 1 → w'.first 1 low) := by
            refine ⟨((w9.put x (0, 0, 0)).len 1).toNat, by omega, i + 1, w9.put x (0, 0, 0), rfl, rfl, t10, by omega, fun h1 h2 e' h3 => ?_, fun h => by omega⟩
            have h3 : (w9.cs.set x.toNat (0, 0, 0))[gone.toNat]? = some (1, e') := h3
            by_cases hj : x.toNat = gone.toNat
            · rw [hj, List.getElem?_set_self (by rw [← hj]; exact (List.getElem?_eq_some_iff.1 he).1)] at h3
              injection h3 with h3; injection h3 with h3 _; omega
            · rw [List.getElem?_set_ne hj] at h3
              exact hgone h1 h2 e' h3
          have hxg : x = gone → gone = low := fun h => by
            by_cases hgl : gone = low
            · exact hgl
            · exact absurd (h ▸ he) (hgone hgl (by have := hx.2.1; omega) e)
          have hxl : i = 0 → there = 1 → x = low := fun h1 h2 => hx.uniq (hfirst h1 h2)
          have hwr : IntKind.i64.wrap ((i : Int) + 1) = (i : Int) + 1 := wrap64 (by omega) (by omega)
          simp (disch := (first | omega | (simp only [size_new, size_newm, size_wr, size_wrm] <;> omega) | fail)) only [go_sem, Nat.reduceBEq, Nat.reduceAdd, Nat.reduceMul, Nat.reduceLeDiff, ↓reduceIte, rd_new_lt, own_new_lt, mp_new_lt, rd_newm_lt, own_newm_lt, mp_newm_lt, rd_wr_ne, own_wr_ne, mp_wr_ne, rd_wrm_ne, own_wrm_ne, mp_wrm_ne, rd_new_eq, own_new_eq, mp_newm_eq]
          refine Both.of_false (by simp; omega) ?_
          simp (disch := (first | omega | (simp only [size_new, size_newm, size_wr, size_wrm] <;> omega) | fail)) only [go_sem, Nat.reduceBEq, Nat.reduceAdd, Nat.reduceMul, Nat.reduceLeDiff, ↓reduceIte, rd_new_lt, own_new_lt, mp_new_lt, rd_newm_lt, own_newm_lt, mp_newm_lt, rd_wr_ne, own_wr_ne, mp_wr_ne, rd_wrm_ne, own_wrm_ne, mp_wrm_ne, rd_new_eq, own_new_eq, mp_newm_eq]
          refine Both.dec (fun h1 => ?_) (fun h1 => ?_)
          · simp (disch := (first | omega | (simp only [size_new, size_newm, size_wr, size_wrm] <;> omega) | fail)) only [go_sem, Nat.reduceBEq, Nat.reduceAdd, Nat.reduceMul, Nat.reduceLeDiff, ↓reduceIte, rd_new_lt, own_new_lt, mp_new_lt, rd_newm_lt, own_newm_lt, mp_newm_lt, rd_wr_ne, own_wr_ne, mp_wr_ne, rd_wrm_ne, own_wrm_ne, mp_wrm_ne, rd_new_eq, own_new_eq, mp_newm_eq]
            refine Both.of_true (decide_eq_true (hxg h1)) ?_
            simp (disch := (first | omega | (simp only [size_new, size_newm, size_wr, size_wrm] <;> omega) | fail)) only [go_sem, Nat.reduceBEq, Nat.reduceAdd, Nat.reduceMul, Nat.reduceLeDiff, ↓reduceIte, rd_new_lt, own_new_lt, mp_new_lt, rd_newm_lt, own_newm_lt, mp_newm_lt, rd_wr_ne, own_wr_ne, mp_wr_ne, rd_wrm_ne, own_wrm_ne, mp_wrm_ne, rd_new_eq, own_new_eq, mp_newm_eq]
            refine Both.dec (fun h2 => ?_) (fun h2 => ?_)
            · simp (disch := (first | omega | (simp only [size_new, size_newm, size_wr, size_wrm] <;> omega) | fail)) only [go_sem, Nat.reduceBEq, Nat.reduceAdd, Nat.reduceMul, Nat.reduceLeDiff, ↓reduceIte, rd_new_lt, own_new_lt, mp_new_lt, rd_newm_lt, own_newm_lt, mp_newm_lt, rd_wr_ne, own_wr_ne, mp_wr_ne, rd_wrm_ne, own_wrm_ne, mp_wrm_ne, rd_new_eq, own_new_eq, mp_newm_eq]
              refine Both.dec (fun h3 => ?_) (fun h3 => ?_)
              · simp (disch := (first | omega | (simp only [size_new, size_newm, size_wr, size_wrm] <;> omega) | fail)) only [go_sem, Nat.reduceBEq, Nat.reduceAdd, Nat.reduceMul, Nat.reduceLeDiff, ↓reduceIte, rd_new_lt, own_new_lt, mp_new_lt, rd_newm_lt, own_newm_lt, mp_newm_lt, rd_wr_ne, own_wr_ne, mp_wr_ne, rd_wrm_ne, own_wrm_ne, mp_wrm_ne, rd_new_eq, own_new_eq, mp_newm_eq]
                refine Both.of_true (decide_eq_true (hxl (by omega) h3)) ?_
                simp (disch := (first | omega | (simp only [size_new, size_newm, size_wr, size_wrm] <;> omega) | fail)) only [go_sem, Nat.reduceBEq, Nat.reduceAdd, Nat.reduceMul, Nat.reduceLeDiff, ↓reduceIte, rd_new_lt, own_new_lt, mp_new_lt, rd_newm_lt, own_newm_lt, mp_newm_lt, rd_wr_ne, own_wr_ne, mp_wr_ne, rd_wrm_ne, own_wrm_ne, mp_wrm_ne, rd_new_eq, own_new_eq, mp_newm_eq]
                rw [hwr]
                exact fin
              · simp (disch := (first | omega | (simp only [size_new, size_newm, size_wr, size_wrm] <;> omega) | fail)) only [go_sem, Nat.reduceBEq, Nat.reduceAdd, Nat.reduceMul, Nat.reduceLeDiff, ↓reduceIte, rd_new_lt, own_new_lt, mp_new_lt, rd_newm_lt, own_newm_lt, mp_newm_lt, rd_wr_ne, own_wr_ne, mp_wr_ne, rd_wrm_ne, own_wrm_ne, mp_wrm_ne, rd_new_eq, own_new_eq, mp_newm_eq]
                rw [hwr]
                exact fin
            · simp (disch := (first | omega | (simp only [size_new, size_newm, size_wr, size_wrm] <;> omega) | fail)) only [go_sem, Nat.reduceBEq, Nat.reduceAdd, Nat.reduceMul, Nat.reduceLeDiff, ↓reduceIte, rd_new_lt, own_new_lt, mp_new_lt, rd_newm_lt, own_newm_lt, mp_newm_lt, rd_wr_ne, own_wr_ne, mp_wr_ne, rd_wrm_ne, own_wrm_ne, mp_wrm_ne, rd_new_eq, own_new_eq, mp_newm_eq]
              rw [hwr]
              exact fin
          · simp (disch := (first | omega | (simp only [size_new, size_newm, size_wr, size_wrm] <;> omega) | fail)) only [go_sem, Nat.reduceBEq, Nat.reduceAdd, Nat.reduceMul, Nat.reduceLeDiff, ↓reduceIte, rd_new_lt, own_new_lt, mp_new_lt, rd_newm_lt, own_newm_lt, mp_newm_lt, rd_wr_ne, own_wr_ne, mp_wr_ne, rd_wrm_ne, own_wrm_ne, mp_wrm_ne, rd_new_eq, own_new_eq, mp_newm_eq]
            refine Both.dec (fun h2 => ?_) (fun h2 => ?_)
            · simp (disch := (first | omega | (simp only [size_new, size_newm, size_wr, size_wrm] <;> omega) | fail)) only [go_sem, Nat.reduceBEq, Nat.reduceAdd, Nat.reduceMul, Nat.reduceLeDiff, ↓reduceIte, rd_new_lt, own_new_lt, mp_new_lt, rd_newm_lt, own_newm_lt, mp_newm_lt, rd_wr_ne, own_wr_ne, mp_wr_ne, rd_wrm_ne, own_wrm_ne, mp_wrm_ne, rd_new_eq, own_new_eq, mp_newm_eq]
              refine Both.dec (fun h3 => ?_) (fun h3 => ?_)
              · simp (disch := (first | omega | (simp only [size_new, size_newm, size_wr, size_wrm] <;> omega) | fail)) only [go_sem, Nat.reduceBEq, Nat.reduceAdd, Nat.reduceMul, Nat.reduceLeDiff, ↓reduceIte, rd_new_lt, own_new_lt, mp_new_lt, rd_newm_lt, own_newm_lt, mp_newm_lt, rd_wr_ne, own_wr_ne, mp_wr_ne, rd_wrm_ne, own_wrm_ne, mp_wrm_ne, rd_new_eq, own_new_eq, mp_newm_eq]
                refine Both.of_true (decide_eq_true (hxl (by omega) h3)) ?_
                simp (disch := (first | omega | (simp only [size_new, size_newm, size_wr, size_wrm] <;> omega) | fail)) only [go_sem, Nat.reduceBEq, Nat.reduceAdd, Nat.reduceMul, Nat.reduceLeDiff, ↓reduceIte, rd_new_lt, own_new_lt, mp_new_lt, rd_newm_lt, own_newm_lt, mp_newm_lt, rd_wr_ne, own_wr_ne, mp_wr_ne, rd_wrm_ne, own_wrm_ne, mp_wrm_ne, rd_new_eq, own_new_eq, mp_newm_eq]
                rw [hwr]
                exact fin
              · simp (disch := (first | omega | (simp only [size_new, size_newm, size_wr, size_wrm] <;> omega) | fail)) only [go_sem, Nat.reduceBEq, Nat.reduceAdd, Nat.reduceMul, Nat.reduceLeDiff, ↓reduceIte, rd_new_lt, own_new_lt, mp_new_lt, rd_newm_lt, own_newm_lt, mp_newm_lt, rd_wr_ne, own_wr_ne, mp_wr_ne, rd_wrm_ne, own_wrm_ne, mp_wrm_ne, rd_new_eq, own_new_eq, mp_newm_eq]
                rw [hwr]
                exact fin
            · simp (disch := (first | omega | (simp only [size_new, size_newm, size_wr, size_wrm] <;> omega) | fail)) only [go_sem, Nat.reduceBEq, Nat.reduceAdd, Nat.reduceMul, Nat.reduceLeDiff, ↓reduceIte, rd_new_lt, own_new_lt, mp_new_lt, rd_newm_lt, own_newm_lt, mp_newm_lt, rd_wr_ne, own_wr_ne, mp_wr_ne, rd_wrm_ne, own_wrm_ne, mp_wrm_ne, rd_new_eq, own_new_eq, mp_newm_eq]
              rw [hwr]
              exact fin
        · exact ⟨rfl, t9.fresh⟩
    · exact absurd h5.2.1 hno2

theorem law05_Halves_spec {ov : Value} {I : Hp → (Nat → Prop) → Int → Nw → Prop} {lim : Int → Int} {rows : Bool} (ho : NestS ov I lim rows) {Hh H : Hp} {keys : List Int} {kv : Value} (hrd : RdS Hh 1 kv keys.length (keys.map i64)) (hmax : keys.length ≤ 60000)
    (hkeys : ∀ k ∈ keys, -9223372036854775808 ≤ k) {left : List Bool} {lv : Value} (hld : RdS Hh 1 lv left.length (left.map .bool)) (low gone : Int)
    (h : AtN I Hh H ⟨[false], List.replicate keys.length (0, 0, 0)⟩) : CallH Try.prog n_law05_Halves [ov, kv, .agg [lv, i64 low, i64 gone].toArray] H fun v H' => Post (v = i64 1 ∧ Fresh Hh H') := by
  refine c_law05_Halves ⟨rfl, ?_⟩
  simp (disch := (first | omega | (simp only [size_new, size_newm, size_wr, size_wrm] <;> omega) | fail)) only [go_sem, Nat.reduceBEq, Nat.reduceAdd, Nat.reduceMul, Nat.reduceLeDiff, ↓reduceIte, rd_new_lt, own_new_lt, mp_new_lt, rd_newm_lt, own_newm_lt, mp_newm_lt, rd_wr_ne, own_wr_ne, mp_wr_ne, rd_wrm_ne, own_wrm_ne, mp_wrm_ne, rd_new_eq, own_new_eq, mp_newm_eq, s_law05_Halves]
  have f0 : Fresh H (H.new 46 [lv, i64 low, i64 gone]) := (Ext.refl _ _).new _ _
  have t0 := ho.keepA h f0
  generalize H.new 46 [lv, i64 low, i64 gone] = H0 at *
  refine (law05_halves_spec ho hrd hmax hkeys hld low gone t0).mono ?_
  rintro _ H1 ⟨rfl, f1⟩
  simp (disch := (first | omega | (simp only [size_new, size_newm, size_wr, size_wrm] <;> omega) | fail)) only [go_sem, Nat.reduceBEq, Nat.reduceAdd, Nat.reduceMul, Nat.reduceLeDiff, ↓reduceIte, rd_new_lt, own_new_lt, mp_new_lt, rd_newm_lt, own_newm_lt, mp_newm_lt, rd_wr_ne, own_wr_ne, mp_wr_ne, rd_wrm_ne, own_wrm_ne, mp_wrm_ne, rd_new_eq, own_new_eq, mp_newm_eq]
  refine (law05_one_spec true H1).mono ?_
  rintro _ _ ⟨rfl, rfl⟩
  simp (disch := (first | omega | (simp only [size_new, size_newm, size_wr, size_wrm] <;> omega) | fail)) only [go_sem, Nat.reduceBEq, Nat.reduceAdd, Nat.reduceMul, Nat.reduceLeDiff, ↓reduceIte, rd_new_lt, own_new_lt, mp_new_lt, rd_newm_lt, own_newm_lt, mp_newm_lt, rd_wr_ne, own_wr_ne, mp_wr_ne, rd_wrm_ne, own_wrm_ne, mp_wrm_ne, rd_new_eq, own_new_eq, mp_newm_eq]
  exact ⟨rfl, f1⟩

theorem wf64 {x : Int} (h : (Lit.int .i64 x).wf = true) : -9223372036854775808 ≤ x ∧ x ≤ 9223372036854775807 := by
  have e1 : IntKind.i64.min = -9223372036854775808 := rfl
  have e2 : IntKind.i64.max = 9223372036854775807 := rfl
  simp only [Lit.wf, e1, e2, Bool.and_eq_true, decide_eq_true_eq] at h
  omega

end Go.Proofs.Yteicchpglnamcaa
