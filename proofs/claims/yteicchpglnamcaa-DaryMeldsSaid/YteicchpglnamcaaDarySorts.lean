/-
  The law DarySorts answers true.
-/
import Derived.Test.YteicchpglnamcaaSorts
import Derived.Test.YteicchpglnamcaaDaryNest
import Derived.Test.YteicchpglnamcaaDaryNew
set_option linter.unusedVariables false
set_option linter.unusedSimpArgs false
namespace Go.Proofs.Yteicchpglnamcaa
open Go Go.Vc

theorem law05_Sorts_spec {ov : Value} {I : Hp → (Nat → Prop) → Int → Nw → Prop} {lim : Int → Int} {rows : Bool} (ho : NestS ov I lim rows) {Hh H : Hp} {keys : List Int} {kv : Value} (hrd : RdS Hh 1 kv keys.length (keys.map i64)) (hmax : keys.length ≤ 60000)
    (h : AtN I Hh H ⟨[false], List.replicate keys.length (0, 0, 0)⟩) : CallH Try.prog n_law05_Sorts [ov, kv] H fun v H' => Post (v = i64 1 ∧ Fresh Hh H') := by
  refine c_law05_Sorts ⟨rfl, ?_⟩
  simp (disch := (first | omega | (simp only [size_new, size_newm, size_wr, size_wrm] <;> omega) | fail)) only [go_sem, Nat.reduceBEq, Nat.reduceAdd, Nat.reduceMul, Nat.reduceLeDiff, ↓reduceIte, rd_new_lt, own_new_lt, mp_new_lt, rd_newm_lt, own_newm_lt, mp_newm_lt, rd_wr_ne, own_wr_ne, mp_wr_ne, rd_wrm_ne, own_wrm_ne, mp_wrm_ne, rd_new_eq, own_new_eq, mp_newm_eq, s_law05_Sorts]
  refine (law05_sorts_spec ho hrd hmax h).mono ?_
  rintro _ H1 ⟨rfl, f1⟩
  simp (disch := (first | omega | (simp only [size_new, size_newm, size_wr, size_wrm] <;> omega) | fail)) only [go_sem, Nat.reduceBEq, Nat.reduceAdd, Nat.reduceMul, Nat.reduceLeDiff, ↓reduceIte, rd_new_lt, own_new_lt, mp_new_lt, rd_newm_lt, own_newm_lt, mp_newm_lt, rd_wr_ne, own_wr_ne, mp_wr_ne, rd_wrm_ne, own_wrm_ne, mp_wrm_ne, rd_new_eq, own_new_eq, mp_newm_eq]
  refine (law05_one_spec true H1).mono ?_
  rintro _ _ ⟨rfl, rfl⟩
  simp (disch := (first | omega | (simp only [size_new, size_newm, size_wr, size_wrm] <;> omega) | fail)) only [go_sem, Nat.reduceBEq, Nat.reduceAdd, Nat.reduceMul, Nat.reduceLeDiff, ↓reduceIte, rd_new_lt, own_new_lt, mp_new_lt, rd_newm_lt, own_newm_lt, mp_newm_lt, rd_wr_ne, own_wr_ne, mp_wr_ne, rd_wrm_ne, own_wrm_ne, mp_wrm_ne, rd_new_eq, own_new_eq, mp_newm_eq]
  exact ⟨rfl, f1⟩

theorem law08_open_spec {cap d : Int} (hc : 0 ≤ cap ∧ cap ≤ 65536) (hd : FineD d) (H : Hp) : CallH Try.prog n_law08_open [i64 cap, i64 d] H fun v H' => Post (
    ∃ n S, v = .tuple [ptr n, .bool true].toArray ∧ DaryAt H' n S d 0 ⟨[false], List.replicate cap.toNat (0, 0, 0)⟩ ∧ Fresh H H' ∧ ∀ x, S x → H.size ≤ x) := by
  refine c_law08_open ⟨rfl, ?_⟩
  simp (disch := (first | omega | (simp only [size_new, size_newm, size_wr, size_wrm] <;> omega) | fail)) only [go_sem, Nat.reduceBEq, Nat.reduceAdd, Nat.reduceMul, Nat.reduceLeDiff, ↓reduceIte, rd_new_lt, own_new_lt, mp_new_lt, rd_newm_lt, own_newm_lt, mp_newm_lt, rd_wr_ne, own_wr_ne, mp_wr_ne, rd_wrm_ne, own_wrm_ne, mp_wrm_ne, rd_new_eq, own_new_eq, mp_newm_eq, s_law08_open]
  refine (dary_New_spec cap d H).mono ?_
  rintro _ H1 ⟨f1, ⟨h, _⟩ | ⟨_, h, _⟩ | ⟨_, _, n, S, rfl, d1, hS⟩⟩
  · exact absurd hc h
  · exact absurd hd h
  simp (disch := (first | omega | (simp only [size_new, size_newm, size_wr, size_wrm] <;> omega) | fail)) only [go_sem, Nat.reduceBEq, Nat.reduceAdd, Nat.reduceMul, Nat.reduceLeDiff, ↓reduceIte, rd_new_lt, own_new_lt, mp_new_lt, rd_newm_lt, own_newm_lt, mp_newm_lt, rd_wr_ne, own_wr_ne, mp_wr_ne, rd_wrm_ne, own_wrm_ne, mp_wrm_ne, rd_new_eq, own_new_eq, mp_newm_eq, Option.isNone_some]
  first | exact ⟨n, S, rfl, d1, f1, hS⟩ | (refine Both.of_true (by simp) ?_; simp (disch := (first | omega | (simp only [size_new, size_newm, size_wr, size_wrm] <;> omega) | fail)) only [go_sem, Nat.reduceBEq, Nat.reduceAdd, Nat.reduceMul, Nat.reduceLeDiff, ↓reduceIte, rd_new_lt, own_new_lt, mp_new_lt, rd_newm_lt, own_newm_lt, mp_newm_lt, rd_wr_ne, own_wr_ne, mp_wr_ne, rd_wrm_ne, own_wrm_ne, mp_wrm_ne, rd_new_eq, own_new_eq, mp_newm_eq]; exact ⟨n, S, rfl, d1, f1, hS⟩)

theorem law08_DarySorts_args {Hh : Hp} {v0 v1 : Value} (h0 : fitA Hh (false, [.k (.i .i64)]) v0) (h1 : fitA Hh (false, [.sl [.i .i64]]) v1) :
    CallH Try.prog n_law08_DarySorts [v0, v1] Hh fun v H' => Post (v = .bool true ∧ Fresh Hh H') := by
  obtain ⟨d, rfl, hd0, hd1⟩ := fitA_i64 h0
  obtain ⟨rows, hrd, hrows, hmax⟩ := fitA_sl h1
  obtain ⟨keys, hks, hkl, -⟩ := rows_ints hrows
  rw [hks] at hrd
  rw [← hkl] at hrd
  have hrd : RdS Hh 1 v1 keys.length (keys.map i64) := hrd
  obtain ⟨a, c, rfl⟩ := RdS.val2 hrd
  refine c_law08_DarySorts ⟨rfl, ?_⟩
  simp (disch := (first | omega | (simp only [size_new, size_newm, size_wr, size_wrm] <;> omega) | fail)) only [go_sem, Nat.reduceBEq, Nat.reduceAdd, Nat.reduceMul, Nat.reduceLeDiff, ↓reduceIte, rd_new_lt, own_new_lt, mp_new_lt, rd_newm_lt, own_newm_lt, mp_newm_lt, rd_wr_ne, own_wr_ne, mp_wr_ne, rd_wrm_ne, own_wrm_ne, mp_wrm_ne, rd_new_eq, own_new_eq, mp_newm_eq, s_law08_DarySorts]
  refine (law08_daryAlive_spec Hh).mono ?_
  rintro _ H1 ⟨rfl, f1⟩
  simp (disch := (first | omega | (simp only [size_new, size_newm, size_wr, size_wrm] <;> omega) | fail)) only [go_sem, Nat.reduceBEq, Nat.reduceAdd, Nat.reduceMul, Nat.reduceLeDiff, ↓reduceIte, rd_new_lt, own_new_lt, mp_new_lt, rd_newm_lt, own_newm_lt, mp_newm_lt, rd_wr_ne, own_wr_ne, mp_wr_ne, rd_wrm_ne, own_wrm_ne, mp_wrm_ne, rd_new_eq, own_new_eq, mp_newm_eq]
  refine Both.dec (fun hl => ?_) (fun hl => ?_) <;> simp (disch := (first | omega | (simp only [size_new, size_newm, size_wr, size_wrm] <;> omega) | fail)) only [go_sem, Nat.reduceBEq, Nat.reduceAdd, Nat.reduceMul, Nat.reduceLeDiff, ↓reduceIte, rd_new_lt, own_new_lt, mp_new_lt, rd_newm_lt, own_newm_lt, mp_newm_lt, rd_wr_ne, own_wr_ne, mp_wr_ne, rd_wrm_ne, own_wrm_ne, mp_wrm_ne, rd_new_eq, own_new_eq, mp_newm_eq]
  · exact ⟨rfl, f1⟩
  refine (ref08_Right_spec _ d H1).mono ?_
  rintro _ _ ⟨rfl, rfl⟩
  rw [if_pos ⟨by omega, by omega⟩]
  by_cases hd : ¬ FineD d
  · rw [if_neg hd]
    simp (disch := (first | omega | (simp only [size_new, size_newm, size_wr, size_wrm] <;> omega) | fail)) only [go_sem, Nat.reduceBEq, Nat.reduceAdd, Nat.reduceMul, Nat.reduceLeDiff, ↓reduceIte, rd_new_lt, own_new_lt, mp_new_lt, rd_newm_lt, own_newm_lt, mp_newm_lt, rd_wr_ne, own_wr_ne, mp_wr_ne, rd_wrm_ne, own_wrm_ne, mp_wrm_ne, rd_new_eq, own_new_eq, mp_newm_eq]
    exact ⟨rfl, f1⟩
  have hd := Decidable.not_not.1 hd
  rw [if_pos hd]
  simp (disch := (first | omega | (simp only [size_new, size_newm, size_wr, size_wrm] <;> omega) | fail)) only [go_sem, Nat.reduceBEq, Nat.reduceAdd, Nat.reduceMul, Nat.reduceLeDiff, ↓reduceIte, rd_new_lt, own_new_lt, mp_new_lt, rd_newm_lt, own_newm_lt, mp_newm_lt, rd_wr_ne, own_wr_ne, mp_wr_ne, rd_wrm_ne, own_wrm_ne, mp_wrm_ne, rd_new_eq, own_new_eq, mp_newm_eq]
  refine (law08_open_spec ⟨by omega, by omega⟩ hd H1).mono ?_
  rintro _ H2 ⟨n, S, rfl, d2, f2, hS⟩
  simp (disch := (first | omega | (simp only [size_new, size_newm, size_wr, size_wrm] <;> omega) | fail)) only [go_sem, Nat.reduceBEq, Nat.reduceAdd, Nat.reduceMul, Nat.reduceLeDiff, ↓reduceIte, rd_new_lt, own_new_lt, mp_new_lt, rd_newm_lt, own_newm_lt, mp_newm_lt, rd_wr_ne, own_wr_ne, mp_wr_ne, rd_wrm_ne, own_wrm_ne, mp_wrm_ne, rd_new_eq, own_new_eq, mp_newm_eq]
  refine (law08_open_spec ⟨by omega, by omega⟩ hd H2).mono ?_
  rintro _ H3 ⟨n', S', rfl, d3, f3, hS'⟩
  simp (disch := (first | omega | (simp only [size_new, size_newm, size_wr, size_wrm] <;> omega) | fail)) only [go_sem, Nat.reduceBEq, Nat.reduceAdd, Nat.reduceMul, Nat.reduceLeDiff, ↓reduceIte, rd_new_lt, own_new_lt, mp_new_lt, rd_newm_lt, own_newm_lt, mp_newm_lt, rd_wr_ne, own_wr_ne, mp_wr_ne, rd_wrm_ne, own_wrm_ne, mp_wrm_ne, rd_new_eq, own_new_eq, mp_newm_eq]
  refine (dary_Make_spec d3).mono ?_
  rintro _ H4 (⟨h, _⟩ | ⟨_, rfl, S4, d4, e4, hS4⟩)
  · simp at h
  simp only [List.length_singleton]
  simp (disch := (first | omega | (simp only [size_new, size_newm, size_wr, size_wrm] <;> omega) | fail)) only [go_sem, Nat.reduceBEq, Nat.reduceAdd, Nat.reduceMul, Nat.reduceLeDiff, ↓reduceIte, rd_new_lt, own_new_lt, mp_new_lt, rd_newm_lt, own_newm_lt, mp_newm_lt, rd_wr_ne, own_wr_ne, mp_wr_ne, rd_wrm_ne, own_wrm_ne, mp_wrm_ne, rd_new_eq, own_new_eq, mp_newm_eq]
  refine Both.of_true (by simp) ?_
  simp (disch := (first | omega | (simp only [size_new, size_newm, size_wr, size_wrm] <;> omega) | fail)) only [go_sem, Nat.reduceBEq, Nat.reduceAdd, Nat.reduceMul, Nat.reduceLeDiff, ↓reduceIte, rd_new_lt, own_new_lt, mp_new_lt, rd_newm_lt, own_newm_lt, mp_newm_lt, rd_wr_ne, own_wr_ne, mp_wr_ne, rd_wrm_ne, own_wrm_ne, mp_wrm_ne, rd_new_eq, own_new_eq, mp_newm_eq]
  have hslt := d2.slt
  have hkn : ((keys.length : Nat) : Int).toNat = keys.length := Int.toNat_natCast _
  rw [hkn] at d2 d3 d4
  have z2 := f2.size
  have z3 := f3.size
  have z4 := e4.size
  refine LoopV.intro (fun m env H' => ∃ (i : Nat) (w : Nw) (Sm : Nat → Prop) (st : Int), env = [(0, i64 d), (1, .slice a keys.length c), (5, ptr n), (7, ptr n'), (48, .slice a keys.length c), (49, i64 keys.length), (50, i64 i)] ∧ m = keys.length - i ∧ i ≤ keys.length ∧
      DaryAt H' n' Sm d st w ∧ (∀ z, Sm z → H2.size ≤ z) ∧ Ext (fun z => H2.size ≤ z) H2 H' ∧
      w.hs = [false, true] ∧ w.cs.length = keys.length ∧ (w.len 1 = i) ∧ ∀ (j : Nat), i ≤ j → j < keys.length → w.cs[j]? = some (0, 0, 0)) keys.length
    ⟨0, _, S4, _, rfl, by omega, by omega, d4, fun z hz => ?_, ?_, rfl, by simp [Nw.make], ?_, fun j _ hj => ?_⟩ ?_
  · rcases hS4 z hz with h | h
    · exact hS' z h
    · omega
  · exact (f3.mono fun _ _ h => h.elim).trans' e4 (fun z hz h => hS' z h)
  · rw [Nw.len0.2 (.inr fun i c hc => by
      simp only [Nw.make, List.getElem?_replicate] at hc
      split at hc
      · injection hc with hc; subst hc; simp
      · cases hc)]
    rfl
  · simp only [Nw.make, List.getElem?_replicate, if_pos hj]
  rintro m env H5 ⟨i, w, Sm, st, rfl, rfl, hi, d5, hSm, e5, hhs, hcl, hlen, hcs⟩
  have f5 : Fresh Hh H5 := ((f1.trans f2)).then e5 (fun z hz => by have := f1.size; omega)
  simp (disch := (first | omega | (simp only [size_new, size_newm, size_wr, size_wrm] <;> omega) | fail)) only [go_sem, Nat.reduceBEq, Nat.reduceAdd, Nat.reduceMul, Nat.reduceLeDiff, ↓reduceIte, rd_new_lt, own_new_lt, mp_new_lt, rd_newm_lt, own_newm_lt, mp_newm_lt, rd_wr_ne, own_wr_ne, mp_wr_ne, rd_wrm_ne, own_wrm_ne, mp_wrm_ne, rd_new_eq, own_new_eq, mp_newm_eq]
  refine Both.dec (fun hin => ?_) (fun hin => ?_) <;> simp (disch := (first | omega | (simp only [size_new, size_newm, size_wr, size_wrm] <;> omega) | fail)) only [go_sem, Nat.reduceBEq, Nat.reduceAdd, Nat.reduceMul, Nat.reduceLeDiff, ↓reduceIte, rd_new_lt, own_new_lt, mp_new_lt, rd_newm_lt, own_newm_lt, mp_newm_lt, rd_wr_ne, own_wr_ne, mp_wr_ne, rd_wrm_ne, own_wrm_ne, mp_wrm_ne, rd_new_eq, own_new_eq, mp_newm_eq]
  · obtain ⟨k, hk⟩ : ∃ k, keys[i]? = some k := ⟨_, List.getElem?_eq_getElem (by omega)⟩
    obtain ⟨bb, bo, bc, bl, q1, q2, q3, q4⟩ := RdS.get (hrd.fresh f5) (i := i) (j := 0) (x := i64 k) (by omega) (by simp [hk])
    injection q1 with q1 _ q1'
    subst q1 q1'
    refine ⟨by omega, ?_⟩
    simp (disch := (first | omega | (simp only [size_new, size_newm, size_wr, size_wrm] <;> omega) | fail)) only [go_sem, Nat.reduceBEq, Nat.reduceAdd, Nat.reduceMul, Nat.reduceLeDiff, ↓reduceIte, rd_new_lt, own_new_lt, mp_new_lt, rd_newm_lt, own_newm_lt, mp_newm_lt, rd_wr_ne, own_wr_ne, mp_wr_ne, rd_wrm_ne, own_wrm_ne, mp_wrm_ne, rd_new_eq, own_new_eq, mp_newm_eq, q2, Int.toNat_natCast, show bl[bo + i * 1]? = some (i64 k) from q4]
    have hci := hcs i (Nat.le_refl _) (by omega)
    refine (dary_Insert_spec d5 1 i k 0).mono ?_
    rintro _ H6 (⟨h6, _⟩ | ⟨_, rfl, S6, q, hq, _, d6, e6, hS6⟩)
    · refine absurd ⟨⟨by omega, by rw [hhs]; rfl⟩, ⟨by omega, by omega⟩, fun hin => ?_⟩ h6
      obtain ⟨_, x, hx, hx0⟩ := hin
      rw [Int.toNat_natCast, hci] at hx
      injection hx with hx
      subst hx
      omega
    have hci' : w.cs[(i : Int).toNat]? = some (0, 0, 0) := by rw [Int.toNat_natCast]; exact hci
    have hlen6 : (w.put i (1, k, 0)).len 1 = (i : Int) + 1 := by
      rw [Nw.len_put hci' 1, if_neg (by omega), if_pos ⟨by omega, rfl⟩]; omega
    simp (disch := (first | omega | (simp only [size_new, size_newm, size_wr, size_wrm] <;> omega) | fail)) only [go_sem, Nat.reduceBEq, Nat.reduceAdd, Nat.reduceMul, Nat.reduceLeDiff, ↓reduceIte, rd_new_lt, own_new_lt, mp_new_lt, rd_newm_lt, own_newm_lt, mp_newm_lt, rd_wr_ne, own_wr_ne, mp_wr_ne, rd_wrm_ne, own_wrm_ne, mp_wrm_ne, rd_new_eq, own_new_eq, mp_newm_eq]
    refine (dary_Depth_spec d6 1).mono ?_
    rintro _ _ ⟨rfl, rfl⟩
    rw [hlen6]
    simp (disch := (first | omega | (simp only [size_new, size_newm, size_wr, size_wrm] <;> omega) | fail)) only [go_sem, Nat.reduceBEq, Nat.reduceAdd, Nat.reduceMul, Nat.reduceLeDiff, ↓reduceIte, rd_new_lt, own_new_lt, mp_new_lt, rd_newm_lt, own_newm_lt, mp_newm_lt, rd_wr_ne, own_wr_ne, mp_wr_ne, rd_wrm_ne, own_wrm_ne, mp_wrm_ne, rd_new_eq, own_new_eq, mp_newm_eq]
    rw [wrap64 (n := (i : Int) + 1) (by omega) (by omega)]
    refine (ref07_Depth_spec d _ ((i : Int) + 1) H6 (Nat.le_refl _)).mono ?_
    rintro _ _ ⟨rfl, rfl⟩
    simp (disch := (first | omega | (simp only [size_new, size_newm, size_wr, size_wrm] <;> omega) | fail)) only [go_sem, Nat.reduceBEq, Nat.reduceAdd, Nat.reduceMul, Nat.reduceLeDiff, ↓reduceIte, rd_new_lt, own_new_lt, mp_new_lt, rd_newm_lt, own_newm_lt, mp_newm_lt, rd_wr_ne, own_wr_ne, mp_wr_ne, rd_wrm_ne, own_wrm_ne, mp_wrm_ne, rd_new_eq, own_new_eq, mp_newm_eq]
    refine Both.of_true (by simp) ?_
    simp (disch := (first | omega | (simp only [size_new, size_newm, size_wr, size_wrm] <;> omega) | fail)) only [go_sem, Nat.reduceBEq, Nat.reduceAdd, Nat.reduceMul, Nat.reduceLeDiff, ↓reduceIte, rd_new_lt, own_new_lt, mp_new_lt, rd_newm_lt, own_newm_lt, mp_newm_lt, rd_wr_ne, own_wr_ne, mp_wr_ne, rd_wrm_ne, own_wrm_ne, mp_wrm_ne, rd_new_eq, own_new_eq, mp_newm_eq]
    rw [wrap64 (n := (i : Int) + 1) (by omega) (by omega)]
    have z5 := e5.size
    refine ⟨keys.length - (i + 1), by omega, i + 1, _, S6, _, rfl, rfl, by omega, d6, fun z hz => ?_, e5.trans' e6 (fun z hz h => hSm z h), hhs, by simpa [Nw.put] using hcl, by rw [hlen6]; rfl, fun j hj hj2 => ?_⟩
    · rcases hS6 z hz with h | h
      · exact hSm z h
      · omega
    · show (w.cs.set (i : Int).toNat _)[j]? = _
      rw [Int.toNat_natCast, List.getElem?_set_ne (by omega)]
      exact hcs j (by omega) hj2
  · have dn := d2.ext e5 (fun z hz h => by have := hslt z hz; omega)
    refine (law05_Sorts_spec (dary_nest n hd) hrd (by omega) ⟨S, _, dn, f5, fun z hz => by have := hS z hz; have := f1.size; omega⟩).mono ?_
    rintro _ H6 ⟨rfl, f6⟩
    simp (disch := (first | omega | (simp only [size_new, size_newm, size_wr, size_wrm] <;> omega) | fail)) only [go_sem, Nat.reduceBEq, Nat.reduceAdd, Nat.reduceMul, Nat.reduceLeDiff, ↓reduceIte, rd_new_lt, own_new_lt, mp_new_lt, rd_newm_lt, own_newm_lt, mp_newm_lt, rd_wr_ne, own_wr_ne, mp_wr_ne, rd_wrm_ne, own_wrm_ne, mp_wrm_ne, rd_new_eq, own_new_eq, mp_newm_eq]
    first | exact ⟨rfl, f6⟩ | (refine Both.of_true (by simp) ?_; simp (disch := (first | omega | (simp only [size_new, size_newm, size_wr, size_wrm] <;> omega) | fail)) only [go_sem, Nat.reduceBEq, Nat.reduceAdd, Nat.reduceMul, Nat.reduceLeDiff, ↓reduceIte, rd_new_lt, own_new_lt, mp_new_lt, rd_newm_lt, own_newm_lt, mp_newm_lt, rd_wr_ne, own_wr_ne, mp_wr_ne, rd_wrm_ne, own_wrm_ne, mp_wrm_ne, rd_new_eq, own_new_eq, mp_newm_eq]; exact ⟨rfl, f6⟩)

end Go.Proofs.Yteicchpglnamcaa
