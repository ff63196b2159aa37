/-
  The law GraphTexts answers true.
-/
import Derived.Test.YtkcpoiploighiaaDoorGraphS
import Derived.Test.YtkcpoiploighiaaDoorGraphE
import Derived.Test.YtkcpoiploighiaaDoorGraphT2
import Derived.Test.YtkcpoiploighiaaDoorGraphD
import Derived.Test.YtkcpoiploighiaaDoorGraphArg
set_option linter.unusedVariables false
set_option linter.unusedSimpArgs false
namespace Go.Proofs.YtkcpoiploighiaaDoor
open Go Go.Vc

theorem fitA_str {H : Hp} {v : Value} (h : fitA H (false, [.k .s]) v) : ∃ l : List UInt8, v = strV l := by
  obtain ⟨_, _, e, ⟨s, rfl, hw⟩, rfl⟩ := h
  injection e with e _
  exact ⟨s.data.toList, e⟩

set_option maxHeartbeats 4000000 in
theorem law21_GraphTexts_args {Hh : Hp} (he : ErrH Hh) {v0 v1 : Value} (h0 : fitA Hh (true, [.k (.i .i64), .sl [.i .i64, .i .i64, .i .i64]]) v0) (h1 : fitA Hh (false, [.k .s]) v1) : CallH Tryd.prog n_law21_GraphTexts [v0, v1] Hh fun v H' => Post (v = .bool true ∧ Fresh Hh H') := by
  obtain ⟨n, es, a, c, rfl, hr, hac, hmax, hn, hes⟩ := fitA_graph h0
  obtain ⟨l, rfl⟩ := fitA_str h1
  clear h0 h1
  refine c_law21_GraphTexts ⟨rfl, ?_⟩
  have hz : l.toArray.size = l.length := List.size_toArray ..
  have f0 : Fresh Hh (Hh.new 35 [i64 n, .slice a es.length c]) := (Ext.refl _ _).new _ _
  have b0 := own_new Hh 35 [i64 n, .slice a es.length c]
  simp (disch := (first | omega | (simp only [size_new, size_newm, size_wr, size_wrm] <;> omega) | fail)) only [go_sem, Nat.reduceBEq, Nat.reduceAdd, Nat.reduceMul, Nat.reduceLeDiff, ↓reduceIte, rd_new_lt, own_new_lt, mp_new_lt, rd_newm_lt, own_newm_lt, mp_newm_lt, rd_wr_ne, own_wr_ne, mp_wr_ne, rd_wrm_ne, own_wrm_ne, mp_wrm_ne, rd_new_eq, own_new_eq, mp_newm_eq, s_law21_GraphTexts, grV]
  generalize Hh.new 35 [i64 n, .slice a es.length c] = H0 at *
  refine (law21_graphAlive_spec (he.fresh f0)).mono ?_
  rintro _ H1 ⟨rfl, f1⟩
  have b1 := f1.own b0 (fun h => h)
  simp (disch := (first | omega | (simp only [size_new, size_newm, size_wr, size_wrm] <;> omega) | fail)) only [go_sem, Nat.reduceBEq, Nat.reduceAdd, Nat.reduceMul, Nat.reduceLeDiff, ↓reduceIte, rd_new_lt, own_new_lt, mp_new_lt, rd_newm_lt, own_newm_lt, mp_newm_lt, rd_wr_ne, own_wr_ne, mp_wr_ne, rd_wrm_ne, own_wrm_ne, mp_wrm_ne, rd_new_eq, own_new_eq, mp_newm_eq, rd_of_own b1]
  refine (law21_great_spec H1 n a es.length c).mono ?_
  rintro _ H2 ⟨rfl, f2⟩
  have b2 := f2.own b1 (fun h => h)
  have f02 := f0.trans (f1.trans f2)
  simp (disch := (first | omega | (simp only [size_new, size_newm, size_wr, size_wrm] <;> omega) | fail)) only [go_sem, Nat.reduceBEq, Nat.reduceAdd, Nat.reduceMul, Nat.reduceLeDiff, ↓reduceIte, rd_new_lt, own_new_lt, mp_new_lt, rd_newm_lt, own_newm_lt, mp_newm_lt, rd_wr_ne, own_wr_ne, mp_wr_ne, rd_wrm_ne, own_wrm_ne, mp_wrm_ne, rd_new_eq, own_new_eq, mp_newm_eq]
  refine Both.dec (fun g1 => ?_) (fun g1 => ?_) <;> simp (disch := (first | omega | (simp only [size_new, size_newm, size_wr, size_wrm] <;> omega) | fail)) only [go_sem, Nat.reduceBEq, Nat.reduceAdd, Nat.reduceMul, Nat.reduceLeDiff, ↓reduceIte, rd_new_lt, own_new_lt, mp_new_lt, rd_newm_lt, own_newm_lt, mp_newm_lt, rd_wr_ne, own_wr_ne, mp_wr_ne, rd_wrm_ne, own_wrm_ne, mp_wrm_ne, rd_new_eq, own_new_eq, mp_newm_eq, rd_of_own b2]
  · exact ⟨rfl, f02⟩
  refine Both.dec (fun g2 => ?_) (fun g2 => ?_) <;> simp (disch := (first | omega | (simp only [size_new, size_newm, size_wr, size_wrm] <;> omega) | fail)) only [go_sem, Nat.reduceBEq, Nat.reduceAdd, Nat.reduceMul, Nat.reduceLeDiff, ↓reduceIte, rd_new_lt, own_new_lt, mp_new_lt, rd_newm_lt, own_newm_lt, mp_newm_lt, rd_wr_ne, own_wr_ne, mp_wr_ne, rd_wrm_ne, own_wrm_ne, mp_wrm_ne, rd_new_eq, own_new_eq, mp_newm_eq, rd_of_own b2]
  · exact ⟨rfl, f02⟩
  refine Both.dec (fun g3 => ?_) (fun g3 => ?_) <;> simp (disch := (first | omega | (simp only [size_new, size_newm, size_wr, size_wrm] <;> omega) | fail)) only [go_sem, Nat.reduceBEq, Nat.reduceAdd, Nat.reduceMul, Nat.reduceLeDiff, ↓reduceIte, rd_new_lt, own_new_lt, mp_new_lt, rd_newm_lt, own_newm_lt, mp_newm_lt, rd_wr_ne, own_wr_ne, mp_wr_ne, rd_wrm_ne, own_wrm_ne, mp_wrm_ne, rd_new_eq, own_new_eq, mp_newm_eq, rd_of_own b2]
  · exact ⟨rfl, f02⟩
  have hl : l.length ≤ 2000 := by omega
  refine (graph_Parse_spec (he.fresh f02) l (by omega)).mono ?_
  rintro _ H3 ⟨d3, f3⟩
  obtain ⟨a3, c3, fp3, rfl, s3, hfp3, hle3⟩ := d3.all
  clear d3
  have b3 := f3.own b2 (fun h => h)
  generalize hp : parseL (linesOf l) = p at *
  have q4 := own_new H3 35 [i64 0, .slice none 0 0]
  simp (disch := (first | omega | (simp only [size_new, size_newm, size_wr, size_wrm] <;> omega) | fail)) only [go_sem, Nat.reduceBEq, Nat.reduceAdd, Nat.reduceMul, Nat.reduceLeDiff, ↓reduceIte, rd_new_lt, own_new_lt, mp_new_lt, rd_newm_lt, own_newm_lt, mp_newm_lt, rd_wr_ne, own_wr_ne, mp_wr_ne, rd_wrm_ne, own_wrm_ne, mp_wrm_ne, rd_new_eq, own_new_eq, mp_newm_eq, q4]
  have q5 := own_wr_same (l := [i64 (gN p), .slice a3 (gE p).length c3]) q4
  have f5 : Fresh H3 ((H3.new 35 [i64 0, .slice none 0 0]).wr H3.size [i64 (gN p), .slice a3 (gE p).length c3]) := ((Ext.refl _ _).new _ _ : Fresh H3 _).then ((Ext.refl (fun z => z = H3.size) _).wr (fun _ => rfl) _) (fun z hz => by omega)
  have s5 := s3.ext f5 (fun _ _ h => h)
  have b5 := f5.own b3 (fun h => h)
  generalize (H3.new 35 [i64 0, .slice none 0 0]).wr H3.size [i64 (gN p), .slice a3 (gE p).length c3] = H5 at *
  refine (ref21_Parse_spec H5 l (by omega)).mono ?_
  rw [hp]
  rintro _ H6 ⟨d6, f6⟩
  obtain ⟨a6, c6, fp6, rfl, s6, hfp6, hle6⟩ := d6.all
  clear d6
  have b6 := f6.own b5 (fun h => h)
  have q6 := f6.own q5 (fun h => h)
  have r6 := (s5.ext f6 (fun _ _ h => h)).rd
  have u4 := own_new H6 35 [i64 0, .slice none 0 0]
  simp (disch := (first | omega | (simp only [size_new, size_newm, size_wr, size_wrm] <;> omega) | fail)) only [go_sem, Nat.reduceBEq, Nat.reduceAdd, Nat.reduceMul, Nat.reduceLeDiff, ↓reduceIte, rd_new_lt, own_new_lt, mp_new_lt, rd_newm_lt, own_newm_lt, mp_newm_lt, rd_wr_ne, own_wr_ne, mp_wr_ne, rd_wrm_ne, own_wrm_ne, mp_wrm_ne, rd_new_eq, own_new_eq, mp_newm_eq, u4]
  have u5 := own_wr_same (l := [i64 (gN p), .slice a6 (gE p).length c6]) u4
  have f7 : Fresh H6 ((H6.new 35 [i64 0, .slice none 0 0]).wr H6.size [i64 (gN p), .slice a6 (gE p).length c6]) := ((Ext.refl _ _).new _ _ : Fresh H6 _).then ((Ext.refl (fun z => z = H6.size) _).wr (fun _ => rfl) _) (fun z hz => by omega)
  have r7 := r6.fresh f7
  have t7 := (s6.ext f7 (fun _ _ h => h)).rd
  have b7 := f7.own b6 (fun h => h)
  have q7 := f7.own q6 (fun h => h)
  generalize (H6.new 35 [i64 0, .slice none 0 0]).wr H6.size [i64 (gN p), .slice a6 (gE p).length c6] = H7 at *
  have f27 := f3.trans (f5.trans (f6.trans f7))
  have hr7 := (hr.fresh f02).fresh f27
  have ht7 := ((he.fresh f02).fresh f27).tab
  refine InvV.intro (fun H' => H'.own Hh.size = some [i64 n, .slice a es.length c]) b7 ?_
  simp (disch := (first | omega | (simp only [size_new, size_newm, size_wr, size_wrm] <;> omega) | fail)) only [go_sem, Nat.reduceBEq, Nat.reduceAdd, Nat.reduceMul, Nat.reduceLeDiff, ↓reduceIte, rd_new_lt, own_new_lt, mp_new_lt, rd_newm_lt, own_newm_lt, mp_newm_lt, rd_wr_ne, own_wr_ne, mp_wr_ne, rd_wrm_ne, own_wrm_ne, mp_wrm_ne, rd_new_eq, own_new_eq, mp_newm_eq]
  refine StbV.intro (grV n (.slice a es.length c)) (fun H' hI => by simp (disch := (first | omega | (simp only [size_new, size_newm, size_wr, size_wrm] <;> omega) | fail)) only [go_sem, Nat.reduceBEq, Nat.reduceAdd, Nat.reduceMul, Nat.reduceLeDiff, ↓reduceIte, rd_new_lt, own_new_lt, mp_new_lt, rd_newm_lt, own_newm_lt, mp_newm_lt, rd_wr_ne, own_wr_ne, mp_wr_ne, rd_wrm_ne, own_wrm_ne, mp_wrm_ne, rd_new_eq, own_new_eq, mp_newm_eq, rd_of_own hI]; exact ⟨rfl, trivial⟩) ?_
  simp (disch := (first | omega | (simp only [size_new, size_newm, size_wr, size_wrm] <;> omega) | fail)) only [go_sem, Nat.reduceBEq, Nat.reduceAdd, Nat.reduceMul, Nat.reduceLeDiff, ↓reduceIte, rd_new_lt, own_new_lt, mp_new_lt, rd_newm_lt, own_newm_lt, mp_newm_lt, rd_wr_ne, own_wr_ne, mp_wr_ne, rd_wrm_ne, own_wrm_ne, mp_wrm_ne, rd_new_eq, own_new_eq, mp_newm_eq, rd_of_own b7]
  refine And.intro b7 ?_
  simp (disch := (first | omega | (simp only [size_new, size_newm, size_wr, size_wrm] <;> omega) | fail)) only [go_sem, Nat.reduceBEq, Nat.reduceAdd, Nat.reduceMul, Nat.reduceLeDiff, ↓reduceIte, rd_new_lt, own_new_lt, mp_new_lt, rd_newm_lt, own_newm_lt, mp_newm_lt, rd_wr_ne, own_wr_ne, mp_wr_ne, rd_wrm_ne, own_wrm_ne, mp_wrm_ne, rd_new_eq, own_new_eq, mp_newm_eq]
  have hm : es.length ≤ 1000000000 := by omega
  have hEd : ∀ e ∈ es, EdR e := hes
  refine (graph_Text_spec ht7 hr7 hm hn hEd).mono ?_
  rintro _ H8 ⟨rfl, f8⟩
  have b8 := f8.own b7 (fun h => h)
  refine And.intro b8 ?_
  simp (disch := (first | omega | (simp only [size_new, size_newm, size_wr, size_wrm] <;> omega) | fail)) only [go_sem, Nat.reduceBEq, Nat.reduceAdd, Nat.reduceMul, Nat.reduceLeDiff, ↓reduceIte, rd_new_lt, own_new_lt, mp_new_lt, rd_newm_lt, own_newm_lt, mp_newm_lt, rd_wr_ne, own_wr_ne, mp_wr_ne, rd_wrm_ne, own_wrm_ne, mp_wrm_ne, rd_new_eq, own_new_eq, mp_newm_eq]
  refine (ref21_Text_spec (hr7.fresh f8) hm hn hEd).mono ?_
  rintro _ H9 ⟨rfl, f9⟩
  have b9 := f9.own b8 (fun h => h)
  have f79 := f8.trans f9
  have q9 := f79.own q7 (fun h => h)
  have u9 := f79.own u5 (fun h => h)
  have fin := f02.trans (f27.trans f79)
  refine And.intro b9 ?_
  simp (disch := (first | omega | (simp only [size_new, size_newm, size_wr, size_wrm] <;> omega) | fail)) only [go_sem, Nat.reduceBEq, Nat.reduceAdd, Nat.reduceMul, Nat.reduceLeDiff, ↓reduceIte, rd_new_lt, own_new_lt, mp_new_lt, rd_newm_lt, own_newm_lt, mp_newm_lt, rd_wr_ne, own_wr_ne, mp_wr_ne, rd_wrm_ne, own_wrm_ne, mp_wrm_ne, rd_new_eq, own_new_eq, mp_newm_eq, eq_bytes, decide_true]
  refine Two.intro ?_ ?_
  · simp (disch := (first | omega | (simp only [size_new, size_newm, size_wr, size_wrm] <;> omega) | fail)) only [go_sem, Nat.reduceBEq, Nat.reduceAdd, Nat.reduceMul, Nat.reduceLeDiff, ↓reduceIte, rd_new_lt, own_new_lt, mp_new_lt, rd_newm_lt, own_newm_lt, mp_newm_lt, rd_wr_ne, own_wr_ne, mp_wr_ne, rd_wrm_ne, own_wrm_ne, mp_wrm_ne, rd_new_eq, own_new_eq, mp_newm_eq, decide_true, rd_of_own q9, rd_of_own u9]
    refine And.intro b9 ?_
    simp (disch := (first | omega | (simp only [size_new, size_newm, size_wr, size_wrm] <;> omega) | fail)) only [go_sem, Nat.reduceBEq, Nat.reduceAdd, Nat.reduceMul, Nat.reduceLeDiff, ↓reduceIte, rd_new_lt, own_new_lt, mp_new_lt, rd_newm_lt, own_newm_lt, mp_newm_lt, rd_wr_ne, own_wr_ne, mp_wr_ne, rd_wrm_ne, own_wrm_ne, mp_wrm_ne, rd_new_eq, own_new_eq, mp_newm_eq, decide_true, rd_of_own q9, rd_of_own u9]
    refine And.intro b9 ?_
    simp (disch := (first | omega | (simp only [size_new, size_newm, size_wr, size_wrm] <;> omega) | fail)) only [go_sem, Nat.reduceBEq, Nat.reduceAdd, Nat.reduceMul, Nat.reduceLeDiff, ↓reduceIte, rd_new_lt, own_new_lt, mp_new_lt, rd_newm_lt, own_newm_lt, mp_newm_lt, rd_wr_ne, own_wr_ne, mp_wr_ne, rd_wrm_ne, own_wrm_ne, mp_wrm_ne, rd_new_eq, own_new_eq, mp_newm_eq, decide_true, rd_of_own q9, rd_of_own u9]
    refine (ref21_Same_spec (n := gN p) (m := gN p) (r7.fresh f79) (t7.fresh f79) (by omega)).mono ?_
    rintro _ H10 ⟨rfl, f10⟩
    refine And.intro (f10.own b9 (fun h => h)) ?_
    rw [decide_eq_true rfl, decide_eq_true rfl]
    simp (disch := (first | omega | (simp only [size_new, size_newm, size_wr, size_wrm] <;> omega) | fail)) only [go_sem, Nat.reduceBEq, Nat.reduceAdd, Nat.reduceMul, Nat.reduceLeDiff, ↓reduceIte, rd_new_lt, own_new_lt, mp_new_lt, rd_newm_lt, own_newm_lt, mp_newm_lt, rd_wr_ne, own_wr_ne, mp_wr_ne, rd_wrm_ne, own_wrm_ne, mp_wrm_ne, rd_new_eq, own_new_eq, mp_newm_eq, decide_true, Bool.and_true]
    exact ⟨congrArg Value.bool rfl, fin.trans f10⟩
  · simp (disch := (first | omega | (simp only [size_new, size_newm, size_wr, size_wrm] <;> omega) | fail)) only [go_sem, Nat.reduceBEq, Nat.reduceAdd, Nat.reduceMul, Nat.reduceLeDiff, ↓reduceIte, rd_new_lt, own_new_lt, mp_new_lt, rd_newm_lt, own_newm_lt, mp_newm_lt, rd_wr_ne, own_wr_ne, mp_wr_ne, rd_wrm_ne, own_wrm_ne, mp_wrm_ne, rd_new_eq, own_new_eq, mp_newm_eq, decide_true, rd_of_own q9, rd_of_own u9]
    refine And.intro b9 ?_
    simp (disch := (first | omega | (simp only [size_new, size_newm, size_wr, size_wrm] <;> omega) | fail)) only [go_sem, Nat.reduceBEq, Nat.reduceAdd, Nat.reduceMul, Nat.reduceLeDiff, ↓reduceIte, rd_new_lt, own_new_lt, mp_new_lt, rd_newm_lt, own_newm_lt, mp_newm_lt, rd_wr_ne, own_wr_ne, mp_wr_ne, rd_wrm_ne, own_wrm_ne, mp_wrm_ne, rd_new_eq, own_new_eq, mp_newm_eq, decide_true, rd_of_own q9, rd_of_own u9]
    refine And.intro b9 ?_
    simp (disch := (first | omega | (simp only [size_new, size_newm, size_wr, size_wrm] <;> omega) | fail)) only [go_sem, Nat.reduceBEq, Nat.reduceAdd, Nat.reduceMul, Nat.reduceLeDiff, ↓reduceIte, rd_new_lt, own_new_lt, mp_new_lt, rd_newm_lt, own_newm_lt, mp_newm_lt, rd_wr_ne, own_wr_ne, mp_wr_ne, rd_wrm_ne, own_wrm_ne, mp_wrm_ne, rd_new_eq, own_new_eq, mp_newm_eq, decide_true, rd_of_own q9, rd_of_own u9]
    refine (ref21_Same_spec (n := gN p) (m := gN p) (r7.fresh f79) (t7.fresh f79) (by omega)).mono ?_
    rintro _ H10 ⟨rfl, f10⟩
    refine And.intro (f10.own b9 (fun h => h)) ?_
    rw [decide_eq_true rfl, decide_eq_true rfl]
    simp (disch := (first | omega | (simp only [size_new, size_newm, size_wr, size_wrm] <;> omega) | fail)) only [go_sem, Nat.reduceBEq, Nat.reduceAdd, Nat.reduceMul, Nat.reduceLeDiff, ↓reduceIte, rd_new_lt, own_new_lt, mp_new_lt, rd_newm_lt, own_newm_lt, mp_newm_lt, rd_wr_ne, own_wr_ne, mp_wr_ne, rd_wrm_ne, own_wrm_ne, mp_wrm_ne, rd_new_eq, own_new_eq, mp_newm_eq, decide_true, Bool.and_true]
    exact ⟨congrArg Value.bool rfl, fin.trans f10⟩

end Go.Proofs.YtkcpoiploighiaaDoor
