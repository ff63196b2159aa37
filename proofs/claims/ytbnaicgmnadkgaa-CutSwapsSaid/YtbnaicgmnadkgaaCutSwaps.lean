/-
  The law CutSwaps answers true.
-/
import Derived.Test.YtbnaicgmnadkgaaAlive25
import Derived.Test.YtbnaicgmnadkgaaSame
set_option linter.unusedVariables false
set_option linter.unusedSimpArgs false
namespace Go.Proofs.Ytbnaicgmnadkgaa
open Go Go.Vc

/-- An edge put in place of one of the row that it closes. -/
theorem swap_span {n : Int} {es : List Ed} {ks : List Int} (hs : SpR n es ks) {i o : Int} (hi : InE es i) {l : List Int} (h : RowG es ks (fE es i).1 (fE es i).2 l) (ho : o ∈ l) :
    SpR n es (i :: ks.filter (· ≠ o)) ∧ (i :: ks.filter (· ≠ o)).length = ks.length := by
  have hr := (rightG_iff n es).1 hs.1
  obtain ⟨h1, h2, h3⟩ := swap_forest hs.2.acyc (hs.2.bound hr) (ends_lt hr hi) h.way h.sub h.nd ho
  refine ⟨⟨hs.1, fun j hj => ?_, h1, fun u v hh => (h3 u v).2 (hs.2.all u v hh)⟩, h2⟩
  rcases List.mem_cons.1 hj with rfl | hj
  · exact hi
  · exact hs.2.ins j (List.mem_filter.1 hj).1

/-- A lightest forest bears no edge heavier than one that closes a row with it. -/
theorem swap_light {n : Int} {es : List Ed} {ks : List Int} (hs : SpR n es ks) (hloc : LocG es ks) {i o : Int} (hi : InE es i) {l : List Int} (h : RowG es ks (fE es i).1 (fE es i).2 l) (ho : o ∈ l) : ¬ wE es i < wE es o := by
  have hr := (rightG_iff n es).1 hs.1
  have := (way_loc (w := wE es) hs.2.acyc (hs.2.bound hr) h.way h.sub h.nd (wE es i)).2 (hloc i (all_in.2 hi)) o ho
  omega

set_option maxHeartbeats 8000000 in
theorem law25_CutSwaps_args {Hh : Hp} {v0 v1 v2 : Value} (h0 : fitA Hh (true, [.k (.i .i64), .sl [.i .i64, .i .i64, .i .i64]]) v0) (h1 : fitA Hh (false, [.sl [.i .i64]]) v1) (h2 : fitA Hh (true, [.k (.i .i64), .k (.i .i64)]) v2) :
    CallH Try.prog n_law25_CutSwaps [v0, v1, v2] Hh fun v H' => Post (v = .bool true ∧ Fresh Hh H') := by
  obtain ⟨n, es, a, c, rfl, hr, hac, hmax, hn, hes⟩ := fitA_graph h0
  obtain ⟨ks, a', c', rfl, hk, hkc, hkm⟩ := fitA_intsC h1
  obtain ⟨x, y, rfl, hx, hy⟩ := fitA_two h2
  clear h0 h1 h2
  refine c_law25_CutSwaps ⟨rfl, ?_⟩
  have f0 : Fresh Hh (Hh.new 24 [i64 n, .slice a es.length c]) := (Ext.refl _ _).new _ _
  have b0 := own_new Hh 24 [i64 n, .slice a es.length c]
  have hz0 : (Hh.new 24 [i64 n, .slice a es.length c]).size = Hh.size + 1 := by rw [size_new]
  simp (disch := (first | omega | (simp only [size_new, size_newm, size_wr, size_wrm] <;> omega) | fail)) only [go_sem, Nat.reduceBEq, Nat.reduceAdd, Nat.reduceMul, Nat.reduceLeDiff, ↓reduceIte, rd_new_lt, own_new_lt, mp_new_lt, rd_newm_lt, own_newm_lt, mp_newm_lt, rd_wr_ne, own_wr_ne, mp_wr_ne, rd_wrm_ne, own_wrm_ne, mp_wrm_ne, rd_new_eq, own_new_eq, mp_newm_eq, s_law25_CutSwaps, grV]
  have ft : Fresh (Hh.new 24 [i64 n, .slice a es.length c]) ((Hh.new 24 [i64 n, .slice a es.length c]).new 29 [i64 x, i64 y]) := (Ext.refl _ _).new _ _
  have t0 := own_new (Hh.new 24 [i64 n, .slice a es.length c]) 29 [i64 x, i64 y]
  have b0 := ft.own b0 (fun h => h)
  have f0 := f0.trans ft
  rw [hz0] at t0
  generalize (Hh.new 24 [i64 n, .slice a es.length c]).new 29 [i64 x, i64 y] = H0 at *
  refine (law25_cutAlive_spec H0).mono ?_
  rintro _ H1 ⟨rfl, f1⟩
  have b1 := f1.own b0 (fun h => h)
  have t1 := f1.own t0 (fun h => h)
  simp (disch := (first | omega | (simp only [size_new, size_newm, size_wr, size_wrm] <;> omega) | fail)) only [go_sem, Nat.reduceBEq, Nat.reduceAdd, Nat.reduceMul, Nat.reduceLeDiff, ↓reduceIte, rd_new_lt, own_new_lt, mp_new_lt, rd_newm_lt, own_newm_lt, mp_newm_lt, rd_wr_ne, own_wr_ne, mp_wr_ne, rd_wrm_ne, own_wrm_ne, mp_wrm_ne, rd_new_eq, own_new_eq, mp_newm_eq, rd_of_own b1]
  refine (law25_great_spec H1 n a es.length c).mono ?_
  rintro _ H2 ⟨rfl, f2⟩
  have b2 := f2.own b1 (fun h => h)
  have t2 := f2.own t1 (fun h => h)
  have f02 := f0.trans (f1.trans f2)
  simp (disch := (first | omega | (simp only [size_new, size_newm, size_wr, size_wrm] <;> omega) | fail)) only [go_sem, Nat.reduceBEq, Nat.reduceAdd, Nat.reduceMul, Nat.reduceLeDiff, ↓reduceIte, rd_new_lt, own_new_lt, mp_new_lt, rd_newm_lt, own_newm_lt, mp_newm_lt, rd_wr_ne, own_wr_ne, mp_wr_ne, rd_wrm_ne, own_wrm_ne, mp_wrm_ne, rd_new_eq, own_new_eq, mp_newm_eq]
  refine Both.dec (fun g1 => ?_) (fun g1 => ?_) <;> simp (disch := (first | omega | (simp only [size_new, size_newm, size_wr, size_wrm] <;> omega) | fail)) only [go_sem, Nat.reduceBEq, Nat.reduceAdd, Nat.reduceMul, Nat.reduceLeDiff, ↓reduceIte, rd_new_lt, own_new_lt, mp_new_lt, rd_newm_lt, own_newm_lt, mp_newm_lt, rd_wr_ne, own_wr_ne, mp_wr_ne, rd_wrm_ne, own_wrm_ne, mp_wrm_ne, rd_new_eq, own_new_eq, mp_newm_eq, rd_of_own b2]
  · exact ⟨rfl, f02⟩
  refine Both.dec (fun g2 => ?_) (fun g2 => ?_) <;> simp (disch := (first | omega | (simp only [size_new, size_newm, size_wr, size_wrm] <;> omega) | fail)) only [go_sem, Nat.reduceBEq, Nat.reduceAdd, Nat.reduceMul, Nat.reduceLeDiff, ↓reduceIte, rd_new_lt, own_new_lt, mp_new_lt, rd_newm_lt, own_newm_lt, mp_newm_lt, rd_wr_ne, own_wr_ne, mp_wr_ne, rd_wrm_ne, own_wrm_ne, mp_wrm_ne, rd_new_eq, own_new_eq, mp_newm_eq, rd_of_own b2]
  · exact ⟨rfl, f02⟩
  refine (cut_Spans_spec (hr.fresh f02) (hk.fresh f02) (by omega) (by omega)).mono ?_
  rintro _ H3 ⟨f3, b, rfl, hb⟩
  have b3 := f3.own b2 (fun h => h)
  have t3 := f3.own t2 (fun h => h)
  have f03 := f02.trans f3
  cases b
  · simp (disch := (first | omega | (simp only [size_new, size_newm, size_wr, size_wrm] <;> omega) | fail)) only [go_sem, Nat.reduceBEq, Nat.reduceAdd, Nat.reduceMul, Nat.reduceLeDiff, ↓reduceIte, rd_new_lt, own_new_lt, mp_new_lt, rd_newm_lt, own_newm_lt, mp_newm_lt, rd_wr_ne, own_wr_ne, mp_wr_ne, rd_wrm_ne, own_wrm_ne, mp_wrm_ne, rd_new_eq, own_new_eq, mp_newm_eq, Bool.not_false]
    exact ⟨rfl, f03⟩
  have hs := hb.1 rfl
  have z0 : ([i64 x, i64 y] : List Value)[Int.toNat 0 * 1]? = some (i64 x) := rfl
  have z1 : ([i64 x, i64 y] : List Value)[Int.toNat 1 * 1]? = some (i64 y) := rfl
  have hR := (rightG_iff n es).1 hs.1
  simp (disch := (first | omega | (simp only [size_new, size_newm, size_wr, size_wrm] <;> omega) | fail)) only [go_sem, Nat.reduceBEq, Nat.reduceAdd, Nat.reduceMul, Nat.reduceLeDiff, ↓reduceIte, rd_new_lt, own_new_lt, mp_new_lt, rd_newm_lt, own_newm_lt, mp_newm_lt, rd_wr_ne, own_wr_ne, mp_wr_ne, rd_wrm_ne, own_wrm_ne, mp_wrm_ne, rd_new_eq, own_new_eq, mp_newm_eq, Bool.not_true, rd_of_own t3]
  refine ⟨by decide, ?_⟩
  simp (disch := (first | omega | (simp only [size_new, size_newm, size_wr, size_wrm] <;> omega) | fail)) only [go_sem, Nat.reduceBEq, Nat.reduceAdd, Nat.reduceMul, Nat.reduceLeDiff, ↓reduceIte, rd_new_lt, own_new_lt, mp_new_lt, rd_newm_lt, own_newm_lt, mp_newm_lt, rd_wr_ne, own_wr_ne, mp_wr_ne, rd_wrm_ne, own_wrm_ne, mp_wrm_ne, rd_new_eq, own_new_eq, mp_newm_eq, rd_of_own t3, z0, z1]
  refine Both.dec (fun g3 => ?_) (fun g3 => ?_) <;> simp (disch := (first | omega | (simp only [size_new, size_newm, size_wr, size_wrm] <;> omega) | fail)) only [go_sem, Nat.reduceBEq, Nat.reduceAdd, Nat.reduceMul, Nat.reduceLeDiff, ↓reduceIte, rd_new_lt, own_new_lt, mp_new_lt, rd_newm_lt, own_newm_lt, mp_newm_lt, rd_wr_ne, own_wr_ne, mp_wr_ne, rd_wrm_ne, own_wrm_ne, mp_wrm_ne, rd_new_eq, own_new_eq, mp_newm_eq, rd_of_own t3, rd_of_own b3, z0, z1]
  · exact ⟨rfl, f03⟩
  refine ⟨by decide, ?_⟩
  simp (disch := (first | omega | (simp only [size_new, size_newm, size_wr, size_wrm] <;> omega) | fail)) only [go_sem, Nat.reduceBEq, Nat.reduceAdd, Nat.reduceMul, Nat.reduceLeDiff, ↓reduceIte, rd_new_lt, own_new_lt, mp_new_lt, rd_newm_lt, own_newm_lt, mp_newm_lt, rd_wr_ne, own_wr_ne, mp_wr_ne, rd_wrm_ne, own_wrm_ne, mp_wrm_ne, rd_new_eq, own_new_eq, mp_newm_eq, rd_of_own t3, rd_of_own b3, z0, z1]
  refine Both.dec (fun g4 => ?_) (fun g4 => ?_) <;> simp (disch := (first | omega | (simp only [size_new, size_newm, size_wr, size_wrm] <;> omega) | fail)) only [go_sem, Nat.reduceBEq, Nat.reduceAdd, Nat.reduceMul, Nat.reduceLeDiff, ↓reduceIte, rd_new_lt, own_new_lt, mp_new_lt, rd_newm_lt, own_newm_lt, mp_newm_lt, rd_wr_ne, own_wr_ne, mp_wr_ne, rd_wrm_ne, own_wrm_ne, mp_wrm_ne, rd_new_eq, own_new_eq, mp_newm_eq, rd_of_own t3, rd_of_own b3, z0, z1]
  · exact ⟨rfl, f03⟩
  refine ⟨by decide, ?_⟩
  simp (disch := (first | omega | (simp only [size_new, size_newm, size_wr, size_wrm] <;> omega) | fail)) only [go_sem, Nat.reduceBEq, Nat.reduceAdd, Nat.reduceMul, Nat.reduceLeDiff, ↓reduceIte, rd_new_lt, own_new_lt, mp_new_lt, rd_newm_lt, own_newm_lt, mp_newm_lt, rd_wr_ne, own_wr_ne, mp_wr_ne, rd_wrm_ne, own_wrm_ne, mp_wrm_ne, rd_new_eq, own_new_eq, mp_newm_eq, rd_of_own t3, rd_of_own b3, z0, z1]
  refine Both.dec (fun g5 => ?_) (fun g5 => ?_) <;> simp (disch := (first | omega | (simp only [size_new, size_newm, size_wr, size_wrm] <;> omega) | fail)) only [go_sem, Nat.reduceBEq, Nat.reduceAdd, Nat.reduceMul, Nat.reduceLeDiff, ↓reduceIte, rd_new_lt, own_new_lt, mp_new_lt, rd_newm_lt, own_newm_lt, mp_newm_lt, rd_wr_ne, own_wr_ne, mp_wr_ne, rd_wrm_ne, own_wrm_ne, mp_wrm_ne, rd_new_eq, own_new_eq, mp_newm_eq, rd_of_own t3, rd_of_own b3, z0, z1]
  · exact ⟨rfl, f03⟩
  refine (ref25_Spans_spec (n := n) (hr.fresh f03) (hk.fresh f03) hkc (by omega) (by omega)).mono ?_
  rintro _ H4 ⟨f4, b, rfl, hb4⟩
  have b4 := f4.own b3 (fun h => h)
  have t4 := f4.own t3 (fun h => h)
  have f04 := f03.trans f4
  rw [hb4.2 hs]
  have hi : InE es x := ⟨by omega, by omega⟩
  obtain ⟨ik, e, rfl, he, hik⟩ := hi.get
  have hmem := List.mem_of_getElem? he
  obtain ⟨e0, e1, e2, e3⟩ := hR.ends e hmem
  have h4 := hr.fresh f04
  obtain ⟨_, be, oe, le, rfl, hrde, hle, hcells, hc0, hc1, hc2⟩ := RdS.edgeAt h4 he
  simp (disch := (first | omega | (simp only [size_new, size_newm, size_wr, size_wrm] <;> omega) | fail)) only [go_sem, Nat.reduceBEq, Nat.reduceAdd, Nat.reduceMul, Nat.reduceLeDiff, ↓reduceIte, rd_new_lt, own_new_lt, mp_new_lt, rd_newm_lt, own_newm_lt, mp_newm_lt, rd_wr_ne, own_wr_ne, mp_wr_ne, rd_wrm_ne, own_wrm_ne, mp_wrm_ne, rd_new_eq, own_new_eq, mp_newm_eq, Bool.not_true, rd_of_own b4, rd_of_own t4]
  refine ⟨by decide, ?_⟩
  simp (disch := (first | omega | (simp only [size_new, size_newm, size_wr, size_wrm] <;> omega) | fail)) only [go_sem, Nat.reduceBEq, Nat.reduceAdd, Nat.reduceMul, Nat.reduceLeDiff, ↓reduceIte, rd_new_lt, own_new_lt, mp_new_lt, rd_newm_lt, own_newm_lt, mp_newm_lt, rd_wr_ne, own_wr_ne, mp_wr_ne, rd_wrm_ne, own_wrm_ne, mp_wrm_ne, rd_new_eq, own_new_eq, mp_newm_eq, rd_of_own t4, z0, z1]
  refine ⟨⟨by omega, by omega⟩, ?_⟩
  simp (disch := (first | omega | (simp only [size_new, size_newm, size_wr, size_wrm] <;> omega) | fail)) only [go_sem, Nat.reduceBEq, Nat.reduceAdd, Nat.reduceMul, Nat.reduceLeDiff, ↓reduceIte, rd_new_lt, own_new_lt, mp_new_lt, rd_newm_lt, own_newm_lt, mp_newm_lt, rd_wr_ne, own_wr_ne, mp_wr_ne, rd_wrm_ne, own_wrm_ne, mp_wrm_ne, rd_new_eq, own_new_eq, mp_newm_eq, hrde, Int.toNat_natCast]
  refine ⟨by omega, ?_⟩
  have q4 := own_new H4 35 [i64 0, i64 0, i64 0]
  simp (disch := (first | omega | (simp only [size_new, size_newm, size_wr, size_wrm] <;> omega) | fail)) only [go_sem, Nat.reduceBEq, Nat.reduceAdd, Nat.reduceMul, Nat.reduceLeDiff, ↓reduceIte, rd_new_lt, own_new_lt, mp_new_lt, rd_newm_lt, own_newm_lt, mp_newm_lt, rd_wr_ne, own_wr_ne, mp_wr_ne, rd_wrm_ne, own_wrm_ne, mp_wrm_ne, rd_new_eq, own_new_eq, mp_newm_eq, hcells, cellsE, q4]
  have q5 := own_wr_same (l := [i64 e.f, i64 e.t, i64 e.w]) q4
  have f45 : Fresh H4 ((H4.new 35 [i64 0, i64 0, i64 0]).wr H4.size [i64 e.f, i64 e.t, i64 e.w]) := ((Ext.refl _ _).new _ _ : Fresh H4 _).then ((Ext.refl (fun z => z = H4.size) _).wr (fun _ => rfl) _) (fun z hz => by omega)
  have b5 := f45.own b4 (fun h => h)
  have t5 := f45.own t4 (fun h => h)
  simp (disch := (first | omega | (simp only [size_new, size_newm, size_wr, size_wrm] <;> omega) | fail)) only [go_sem, Nat.reduceBEq, Nat.reduceAdd, Nat.reduceMul, Nat.reduceLeDiff, ↓reduceIte, rd_new_lt, own_new_lt, mp_new_lt, rd_newm_lt, own_newm_lt, mp_newm_lt, rd_wr_ne, own_wr_ne, mp_wr_ne, rd_wrm_ne, own_wrm_ne, mp_wrm_ne, rd_new_eq, own_new_eq, mp_newm_eq, q5, b5, t5, rd_of_own b5, rd_of_own t5, rd_of_own q5]
  generalize (H4.new 35 [i64 0, i64 0, i64 0]).wr H4.size [i64 e.f, i64 e.t, i64 e.w] = H5 at *
  have f05 := f04.trans f45
  refine (cut_Row_spec (hr.fresh f05) (hk.fresh f05) (by omega) (by omega)).mono ?_
  have hrow : HasRow n es ks e.f e.t := by
    refine ⟨hs, ⟨e0, e1, e2, e3⟩, ?_⟩
    have := hs.2.all _ _ (hang_mem (List.mem_map.2 ⟨(ik : Int), all_in.2 hi, rfl⟩))
    rwa [fE_at he] at this
  rintro _ H6 ⟨f6, ⟨hno, _⟩ | ⟨_, l, w, fp, rfl, hl, s6, hlow⟩⟩
  · exact absurd hrow hno
  have hl' : RowG es ks (fE es (ik : Int)).1 (fE es (ik : Int)).2 l := by rw [fE_at he]; exact hl
  obtain ⟨ra, rc, rfl, _⟩ := slv_val s6
  have b6 := f6.own b5 (fun h => h)
  have t6 := f6.own t5 (fun h => h)
  have f06 := f05.trans f6
  simp (disch := (first | omega | (simp only [size_new, size_newm, size_wr, size_wrm] <;> omega) | fail)) only [go_sem, Nat.reduceBEq, Nat.reduceAdd, Nat.reduceMul, Nat.reduceLeDiff, ↓reduceIte, rd_new_lt, own_new_lt, mp_new_lt, rd_newm_lt, own_newm_lt, mp_newm_lt, rd_wr_ne, own_wr_ne, mp_wr_ne, rd_wrm_ne, own_wrm_ne, mp_wrm_ne, rd_new_eq, own_new_eq, mp_newm_eq, Bool.not_true, rd_of_own t6]
  refine ⟨by decide, ?_⟩
  simp (disch := (first | omega | (simp only [size_new, size_newm, size_wr, size_wrm] <;> omega) | fail)) only [go_sem, Nat.reduceBEq, Nat.reduceAdd, Nat.reduceMul, Nat.reduceLeDiff, ↓reduceIte, rd_new_lt, own_new_lt, mp_new_lt, rd_newm_lt, own_newm_lt, mp_newm_lt, rd_wr_ne, own_wr_ne, mp_wr_ne, rd_wrm_ne, own_wrm_ne, mp_wrm_ne, rd_new_eq, own_new_eq, mp_newm_eq, rd_of_own t6, show ([i64 ik, i64 y] : List Value)[Int.toNat 0 * 1]? = some (i64 ik) from rfl]
  have l6 : RdS (H6.new 3 [i64 ik]) 1 (.slice (some ⟨H6.size, 0, none⟩) [(ik : Int)].length 1) [(ik : Int)].length ([(ik : Int)].map i64) := (Sl.lit_at (size := 1) (n := 1) (xs := [i64 ik]) rfl rfl).rd
  have f67 : Fresh H6 (H6.new 3 [i64 ik]) := (Ext.refl _ _).new _ _
  have s7 := s6.ext f67 (fun _ _ h => h)
  have b7 := f67.own b6 (fun h => h)
  have t7 := f67.own t6 (fun h => h)
  generalize H6.new 3 [i64 ik] = H7 at *
  have f07 := f06.trans f67
  have hll : l.length ≤ ks.length := List.Nodup.length_le_of_subset hl.nd hl.sub
  refine (ref09_Same_spec s7.rd l6 (by omega)).mono ?_
  rintro _ _ ⟨rfl, rfl⟩
  simp (disch := (first | omega | (simp only [size_new, size_newm, size_wr, size_wrm] <;> omega) | fail)) only [go_sem, Nat.reduceBEq, Nat.reduceAdd, Nat.reduceMul, Nat.reduceLeDiff, ↓reduceIte, rd_new_lt, own_new_lt, mp_new_lt, rd_newm_lt, own_newm_lt, mp_newm_lt, rd_wr_ne, own_wr_ne, mp_wr_ne, rd_wrm_ne, own_wrm_ne, mp_wrm_ne, rd_new_eq, own_new_eq, mp_newm_eq]
  refine Both.dec (fun g6 => ?_) (fun g6 => ?_) <;> simp (disch := (first | omega | (simp only [size_new, size_newm, size_wr, size_wrm] <;> omega) | fail)) only [go_sem, Nat.reduceBEq, Nat.reduceAdd, Nat.reduceMul, Nat.reduceLeDiff, ↓reduceIte, rd_new_lt, own_new_lt, mp_new_lt, rd_newm_lt, own_newm_lt, mp_newm_lt, rd_wr_ne, own_wr_ne, mp_wr_ne, rd_wrm_ne, own_wrm_ne, mp_wrm_ne, rd_new_eq, own_new_eq, mp_newm_eq]
  · exact ⟨rfl, f07⟩
  refine Both.dec (fun g7 => ?_) (fun g7 => ?_) <;> simp (disch := (first | omega | (simp only [size_new, size_newm, size_wr, size_wrm] <;> omega) | fail)) only [go_sem, Nat.reduceBEq, Nat.reduceAdd, Nat.reduceMul, Nat.reduceLeDiff, ↓reduceIte, rd_new_lt, own_new_lt, mp_new_lt, rd_newm_lt, own_newm_lt, mp_newm_lt, rd_wr_ne, own_wr_ne, mp_wr_ne, rd_wrm_ne, own_wrm_ne, mp_wrm_ne, rd_new_eq, own_new_eq, mp_newm_eq, rd_of_own t7]
  · exact ⟨rfl, f07⟩
  refine ⟨by decide, ?_⟩
  simp (disch := (first | omega | (simp only [size_new, size_newm, size_wr, size_wrm] <;> omega) | fail)) only [go_sem, Nat.reduceBEq, Nat.reduceAdd, Nat.reduceMul, Nat.reduceLeDiff, ↓reduceIte, rd_new_lt, own_new_lt, mp_new_lt, rd_newm_lt, own_newm_lt, mp_newm_lt, rd_wr_ne, own_wr_ne, mp_wr_ne, rd_wrm_ne, own_wrm_ne, mp_wrm_ne, rd_new_eq, own_new_eq, mp_newm_eq, rd_of_own t7, show ([i64 ik, i64 y] : List Value)[Int.toNat 1 * 1]? = some (i64 y) from rfl]
  have hl0 : 0 < l.length := by omega
  have hmod : y.tmod (l.length : Int) = ((y.toNat % l.length : Nat) : Int) := by
    rw [Int.tmod_eq_emod_of_nonneg (by omega), Int.natCast_emod, Int.toNat_of_nonneg (by omega)]
  have hjl : y.toNat % l.length < l.length := Nat.mod_lt _ hl0
  rw [if_neg (by omega), hmod]
  generalize y.toNat % l.length = j at *
  obtain ⟨o, ho⟩ : ∃ o, l[j]? = some o := ⟨_, List.getElem?_eq_getElem hjl⟩
  have hol := List.mem_of_getElem? ho
  obtain ⟨ok, e', rfl, he', hok⟩ := (hs.2.ins o (hl.sub o hol)).get
  obtain ⟨_, bl, ol, lb, rfl, hrdl, hcl⟩ := RdS.num s7.rd ho
  simp (disch := (first | omega | (simp only [size_new, size_newm, size_wr, size_wrm] <;> omega) | fail)) only [go_sem, Nat.reduceBEq, Nat.reduceAdd, Nat.reduceMul, Nat.reduceLeDiff, ↓reduceIte, rd_new_lt, own_new_lt, mp_new_lt, rd_newm_lt, own_newm_lt, mp_newm_lt, rd_wr_ne, own_wr_ne, mp_wr_ne, rd_wrm_ne, own_wrm_ne, mp_wrm_ne, rd_new_eq, own_new_eq, mp_newm_eq]
  refine ⟨⟨by omega, by omega⟩, ?_⟩
  simp (disch := (first | omega | (simp only [size_new, size_newm, size_wr, size_wrm] <;> omega) | fail)) only [go_sem, Nat.reduceBEq, Nat.reduceAdd, Nat.reduceMul, Nat.reduceLeDiff, ↓reduceIte, rd_new_lt, own_new_lt, mp_new_lt, rd_newm_lt, own_newm_lt, mp_newm_lt, rd_wr_ne, own_wr_ne, mp_wr_ne, rd_wrm_ne, own_wrm_ne, mp_wrm_ne, rd_new_eq, own_new_eq, mp_newm_eq, hrdl, Int.toNat_natCast, Nat.mul_one, hcl]
  refine Both.dec (fun g8 => ?_) (fun g8 => ?_) <;> simp (disch := (first | omega | (simp only [size_new, size_newm, size_wr, size_wrm] <;> omega) | fail)) only [go_sem, Nat.reduceBEq, Nat.reduceAdd, Nat.reduceMul, Nat.reduceLeDiff, ↓reduceIte, rd_new_lt, own_new_lt, mp_new_lt, rd_newm_lt, own_newm_lt, mp_newm_lt, rd_wr_ne, own_wr_ne, mp_wr_ne, rd_wrm_ne, own_wrm_ne, mp_wrm_ne, rd_new_eq, own_new_eq, mp_newm_eq, rd_of_own b7]
  · omega
  refine Both.dec (fun g9 => ?_) (fun g9 => ?_) <;> simp (disch := (first | omega | (simp only [size_new, size_newm, size_wr, size_wrm] <;> omega) | fail)) only [go_sem, Nat.reduceBEq, Nat.reduceAdd, Nat.reduceMul, Nat.reduceLeDiff, ↓reduceIte, rd_new_lt, own_new_lt, mp_new_lt, rd_newm_lt, own_newm_lt, mp_newm_lt, rd_wr_ne, own_wr_ne, mp_wr_ne, rd_wrm_ne, own_wrm_ne, mp_wrm_ne, rd_new_eq, own_new_eq, mp_newm_eq, rd_of_own t7]
  · omega
  refine ⟨by decide, ?_⟩
  simp (disch := (first | omega | (simp only [size_new, size_newm, size_wr, size_wrm] <;> omega) | fail)) only [go_sem, Nat.reduceBEq, Nat.reduceAdd, Nat.reduceMul, Nat.reduceLeDiff, ↓reduceIte, rd_new_lt, own_new_lt, mp_new_lt, rd_newm_lt, own_newm_lt, mp_newm_lt, rd_wr_ne, own_wr_ne, mp_wr_ne, rd_wrm_ne, own_wrm_ne, mp_wrm_ne, rd_new_eq, own_new_eq, mp_newm_eq, rd_of_own t7, show ([i64 ik, i64 y] : List Value)[Int.toNat 0 * 1]? = some (i64 ik) from rfl]
  have so8 : Sl (H7.new 3 [i64 ik]) 1 (.slice (some ⟨H7.size, 0, none⟩) 1 1) ((ik : Int) :: (ks.take 0).filter (· ≠ (ok : Int))).length ((((ik : Int) :: (ks.take 0).filter (· ≠ (ok : Int)))).map i64) (some H7.size) := Sl.lit_at (size := 1) (n := 1) (xs := [i64 ik]) rfl rfl
  have f78 : Ext (fun z => H7.size ≤ z) H7 (H7.new 3 [i64 ik]) := ((Ext.refl _ _).new _ _ : Fresh H7 _).mono fun _ _ h => h.elim
  have hz7 := own_lt t7
  generalize H7.new 3 [i64 ik] = H8 at *
  refine LoopV.intro (fun m env H' => Ext (fun z => H7.size ≤ z) H7 H' ∧ ∃ (k : Nat) (sa : Option Addr) (n' sc sb : Nat), m = ks.length - k ∧ k ≤ ks.length ∧ H7.size ≤ sb ∧ n' = ((ik : Int) :: (ks.take k).filter (· ≠ (ok : Int))).length ∧
    Sl H' 1 (.slice sa n' sc) n' ((((ik : Int) :: (ks.take k).filter (· ≠ (ok : Int)))).map i64) (some sb) ∧
    env = [(1, .slice a' ks.length c'), (3, ptr Hh.size), (5, ptr (Hh.size + 1)), (10, i64 ok), (11, .slice sa n' sc), (100, .slice a' ks.length c'), (101, i64 ks.length), (102, i64 k)]) ks.length ⟨f78, 0, _, _, _, _, by omega, by omega, Nat.le_refl _, rfl, so8, rfl⟩ ?_
  clear so8 f78
  rintro m env H9 ⟨f9, k, sa, n', sc, sb, hm, hk', hsb, hn', so9, rfl⟩
  have fr9 : Fresh Hh H9 := f07.then f9 (fun z hz => by omega)
  have hk9 := hk.fresh fr9
  simp (disch := (first | omega | (simp only [size_new, size_newm, size_wr, size_wrm] <;> omega) | fail)) only [go_sem, Nat.reduceBEq, Nat.reduceAdd, Nat.reduceMul, Nat.reduceLeDiff, ↓reduceIte, rd_new_lt, own_new_lt, mp_new_lt, rd_newm_lt, own_newm_lt, mp_newm_lt, rd_wr_ne, own_wr_ne, mp_wr_ne, rd_wrm_ne, own_wrm_ne, mp_wrm_ne, rd_new_eq, own_new_eq, mp_newm_eq]
  refine Both.dec (fun hlt => ?_) (fun hlt => ?_) <;> simp (disch := (first | omega | (simp only [size_new, size_newm, size_wr, size_wrm] <;> omega) | fail)) only [go_sem, Nat.reduceBEq, Nat.reduceAdd, Nat.reduceMul, Nat.reduceLeDiff, ↓reduceIte, rd_new_lt, own_new_lt, mp_new_lt, rd_newm_lt, own_newm_lt, mp_newm_lt, rd_wr_ne, own_wr_ne, mp_wr_ne, rd_wrm_ne, own_wrm_ne, mp_wrm_ne, rd_new_eq, own_new_eq, mp_newm_eq]
  · obtain ⟨z, hz⟩ : ∃ z, ks[k]? = some z := ⟨_, List.getElem?_eq_getElem (by omega)⟩
    have htk : (ks.take (k + 1)).filter (· ≠ (ok : Int)) = (ks.take k).filter (· ≠ (ok : Int)) ++ if z = (ok : Int) then [] else [z] := by
      rw [List.take_add_one, hz, List.filter_append]
      congr 1
      by_cases h : z = (ok : Int)
      · simp [h]
      · simp [h]
    obtain ⟨_, bk, ok', lk, rfl, hrdk, hck⟩ := RdS.num hk9 hz
    refine ⟨⟨by omega, by omega⟩, ?_⟩
    simp (disch := (first | omega | (simp only [size_new, size_newm, size_wr, size_wrm] <;> omega) | fail)) only [go_sem, Nat.reduceBEq, Nat.reduceAdd, Nat.reduceMul, Nat.reduceLeDiff, ↓reduceIte, rd_new_lt, own_new_lt, mp_new_lt, rd_newm_lt, own_newm_lt, mp_newm_lt, rd_wr_ne, own_wr_ne, mp_wr_ne, rd_wrm_ne, own_wrm_ne, mp_wrm_ne, rd_new_eq, own_new_eq, mp_newm_eq, hrdk, Int.toNat_natCast, Nat.mul_one, hck]
    refine Both.dec (fun g => ?_) (fun g => ?_) <;> simp (disch := (first | omega | (simp only [size_new, size_newm, size_wr, size_wrm] <;> omega) | fail)) only [go_sem, Nat.reduceBEq, Nat.reduceAdd, Nat.reduceMul, Nat.reduceLeDiff, ↓reduceIte, rd_new_lt, own_new_lt, mp_new_lt, rd_newm_lt, own_newm_lt, mp_newm_lt, rd_wr_ne, own_wr_ne, mp_wr_ne, rd_wrm_ne, own_wrm_ne, mp_wrm_ne, rd_new_eq, own_new_eq, mp_newm_eq]
    · rw [wrap64 (n := (k : Int) + 1) (by omega) (by omega)]
      rw [if_pos g, List.append_nil] at htk
      exact ⟨ks.length - (k + 1), by omega, f9, k + 1, sa, n', sc, sb, rfl, by omega, hsb, by rw [htk]; exact hn', by rw [htk]; exact so9, rfl⟩
    · rw [if_neg g] at htk
      have hfl : ((ks.take k).filter (· ≠ (ok : Int))).length ≤ k := Nat.le_trans (List.length_filter_le _ _) (by rw [List.length_take]; omega)
      rw [List.length_cons] at hn'
      subst hn'
      refine pushS (B := H7.size) (xs := (ik : Int) :: (ks.take k).filter (· ≠ (ok : Int))) hsb f9.size so9 z (by rw [List.length_cons]; omega) fun w' H10 b' hb' s10 e10 => ?_
      obtain ⟨wa, wc, rfl, _⟩ := slv_val s10
      simp (disch := (first | omega | (simp only [size_new, size_newm, size_wr, size_wrm] <;> omega) | fail)) only [go_sem, Nat.reduceBEq, Nat.reduceAdd, Nat.reduceMul, Nat.reduceLeDiff, ↓reduceIte, rd_new_lt, own_new_lt, mp_new_lt, rd_newm_lt, own_newm_lt, mp_newm_lt, rd_wr_ne, own_wr_ne, mp_wr_ne, rd_wrm_ne, own_wrm_ne, mp_wrm_ne, rd_new_eq, own_new_eq, mp_newm_eq]
      rw [wrap64 (n := (k : Int) + 1) (by omega) (by omega)]
      rw [List.cons_append, ← htk] at s10
      exact ⟨ks.length - (k + 1), by omega, f9.trans e10, k + 1, wa, _, wc, b', rfl, by omega, hb', rfl, s10, by rw [htk]; rfl⟩
  · have hk2 : k = ks.length := by omega
    subst hk2
    rw [List.take_length] at so9 hn'
    have b9 := f9.own b7 (fun hh => by omega)
    have t9 := f9.own t7 (fun hh => by omega)
    have h9 := hr.fresh fr9
    obtain ⟨_, be2, oe2, le2, hae2, hrde2, hle2, hcells2, hd0, hd1, hd2⟩ := RdS.edgeAt h9 he
    injection hae2 with hae2
    injection hae2 with hae2 hoe2
    subst hae2; subst hoe2
    obtain ⟨_, be3, oe3, le3, hae3, hrde3, hle3, hcells3, hp0, hp1, hp2⟩ := RdS.edgeAt h9 he'
    injection hae3 with hae3
    injection hae3 with hae3 hoe3
    subst hae3; subst hoe3
    rw [hrde2] at hrde3
    injection hrde3 with hrde3
    subst hrde3
    obtain ⟨hsw, hswl⟩ := swap_span hs hi hl' hol
    have hlight := swap_light hs (n := n) (ks := ks) (i := (ik : Int)) (o := (ok : Int)) (l := l)
    rw [wE_at he, wE_at he'] at hlight
    generalize hF : (ik : Int) :: ks.filter (· ≠ (ok : Int)) = F at *
    subst hn'
    simp (disch := (first | omega | (simp only [size_new, size_newm, size_wr, size_wrm] <;> omega) | fail)) only [go_sem, Nat.reduceBEq, Nat.reduceAdd, Nat.reduceMul, Nat.reduceLeDiff, ↓reduceIte, rd_new_lt, own_new_lt, mp_new_lt, rd_newm_lt, own_newm_lt, mp_newm_lt, rd_wr_ne, own_wr_ne, mp_wr_ne, rd_wrm_ne, own_wrm_ne, mp_wrm_ne, rd_new_eq, own_new_eq, mp_newm_eq, rd_of_own b9, rd_of_own t9]
    refine ⟨by decide, ?_⟩
    simp (disch := (first | omega | (simp only [size_new, size_newm, size_wr, size_wrm] <;> omega) | fail)) only [go_sem, Nat.reduceBEq, Nat.reduceAdd, Nat.reduceMul, Nat.reduceLeDiff, ↓reduceIte, rd_new_lt, own_new_lt, mp_new_lt, rd_newm_lt, own_newm_lt, mp_newm_lt, rd_wr_ne, own_wr_ne, mp_wr_ne, rd_wrm_ne, own_wrm_ne, mp_wrm_ne, rd_new_eq, own_new_eq, mp_newm_eq, rd_of_own t9, show ([i64 ik, i64 y] : List Value)[Int.toNat 0 * 1]? = some (i64 ik) from rfl]
    refine ⟨⟨by omega, by omega⟩, ?_⟩
    simp (disch := (first | omega | (simp only [size_new, size_newm, size_wr, size_wrm] <;> omega) | fail)) only [go_sem, Nat.reduceBEq, Nat.reduceAdd, Nat.reduceMul, Nat.reduceLeDiff, ↓reduceIte, rd_new_lt, own_new_lt, mp_new_lt, rd_newm_lt, own_newm_lt, mp_newm_lt, rd_wr_ne, own_wr_ne, mp_wr_ne, rd_wrm_ne, own_wrm_ne, mp_wrm_ne, rd_new_eq, own_new_eq, mp_newm_eq, hrde2, Int.toNat_natCast, hd2, rd_of_own b9]
    refine ⟨⟨by omega, by omega⟩, ?_⟩
    simp (disch := (first | omega | (simp only [size_new, size_newm, size_wr, size_wrm] <;> omega) | fail)) only [go_sem, Nat.reduceBEq, Nat.reduceAdd, Nat.reduceMul, Nat.reduceLeDiff, ↓reduceIte, rd_new_lt, own_new_lt, mp_new_lt, rd_newm_lt, own_newm_lt, mp_newm_lt, rd_wr_ne, own_wr_ne, mp_wr_ne, rd_wrm_ne, own_wrm_ne, mp_wrm_ne, rd_new_eq, own_new_eq, mp_newm_eq, hrde2, Int.toNat_natCast, hp2, rd_of_own b9]
    refine Both.of_true (by simp; omega) ?_
    simp (disch := (first | omega | (simp only [size_new, size_newm, size_wr, size_wrm] <;> omega) | fail)) only [go_sem, Nat.reduceBEq, Nat.reduceAdd, Nat.reduceMul, Nat.reduceLeDiff, ↓reduceIte, rd_new_lt, own_new_lt, mp_new_lt, rd_newm_lt, own_newm_lt, mp_newm_lt, rd_wr_ne, own_wr_ne, mp_wr_ne, rd_wrm_ne, own_wrm_ne, mp_wrm_ne, rd_new_eq, own_new_eq, mp_newm_eq, rd_of_own b9]
    have hsc : F.length ≤ sc := by
      obtain ⟨_, _, e1, e2⟩ := slv_val so9
      injection e1 with _ _ e3
      omega
    refine (cut_Spans_spec h9 so9.rd (by omega) (by omega)).mono ?_
    rintro _ H10 ⟨f10, b10, rfl, hb10⟩
    rw [hb10.2 hsw]
    have s10 := so9.ext f10 (fun _ _ h => h)
    have g10 := f10.own b9 (fun h => h)
    have h10 := h9.fresh f10
    simp (disch := (first | omega | (simp only [size_new, size_newm, size_wr, size_wrm] <;> omega) | fail)) only [go_sem, Nat.reduceBEq, Nat.reduceAdd, Nat.reduceMul, Nat.reduceLeDiff, ↓reduceIte, rd_new_lt, own_new_lt, mp_new_lt, rd_newm_lt, own_newm_lt, mp_newm_lt, rd_wr_ne, own_wr_ne, mp_wr_ne, rd_wrm_ne, own_wrm_ne, mp_wrm_ne, rd_new_eq, own_new_eq, mp_newm_eq, rd_of_own g10]
    refine (ref24_Forest_spec h10 s10.rd hsc hR (by omega)).mono ?_
    rintro _ H11 ⟨f11, b11, rfl, hb11⟩
    rw [hb11.2 hsw.2]
    have g11 := f11.own g10 (fun h => h)
    have h11 := h10.fresh f11
    have f911 := f10.trans f11
    simp (disch := (first | omega | (simp only [size_new, size_newm, size_wr, size_wrm] <;> omega) | fail)) only [go_sem, Nat.reduceBEq, Nat.reduceAdd, Nat.reduceMul, Nat.reduceLeDiff, ↓reduceIte, rd_new_lt, own_new_lt, mp_new_lt, rd_newm_lt, own_newm_lt, mp_newm_lt, rd_wr_ne, own_wr_ne, mp_wr_ne, rd_wrm_ne, own_wrm_ne, mp_wrm_ne, rd_new_eq, own_new_eq, mp_newm_eq, rd_of_own g11]
    refine Both.dec (fun g => ?_) (fun g => ?_) <;> simp (disch := (first | omega | (simp only [size_new, size_newm, size_wr, size_wrm] <;> omega) | fail)) only [go_sem, Nat.reduceBEq, Nat.reduceAdd, Nat.reduceMul, Nat.reduceLeDiff, ↓reduceIte, rd_new_lt, own_new_lt, mp_new_lt, rd_newm_lt, own_newm_lt, mp_newm_lt, rd_wr_ne, own_wr_ne, mp_wr_ne, rd_wrm_ne, own_wrm_ne, mp_wrm_ne, rd_new_eq, own_new_eq, mp_newm_eq, rd_of_own g11]
    · refine (cut_Least_spec h11 (hk.fresh (fr9.trans f911)) (by omega) (by omega)).mono ?_
      rintro _ H12 ⟨f12, b12, rfl, hb12⟩
      have : b12 = false := by
        cases b12
        · rfl
        · exact absurd g (hlight (hb12.1 rfl).2 hi hl' hol)
      subst this
      simp (disch := (first | omega | (simp only [size_new, size_newm, size_wr, size_wrm] <;> omega) | fail)) only [go_sem, Nat.reduceBEq, Nat.reduceAdd, Nat.reduceMul, Nat.reduceLeDiff, ↓reduceIte, rd_new_lt, own_new_lt, mp_new_lt, rd_newm_lt, own_newm_lt, mp_newm_lt, rd_wr_ne, own_wr_ne, mp_wr_ne, rd_wrm_ne, own_wrm_ne, mp_wrm_ne, rd_new_eq, own_new_eq, mp_newm_eq, Bool.not_false]
      exact ⟨rfl, fr9.trans (f911.trans f12)⟩
    · exact ⟨rfl, fr9.trans f911⟩

end Go.Proofs.Ytbnaicgmnadkgaa
