/-
  The row between two vertices: the program's way.
-/
import Derived.Test.YtbnaicgmnadkgaaCutB
import Derived.Test.YtbnaicgmnadkgaaCutR
import Derived.Test.YtbnaicgmnadkgaaCutV
set_option linter.unusedVariables false
set_option linter.unusedSimpArgs false
namespace Go.Proofs.Ytbnaicgmnadkgaa
open Go Go.Vc

/-- When there is a row. -/
def HasRow (n : Int) (es : List Ed) (ks : List Int) (x y : Int) : Prop := SpR n es ks ∧ (0 ≤ x ∧ x < n ∧ 0 ≤ y ∧ y < n) ∧ Hang (ks.map (fE es)) x.toNat y.toNat

set_option maxHeartbeats 4000000 in
theorem cut_Row_spec {H : Hp} {n x y : Int} {a a' : Option Addr} {c c' : Nat} {es : List Ed} {ks : List Int} (h : RdS H 3 (.slice a es.length c) es.length (flatE es)) (h' : RdS H 1 (.slice a' ks.length c') ks.length (ks.map i64))
    (hm : es.length ≤ 1000000000) (hl : ks.length ≤ 1000000) :
    CallH Try.prog n_cut_Row [grV n (.slice a es.length c), .slice a' ks.length c', i64 x, i64 y] H fun v H' => Post (Fresh H H' ∧
      ((¬ HasRow n es ks x y ∧ v = .tuple [.slice none 0 0, .bool false].toArray) ∨
       (HasRow n es ks x y ∧ ∃ l w fp, v = .tuple [w, .bool true].toArray ∧ RowG es ks x.toNat y.toNat l ∧ Sl H' 1 w l.length (l.map i64) fp ∧ ∀ b, fp = some b → H.size ≤ b))) := by
  refine c_cut_Row ⟨rfl, ?_⟩
  have f0 : Fresh H (H.new 24 [i64 n, .slice a es.length c]) := (Ext.refl _ _).new _ _
  have b0 := own_new H 24 [i64 n, .slice a es.length c]
  simp (disch := (first | omega | (simp only [size_new, size_newm, size_wr, size_wrm] <;> omega) | fail)) only [go_sem, Nat.reduceBEq, Nat.reduceAdd, Nat.reduceMul, Nat.reduceLeDiff, ↓reduceIte, rd_new_lt, own_new_lt, mp_new_lt, rd_newm_lt, own_newm_lt, mp_newm_lt, rd_wr_ne, own_wr_ne, mp_wr_ne, rd_wrm_ne, own_wrm_ne, mp_wrm_ne, rd_new_eq, own_new_eq, mp_newm_eq, s_cut_Row, grV]
  generalize H.new 24 [i64 n, .slice a es.length c] = H0 at *
  refine (cut_Spans_spec (h.fresh f0) (h'.fresh f0) hm hl).mono ?_
  rintro _ H1 ⟨f1, b, rfl, hb⟩
  have b1 := f1.own b0 (fun h => h)
  have f01 := f0.trans f1
  simp (disch := (first | omega | (simp only [size_new, size_newm, size_wr, size_wrm] <;> omega) | fail)) only [go_sem, Nat.reduceBEq, Nat.reduceAdd, Nat.reduceMul, Nat.reduceLeDiff, ↓reduceIte, rd_new_lt, own_new_lt, mp_new_lt, rd_newm_lt, own_newm_lt, mp_newm_lt, rd_wr_ne, own_wr_ne, mp_wr_ne, rd_wrm_ne, own_wrm_ne, mp_wrm_ne, rd_new_eq, own_new_eq, mp_newm_eq]
  cases b
  · simp (disch := (first | omega | (simp only [size_new, size_newm, size_wr, size_wrm] <;> omega) | fail)) only [go_sem, Nat.reduceBEq, Nat.reduceAdd, Nat.reduceMul, Nat.reduceLeDiff, ↓reduceIte, rd_new_lt, own_new_lt, mp_new_lt, rd_newm_lt, own_newm_lt, mp_newm_lt, rd_wr_ne, own_wr_ne, mp_wr_ne, rd_wrm_ne, own_wrm_ne, mp_wrm_ne, rd_new_eq, own_new_eq, mp_newm_eq, Bool.not_false]
    exact ⟨f01, .inl ⟨fun hs => absurd (hb.2 hs.1) (by simp), rfl⟩⟩
  have hsp := hb.1 rfl
  have hr := (rightG_iff n es).1 hsp.1
  have hn0 := hr.n0
  have hn1 := hr.n1
  simp (disch := (first | omega | (simp only [size_new, size_newm, size_wr, size_wrm] <;> omega) | fail)) only [go_sem, Nat.reduceBEq, Nat.reduceAdd, Nat.reduceMul, Nat.reduceLeDiff, ↓reduceIte, rd_new_lt, own_new_lt, mp_new_lt, rd_newm_lt, own_newm_lt, mp_newm_lt, rd_wr_ne, own_wr_ne, mp_wr_ne, rd_wrm_ne, own_wrm_ne, mp_wrm_ne, rd_new_eq, own_new_eq, mp_newm_eq, Bool.not_true]
  refine Both.dec (fun g1 => ?_) (fun g1 => ?_) <;> simp (disch := (first | omega | (simp only [size_new, size_newm, size_wr, size_wrm] <;> omega) | fail)) only [go_sem, Nat.reduceBEq, Nat.reduceAdd, Nat.reduceMul, Nat.reduceLeDiff, ↓reduceIte, rd_new_lt, own_new_lt, mp_new_lt, rd_newm_lt, own_newm_lt, mp_newm_lt, rd_wr_ne, own_wr_ne, mp_wr_ne, rd_wrm_ne, own_wrm_ne, mp_wrm_ne, rd_new_eq, own_new_eq, mp_newm_eq, rd_of_own b1]
  · refine ⟨f01, .inl ⟨fun hs => ?_, rfl⟩⟩
    have := hs.2.1
    split at g1 <;> omega
  refine Both.dec (fun g2 => ?_) (fun g2 => ?_) <;> simp (disch := (first | omega | (simp only [size_new, size_newm, size_wr, size_wrm] <;> omega) | fail)) only [go_sem, Nat.reduceBEq, Nat.reduceAdd, Nat.reduceMul, Nat.reduceLeDiff, ↓reduceIte, rd_new_lt, own_new_lt, mp_new_lt, rd_newm_lt, own_newm_lt, mp_newm_lt, rd_wr_ne, own_wr_ne, mp_wr_ne, rd_wrm_ne, own_wrm_ne, mp_wrm_ne, rd_new_eq, own_new_eq, mp_newm_eq, rd_of_own b1]
  · refine ⟨f01, .inl ⟨fun hs => ?_, rfl⟩⟩
    have := hs.2.1
    split at g2 <;> omega
  have hx : 0 ≤ x ∧ x < n ∧ 0 ≤ y ∧ y < n := by split at g1 <;> split at g2 <;> omega
  clear g1 g2
  obtain ⟨u, rfl⟩ : ∃ u : Nat, x = u := ⟨x.toNat, by omega⟩
  obtain ⟨w, rfl⟩ : ∃ u : Nat, y = u := ⟨y.toNat, by omega⟩
  rw [Int.toNat_natCast, Int.toNat_natCast] at *
  have hu : u < n.toNat := by omega
  have hw : w < n.toNat := by omega
  refine (cut_rooted_spec (h.fresh f01) (h'.fresh f01) hr hsp.2.ins hl).mono ?_
  rintro _ H2 ⟨f2, t, bu, bd, bp, up, deep, part, rfl, T, R, hd⟩
  have f02 := f01.trans f2
  simp (disch := (first | omega | (simp only [size_new, size_newm, size_wr, size_wrm] <;> omega) | fail)) only [go_sem, Nat.reduceBEq, Nat.reduceAdd, Nat.reduceMul, Nat.reduceLeDiff, ↓reduceIte, rd_new_lt, own_new_lt, mp_new_lt, rd_newm_lt, own_newm_lt, mp_newm_lt, rd_wr_ne, own_wr_ne, mp_wr_ne, rd_wrm_ne, own_wrm_ne, mp_wrm_ne, rd_new_eq, own_new_eq, mp_newm_eq, rd_of_own T.box]
  refine ⟨⟨by omega, by omega⟩, ?_⟩
  simp (disch := (first | omega | (simp only [size_new, size_newm, size_wr, size_wrm] <;> omega) | fail)) only [go_sem, Nat.reduceBEq, Nat.reduceAdd, Nat.reduceMul, Nat.reduceLeDiff, ↓reduceIte, rd_new_lt, own_new_lt, mp_new_lt, rd_newm_lt, own_newm_lt, mp_newm_lt, rd_wr_ne, own_wr_ne, mp_wr_ne, rd_wrm_ne, own_wrm_ne, mp_wrm_ne, rd_new_eq, own_new_eq, mp_newm_eq, rd_of_own T.box, rd_of_own T.parts, Int.toNat_natCast, Nat.mul_one, Nat.zero_add, ofF_cell (fun v => ((part v : Nat) : Int)) hu]
  refine ⟨⟨by omega, by omega⟩, ?_⟩
  simp (disch := (first | omega | (simp only [size_new, size_newm, size_wr, size_wrm] <;> omega) | fail)) only [go_sem, Nat.reduceBEq, Nat.reduceAdd, Nat.reduceMul, Nat.reduceLeDiff, ↓reduceIte, rd_new_lt, own_new_lt, mp_new_lt, rd_newm_lt, own_newm_lt, mp_newm_lt, rd_wr_ne, own_wr_ne, mp_wr_ne, rd_wrm_ne, own_wrm_ne, mp_wrm_ne, rd_new_eq, own_new_eq, mp_newm_eq, rd_of_own T.parts, Int.toNat_natCast, Nat.mul_one, Nat.zero_add, ofF_cell (fun v => ((part v : Nat) : Int)) hw]
  have hpi := R.part_iff hu hw
  have ee : HasRow n es ks u w ↔ part u = part w := by
    rw [hpi]
    constructor
    · rintro ⟨_, _, h3⟩; rwa [Int.toNat_natCast, Int.toNat_natCast] at h3
    · intro h3; exact ⟨hsp, hx, by rwa [Int.toNat_natCast, Int.toNat_natCast]⟩
  refine Both.dec (fun g3 => ?_) (fun g3 => ?_) <;> simp (disch := (first | omega | (simp only [size_new, size_newm, size_wr, size_wrm] <;> omega) | fail)) only [go_sem, Nat.reduceBEq, Nat.reduceAdd, Nat.reduceMul, Nat.reduceLeDiff, ↓reduceIte, rd_new_lt, own_new_lt, mp_new_lt, rd_newm_lt, own_newm_lt, mp_newm_lt, rd_wr_ne, own_wr_ne, mp_wr_ne, rd_wrm_ne, own_wrm_ne, mp_wrm_ne, rd_new_eq, own_new_eq, mp_newm_eq]
  · have hpp : part u = part w := by omega
    refine (cut_tree_row_spec T (h.fresh f02) R hsp.2.ins hd (by omega) (fun e he => by have := hr.ends e he; omega) hu hw hpp).mono ?_
    rintro v H3 ⟨f3, l, fp, hrow, s3, hlow⟩
    simp (disch := (first | omega | (simp only [size_new, size_newm, size_wr, size_wrm] <;> omega) | fail)) only [go_sem, Nat.reduceBEq, Nat.reduceAdd, Nat.reduceMul, Nat.reduceLeDiff, ↓reduceIte, rd_new_lt, own_new_lt, mp_new_lt, rd_newm_lt, own_newm_lt, mp_newm_lt, rd_wr_ne, own_wr_ne, mp_wr_ne, rd_wrm_ne, own_wrm_ne, mp_wrm_ne, rd_new_eq, own_new_eq, mp_newm_eq]
    refine ⟨f02.trans f3, .inr ⟨ee.2 hpp, l, v, fp, rfl, hrow, s3, fun b hb => Nat.le_trans f02.size (hlow b hb)⟩⟩
  · exact ⟨f02, .inl ⟨fun hs => g3 (by have := ee.1 hs; omega), rfl⟩⟩

theorem cut_Least_1_1_spec {H : Hp} {n : Int} {a : Option Addr} {c : Nat} {es : List Ed} {p q : Nat} {e : Ed} (h : RdS H 3 (.slice a es.length c) es.length (flatE es)) (hp : H.own p = some [i64 n, .slice a es.length c]) (hq : H.own q = some (cellsE e)) {i : Int} (hi : InE es i) :
    CallH Try.prog n_cut_Least_1_1 [i64 i, ptr p, ptr q] H fun v H' => Post (v = .bool (decide (wE es i > e.w)) ∧ H' = H) := by
  refine callH_ofC mixed d_cut_Least_1_1 (nt := 14) (by kernel_rfl) (by simp) ?_
  obtain ⟨ik, e', rfl, he, hik⟩ := hi.get
  obtain ⟨_, be, oe, le, rfl, hrde, hle, hcells, hc0, hc1, hc2⟩ := RdS.edgeAt h he
  simp (disch := (first | omega | (simp only [size_new, size_newm, size_wr, size_wrm] <;> omega) | fail)) only [go_sem, Nat.reduceBEq, Nat.reduceAdd, Nat.reduceMul, Nat.reduceLeDiff, ↓reduceIte, rd_new_lt, own_new_lt, mp_new_lt, rd_newm_lt, own_newm_lt, mp_newm_lt, rd_wr_ne, own_wr_ne, mp_wr_ne, rd_wrm_ne, own_wrm_ne, mp_wrm_ne, rd_new_eq, own_new_eq, mp_newm_eq, s_cut_Least_1_1, rd_of_own hp]
  refine ⟨⟨by omega, by omega⟩, ?_⟩
  simp (disch := (first | omega | (simp only [size_new, size_newm, size_wr, size_wrm] <;> omega) | fail)) only [go_sem, Nat.reduceBEq, Nat.reduceAdd, Nat.reduceMul, Nat.reduceLeDiff, ↓reduceIte, rd_new_lt, own_new_lt, mp_new_lt, rd_newm_lt, own_newm_lt, mp_newm_lt, rd_wr_ne, own_wr_ne, mp_wr_ne, rd_wrm_ne, own_wrm_ne, mp_wrm_ne, rd_new_eq, own_new_eq, mp_newm_eq, hrde, Int.toNat_natCast, hc2, rd_of_own hq, cellsE]
  rw [wE_at he]
  exact ⟨rfl, rfl⟩

/-- Does an edge bear no less than all of the way that it closes? -/
def lightE (es : List Ed) (ks : List Int) (e : Ed) : Bool := decide (Hang ((sel (wE es) ks e.w).map (fE es)) e.f.toNat e.t.toNat)

set_option maxHeartbeats 2000000 in
theorem cut_Least_1_spec {H : Hp} {B t bu bd bp p r : Nat} {n : Int} {a : Option Addr} {c : Nat} {es : List Ed} {ks : List Int} {up : Nat → Int} {deep part : Nat → Nat} (T : TreeAt H B t bu bd bp n.toNat n (.slice a es.length c) up (fun v => ((deep v : Nat) : Int)) (fun v => ((part v : Nat) : Int))) (h : RdS H 3 (.slice a es.length c) es.length (flatE es))
    (R : Rooted n.toNat (fE es) ks up deep part) (hs : SpR n es ks) (hl : ks.length ≤ 1000000) (hd : ∀ v, v < n.toNat → deep v ≤ n.toNat) (hp : H.own p = some [ptr t]) (hg : H.own r = some [i64 n, .slice a es.length c]) (e : Ed) (he : e ∈ es) :
    CallH Try.prog n_cut_Least_1 [.agg (cellsE e).toArray, ptr p, ptr r] H fun v H' => Post (v = .bool (!lightE es ks e) ∧ Fresh H H') := by
  refine callH_ofC mixed d_cut_Least_1 (nt := 13) (by kernel_rfl) (by simp) ?_
  have hr := (rightG_iff n es).1 hs.1
  have hn1 := hr.n1
  obtain ⟨e0, e1, e2, e3⟩ := hr.ends e he
  have f0 : Fresh H (H.new 35 [i64 e.f, i64 e.t, i64 e.w]) := (Ext.refl _ _).new _ _
  have b0 := own_new H 35 [i64 e.f, i64 e.t, i64 e.w]
  have p0 := f0.own hp (fun h => h)
  have g0 := f0.own hg (fun h => h)
  simp (disch := (first | omega | (simp only [size_new, size_newm, size_wr, size_wrm] <;> omega) | fail)) only [go_sem, Nat.reduceBEq, Nat.reduceAdd, Nat.reduceMul, Nat.reduceLeDiff, ↓reduceIte, rd_new_lt, own_new_lt, mp_new_lt, rd_newm_lt, own_newm_lt, mp_newm_lt, rd_wr_ne, own_wr_ne, mp_wr_ne, rd_wrm_ne, own_wrm_ne, mp_wrm_ne, rd_new_eq, own_new_eq, mp_newm_eq, s_cut_Least_1, cellsE, rd_of_own b0, rd_of_own p0]
  generalize H.new 35 [i64 e.f, i64 e.t, i64 e.w] = H0 at *
  obtain ⟨u, hu⟩ : ∃ u : Nat, e.f = u := ⟨e.f.toNat, by omega⟩
  obtain ⟨w, hw⟩ : ∃ u : Nat, e.t = u := ⟨e.t.toNat, by omega⟩
  have hh : Hang (ks.map (fE es)) u w := by
    obtain ⟨k, hk⟩ := List.getElem?_of_mem he
    have := hs.2.all _ _ (hang_mem (List.mem_map.2 ⟨(k : Int), all_in.2 ⟨by omega, by have := (List.getElem?_eq_some_iff.1 hk).1; omega⟩, rfl⟩))
    rw [fE_at hk] at this
    have h2 : Hang (ks.map (fE es)) e.f.toNat e.t.toNat := this
    rwa [hu, hw, Int.toNat_natCast, Int.toNat_natCast] at h2
  have hpp := (R.part_iff (u := u) (v := w) (by omega) (by omega)).2 hh
  rw [hu, hw]
  refine (cut_tree_row_spec (T.fresh f0) (h.fresh f0) R hs.2.ins hd (by omega) (fun e he => by have := hr.ends e he; omega) (by omega) (by omega) hpp).mono ?_
  rintro v H1 ⟨f1, l, fp, hrow, s1, hlow⟩
  obtain ⟨ra, rc, rfl, _⟩ := slv_val s1
  have b1 : H1.own H.size = some (cellsE e) := f1.own b0 (fun h => h)
  have g1 := f1.own g0 (fun h => h)
  have h1 := h.fresh (f0.trans f1)
  have hlln : l.length ≤ 1000000 := by
    have h1 : l.length ≤ ks.length := (List.Nodup.length_le_of_subset hrow.nd hrow.sub)
    omega
  simp (disch := (first | omega | (simp only [size_new, size_newm, size_wr, size_wrm] <;> omega) | fail)) only [go_sem, Nat.reduceBEq, Nat.reduceAdd, Nat.reduceMul, Nat.reduceLeDiff, ↓reduceIte, rd_new_lt, own_new_lt, mp_new_lt, rd_newm_lt, own_newm_lt, mp_newm_lt, rd_wr_ne, own_wr_ne, mp_wr_ne, rd_wrm_ne, own_wrm_ne, mp_wrm_ne, rd_new_eq, own_new_eq, mp_newm_eq]
  refine (ContainsFuncI_spec (H := H1) n_cut_Least_1_1 [ptr r, ptr H.size] (fun i => decide (wE es i > e.w)) (fun H' => H' = H1) rfl (fun H' hI => by rw [hI]; exact s1.rd) (by kernel_rfl) (fun H' i hi hI => ?_) (by omega)).mono ?_
  · subst hI
    exact cut_Least_1_1_spec h1 g1 b1 (hs.2.ins i (hrow.sub i hi))
  · rintro _ H2 ⟨rfl, rfl⟩
    simp (disch := (first | omega | (simp only [size_new, size_newm, size_wr, size_wrm] <;> omega) | fail)) only [go_sem, Nat.reduceBEq, Nat.reduceAdd, Nat.reduceMul, Nat.reduceLeDiff, ↓reduceIte, rd_new_lt, own_new_lt, mp_new_lt, rd_newm_lt, own_newm_lt, mp_newm_lt, rd_wr_ne, own_wr_ne, mp_wr_ne, rd_wrm_ne, own_wrm_ne, mp_wrm_ne, rd_new_eq, own_new_eq, mp_newm_eq]
    refine ⟨congrArg Value.bool ?_, f0.trans f1⟩
    have key := way_loc (w := wE es) hs.2.acyc (hs.2.bound hr) hrow.way hrow.sub hrow.nd e.w
    unfold lightE
    rw [hu, hw, Int.toNat_natCast, Int.toNat_natCast]
    by_cases hk : Hang ((sel (wE es) ks e.w).map (fE es)) u w
    · rw [decide_eq_true hk]
      have := key.2 hk
      rw [Bool.not_true, List.any_eq_false]
      intro i hi
      have := this i hi
      simp; omega
    · rw [decide_eq_false hk, Bool.not_false, List.any_eq_true]
      apply Classical.byContradiction
      intro hno
      refine hk (key.1 fun i hi => ?_)
      apply Classical.byContradiction
      intro hwi
      exact hno ⟨i, hi, decide_eq_true (by omega)⟩

/-- All edges bear no less than all of their ways. -/
theorem light_iff {es : List Ed} {ks : List Int} : es.any (fun e => !lightE es ks e) = false ↔ LocG es ks := by
  rw [List.any_eq_false]
  constructor
  · intro h i hi
    obtain ⟨k, e, rfl, he, _⟩ := (all_in.1 hi).get
    have := h e (List.mem_of_getElem? he)
    unfold lightE at this
    rw [fE_at he, wE_at he]
    simpa using this
  · intro h e he
    obtain ⟨k, hk⟩ := List.getElem?_of_mem he
    have := h (k : Int) (all_in.2 ⟨by omega, by have := (List.getElem?_eq_some_iff.1 hk).1; omega⟩)
    rw [fE_at hk, wE_at hk] at this
    unfold lightE
    simpa using this

set_option maxHeartbeats 2000000 in
theorem cut_Least_spec {H : Hp} {n : Int} {a a' : Option Addr} {c c' : Nat} {es : List Ed} {ks : List Int} (h : RdS H 3 (.slice a es.length c) es.length (flatE es)) (h' : RdS H 1 (.slice a' ks.length c') ks.length (ks.map i64))
    (hm : es.length ≤ 1000000000) (hl : ks.length ≤ 1000000) :
    CallH Try.prog n_cut_Least [grV n (.slice a es.length c), .slice a' ks.length c'] H fun v H' => Post (Fresh H H' ∧ ∃ b, v = .bool b ∧ (b = true ↔ SpR n es ks ∧ LocG es ks)) := by
  refine c_cut_Least ⟨rfl, ?_⟩
  have f0 : Fresh H (H.new 24 [i64 n, .slice a es.length c]) := (Ext.refl _ _).new _ _
  have b0 := own_new H 24 [i64 n, .slice a es.length c]
  simp (disch := (first | omega | (simp only [size_new, size_newm, size_wr, size_wrm] <;> omega) | fail)) only [go_sem, Nat.reduceBEq, Nat.reduceAdd, Nat.reduceMul, Nat.reduceLeDiff, ↓reduceIte, rd_new_lt, own_new_lt, mp_new_lt, rd_newm_lt, own_newm_lt, mp_newm_lt, rd_wr_ne, own_wr_ne, mp_wr_ne, rd_wrm_ne, own_wrm_ne, mp_wrm_ne, rd_new_eq, own_new_eq, mp_newm_eq, s_cut_Least, grV]
  generalize H.new 24 [i64 n, .slice a es.length c] = H0 at *
  refine (cut_Spans_spec (h.fresh f0) (h'.fresh f0) hm hl).mono ?_
  rintro _ H1 ⟨f1, b, rfl, hb⟩
  have b1 := f1.own b0 (fun h => h)
  have f01 := f0.trans f1
  simp (disch := (first | omega | (simp only [size_new, size_newm, size_wr, size_wrm] <;> omega) | fail)) only [go_sem, Nat.reduceBEq, Nat.reduceAdd, Nat.reduceMul, Nat.reduceLeDiff, ↓reduceIte, rd_new_lt, own_new_lt, mp_new_lt, rd_newm_lt, own_newm_lt, mp_newm_lt, rd_wr_ne, own_wr_ne, mp_wr_ne, rd_wrm_ne, own_wrm_ne, mp_wrm_ne, rd_new_eq, own_new_eq, mp_newm_eq]
  cases b
  · simp (disch := (first | omega | (simp only [size_new, size_newm, size_wr, size_wrm] <;> omega) | fail)) only [go_sem, Nat.reduceBEq, Nat.reduceAdd, Nat.reduceMul, Nat.reduceLeDiff, ↓reduceIte, rd_new_lt, own_new_lt, mp_new_lt, rd_newm_lt, own_newm_lt, mp_newm_lt, rd_wr_ne, own_wr_ne, mp_wr_ne, rd_wrm_ne, own_wrm_ne, mp_wrm_ne, rd_new_eq, own_new_eq, mp_newm_eq, Bool.not_false]
    exact ⟨f01, false, rfl, iff_of_false (by simp) fun hs => absurd (hb.2 hs.1) (by simp)⟩
  have hsp := hb.1 rfl
  have hr := (rightG_iff n es).1 hsp.1
  simp (disch := (first | omega | (simp only [size_new, size_newm, size_wr, size_wrm] <;> omega) | fail)) only [go_sem, Nat.reduceBEq, Nat.reduceAdd, Nat.reduceMul, Nat.reduceLeDiff, ↓reduceIte, rd_new_lt, own_new_lt, mp_new_lt, rd_newm_lt, own_newm_lt, mp_newm_lt, rd_wr_ne, own_wr_ne, mp_wr_ne, rd_wrm_ne, own_wrm_ne, mp_wrm_ne, rd_new_eq, own_new_eq, mp_newm_eq, Bool.not_true, rd_of_own b1]
  refine (cut_rooted_spec (h.fresh f01) (h'.fresh f01) hr hsp.2.ins hl).mono ?_
  rintro _ H2 ⟨f2, t, bu, bd, bp, up, deep, part, rfl, T, R, hd⟩
  have f02 := f01.trans f2
  have b2 := f2.own b1 (fun h => h)
  have q2 := own_new H2 71 [.pointer none]
  have q3 := own_wr_same (l := [ptr t]) q2
  have fw : Fresh H2 ((H2.new 71 [.pointer none]).wr H2.size [ptr t]) := ((Ext.refl _ _).new _ _ : Fresh H2 _).then ((Ext.refl (fun z => z = H2.size) _).wr (fun _ => rfl) _) (fun z hz => by omega)
  have b3 := fw.own b2 (fun h => h)
  simp (disch := (first | omega | (simp only [size_new, size_newm, size_wr, size_wrm] <;> omega) | fail)) only [go_sem, Nat.reduceBEq, Nat.reduceAdd, Nat.reduceMul, Nat.reduceLeDiff, ↓reduceIte, rd_new_lt, own_new_lt, mp_new_lt, rd_newm_lt, own_newm_lt, mp_newm_lt, rd_wr_ne, own_wr_ne, mp_wr_ne, rd_wrm_ne, own_wrm_ne, mp_wrm_ne, rd_new_eq, own_new_eq, mp_newm_eq, q2, rd_of_own b3]
  have T3 := T.fresh fw
  have h3 := h.fresh (f02.trans fw)
  generalize (H2.new 71 [.pointer none]).wr H2.size [ptr t] = H3 at *
  refine (ContainsFuncE_spec (H := H3) n_cut_Least_1 [ptr H2.size, ptr H.size] (fun e => !lightE es ks e) (fun H' => Fresh H3 H') (Ext.refl _ _)
    (fun H' hI => h3.fresh hI) (by kernel_rfl) (fun H' e he hI => ?_) hm).mono ?_
  · refine (cut_Least_1_spec (T3.fresh hI) (h3.fresh hI) R hsp hl hd (hI.own q3 (fun h => h)) (hI.own b3 (fun h => h)) e he).mono ?_
    rintro _ H'' ⟨rfl, hx⟩
    exact ⟨rfl, hI.trans hx⟩
  · rintro _ H4 ⟨rfl, f4⟩
    simp (disch := (first | omega | (simp only [size_new, size_newm, size_wr, size_wrm] <;> omega) | fail)) only [go_sem, Nat.reduceBEq, Nat.reduceAdd, Nat.reduceMul, Nat.reduceLeDiff, ↓reduceIte, rd_new_lt, own_new_lt, mp_new_lt, rd_newm_lt, own_newm_lt, mp_newm_lt, rd_wr_ne, own_wr_ne, mp_wr_ne, rd_wrm_ne, own_wrm_ne, mp_wrm_ne, rd_new_eq, own_new_eq, mp_newm_eq]
    refine ⟨f02.trans (fw.trans f4), _, rfl, ?_⟩
    rw [Bool.not_eq_true', light_iff]
    exact ⟨fun hh => ⟨hsp, hh⟩, fun hh => hh.2⟩

end Go.Proofs.Ytbnaicgmnadkgaa
