/-
  The law RecordBytes answers true.
-/
import Derived.Test.YtapoboiofpmheaaDoorAlive18
import Derived.Test.YtapoboiofpmheaaDoorRecB3
set_option linter.unusedVariables false
set_option linter.unusedSimpArgs false
namespace Go.Proofs.YtapoboiofpmheaaDoor
open Go Go.Vc

theorem rows_recs {rows : List (List Value)} (h : ∀ r ∈ rows, fitL fitK [.i .i64, .i .u32, .i .u32, .i .i64] r) : ∃ rs : List R, rows.flatten = flatR rs ∧ rs.length = rows.length ∧ ∀ r ∈ rs, r.Ok := by
  induction rows with
  | nil => exact ⟨[], rfl, rfl, fun r h => by cases h⟩
  | cons x rows ih =>
    obtain ⟨rs, h1, h2, h3⟩ := ih fun r hr => h r (List.mem_cons_of_mem _ hr)
    obtain ⟨_, _, rfl, ⟨op, rfl, ho⟩, _, _, rfl, ⟨a, rfl, ha⟩, _, _, rfl, ⟨b, rfl, hb⟩, _, _, rfl, ⟨k, rfl, hk⟩, rfl⟩ := h x (List.mem_cons_self ..)
    have e1 : IntKind.i64.min = -9223372036854775808 := rfl
    have e2 : IntKind.i64.max = 9223372036854775807 := rfl
    have e3 : IntKind.u32.min = 0 := rfl
    have e4 : IntKind.u32.max = 4294967295 := rfl
    simp only [Lit.wf, Bool.and_eq_true, decide_eq_true_eq, e1, e2, e3, e4] at ho ha hb hk
    refine ⟨⟨op, a.toNat, b.toNat, k⟩ :: rs, ?_, by simp [h2], fun r hr => ?_⟩
    · rw [List.flatten_cons, h1, flatR_cons]
      unfold cellsR
      rw [show ((a.toNat : Nat) : Int) = a by omega, show ((b.toNat : Nat) : Int) = b by omega]
    · rcases List.mem_cons.1 hr with rfl | hr
      · exact ⟨⟨by show a.toNat < _; omega, by show b.toNat < _; omega, hk.1, hk.2⟩, ho.1, ho.2⟩
      · exact h3 r hr

theorem rows_u8s {rows : List (List Value)} (h : ∀ r ∈ rows, fitL fitK [.i .u8] r) : ∃ ns : List Nat, rows.flatten = u8s ns ∧ ns.length = rows.length ∧ ∀ c ∈ ns, c < 256 := by
  induction rows with
  | nil => exact ⟨[], rfl, rfl, fun r h => by cases h⟩
  | cons x rows ih =>
    obtain ⟨ns, h1, h2, h3⟩ := ih fun r hr => h r (List.mem_cons_of_mem _ hr)
    obtain ⟨_, _, rfl, ⟨n, rfl, hn⟩, rfl⟩ := h x (List.mem_cons_self ..)
    have e1 : IntKind.u8.min = 0 := rfl
    have e2 : IntKind.u8.max = 255 := rfl
    simp only [Lit.wf, Bool.and_eq_true, decide_eq_true_eq, e1, e2] at hn
    refine ⟨n.toNat :: ns, ?_, by simp [h2], fun c hc => ?_⟩
    · rw [List.flatten_cons, h1]
      unfold u8s
      rw [List.map_cons, show ((n.toNat : Nat) : Int) = n by omega]
      rfl
    · rcases List.mem_cons.1 hc with rfl | hc
      · omega
      · exact h3 c hc

theorem bytesOf_u8s (ns : List Nat) : bytesOf (u8s ns) = some (ns.map UInt8.ofNat) := by
  induction ns with
  | nil => rfl
  | cons n ns ih =>
    show bytesOf (Value.int .u8 (n : Int) :: u8s ns) = _
    rw [bytesOf_cons, ih, Int.toNat_natCast]
    rfl

theorem sl4_val {H : Hp} {v : Value} {n : Nat} {xs : List Value} {fp : Option Nat} (h : Sl H 4 v n xs fp) : ∃ a c, v = .slice a n c ∧ n ≤ c := by
  obtain ⟨_, h⟩ := h
  cases fp with
  | none => obtain ⟨rfl, rfl⟩ := h; exact ⟨_, _, rfl, Nat.le_refl _⟩
  | some b => obtain ⟨l, c, rfl, _, hc, _⟩ := h; exact ⟨_, _, rfl, hc⟩

set_option maxHeartbeats 4000000 in
theorem law18_RecordBytes_args {Hh : Hp} (he : ErrH Hh) {v0 v1 : Value} (h0 : fitA Hh (false, [.sl [.i .i64, .i .u32, .i .u32, .i .i64]]) v0) (h1 : fitA Hh (false, [.sl [.i .u8]]) v1) : CallH Tryd.prog n_law18_RecordBytes [v0, v1] Hh fun v H' => Post (v = .bool true ∧ Fresh Hh H') := by
  obtain ⟨rows, hr, hrows, hrl, a, c, rfl, hac⟩ := fitA_slc h0
  obtain ⟨rows', hb, hrows', hrl', a', c', rfl, hac'⟩ := fitA_slc h1
  obtain ⟨rs, e1, e2, hok⟩ := rows_recs hrows
  obtain ⟨ns, e3, e4, hns⟩ := rows_u8s hrows'
  rw [e1, ← e2] at hr
  rw [e3, ← e4] at hb
  rw [← e2] at hac ⊢
  rw [← e4] at hac' ⊢
  clear e1 e2 e3 e4 hrows hrows' h0 h1 hrl hrl'
  refine c_law18_RecordBytes ⟨rfl, ?_⟩
  simp (disch := (first | omega | (simp only [size_new, size_newm, size_wr, size_wrm] <;> omega) | fail)) only [go_sem, Nat.reduceBEq, Nat.reduceAdd, Nat.reduceMul, Nat.reduceLeDiff, ↓reduceIte, rd_new_lt, own_new_lt, mp_new_lt, rd_newm_lt, own_newm_lt, mp_newm_lt, rd_wr_ne, own_wr_ne, mp_wr_ne, rd_wrm_ne, own_wrm_ne, mp_wrm_ne, rd_new_eq, own_new_eq, mp_newm_eq, s_law18_RecordBytes]
  refine (law18_recordAlive_spec he).mono ?_
  rintro _ H1 ⟨rfl, f1⟩
  simp (disch := (first | omega | (simp only [size_new, size_newm, size_wr, size_wrm] <;> omega) | fail)) only [go_sem, Nat.reduceBEq, Nat.reduceAdd, Nat.reduceMul, Nat.reduceLeDiff, ↓reduceIte, rd_new_lt, own_new_lt, mp_new_lt, rd_newm_lt, own_newm_lt, mp_newm_lt, rd_wr_ne, own_wr_ne, mp_wr_ne, rd_wrm_ne, own_wrm_ne, mp_wrm_ne, rd_new_eq, own_new_eq, mp_newm_eq]
  refine Both.dec (fun h3 => ?_) (fun h3 => ?_) <;> simp (disch := (first | omega | (simp only [size_new, size_newm, size_wr, size_wrm] <;> omega) | fail)) only [go_sem, Nat.reduceBEq, Nat.reduceAdd, Nat.reduceMul, Nat.reduceLeDiff, ↓reduceIte, rd_new_lt, own_new_lt, mp_new_lt, rd_newm_lt, own_newm_lt, mp_newm_lt, rd_wr_ne, own_wr_ne, mp_wr_ne, rd_wrm_ne, own_wrm_ne, mp_wrm_ne, rd_new_eq, own_new_eq, mp_newm_eq]
  · exact ⟨rfl, f1⟩
  refine Both.dec (fun h4 => ?_) (fun h4 => ?_) <;> simp (disch := (first | omega | (simp only [size_new, size_newm, size_wr, size_wrm] <;> omega) | fail)) only [go_sem, Nat.reduceBEq, Nat.reduceAdd, Nat.reduceMul, Nat.reduceLeDiff, ↓reduceIte, rd_new_lt, own_new_lt, mp_new_lt, rd_newm_lt, own_newm_lt, mp_newm_lt, rd_wr_ne, own_wr_ne, mp_wr_ne, rd_wrm_ne, own_wrm_ne, mp_wrm_ne, rd_new_eq, own_new_eq, mp_newm_eq]
  · exact ⟨rfl, f1⟩
  have h3' : rs.length ≤ 60 := by omega
  have h4' : ns.length ≤ 1000 := by omega
  refine InvV.intro (fun H' => Fresh H1 H') (Ext.refl _ _) ?_
  simp (disch := (first | omega | (simp only [size_new, size_newm, size_wr, size_wrm] <;> omega) | fail)) only [go_sem, Nat.reduceBEq, Nat.reduceAdd, Nat.reduceMul, Nat.reduceLeDiff, ↓reduceIte, rd_new_lt, own_new_lt, mp_new_lt, rd_newm_lt, own_newm_lt, mp_newm_lt, rd_wr_ne, own_wr_ne, mp_wr_ne, rd_wrm_ne, own_wrm_ne, mp_wrm_ne, rd_new_eq, own_new_eq, mp_newm_eq]
  refine (record_Encode_spec (hr.fresh f1) hok (by omega)).mono ?_
  rintro v H2 ⟨f2, fp, s2⟩
  obtain ⟨av, cv, rfl, hcv⟩ := sl_val s2
  refine And.intro f2 ?_
  simp (disch := (first | omega | (simp only [size_new, size_newm, size_wr, size_wrm] <;> omega) | fail)) only [go_sem, Nat.reduceBEq, Nat.reduceAdd, Nat.reduceMul, Nat.reduceLeDiff, ↓reduceIte, rd_new_lt, own_new_lt, mp_new_lt, rd_newm_lt, own_newm_lt, mp_newm_lt, rd_wr_ne, own_wr_ne, mp_wr_ne, rd_wrm_ne, own_wrm_ne, mp_wrm_ne, rd_new_eq, own_new_eq, mp_newm_eq]
  refine Two.intro ?_ ?_
  · simp (disch := (first | omega | (simp only [size_new, size_newm, size_wr, size_wrm] <;> omega) | fail)) only [go_sem, Nat.reduceBEq, Nat.reduceAdd, Nat.reduceMul, Nat.reduceLeDiff, ↓reduceIte, rd_new_lt, own_new_lt, mp_new_lt, rd_newm_lt, own_newm_lt, mp_newm_lt, rd_wr_ne, own_wr_ne, mp_wr_ne, rd_wrm_ne, own_wrm_ne, mp_wrm_ne, rd_new_eq, own_new_eq, mp_newm_eq]
    refine RdS.rowOf s2.rd ?_
    simp (disch := (first | omega | (simp only [size_new, size_newm, size_wr, size_wrm] <;> omega) | fail)) only [go_sem, Nat.reduceBEq, Nat.reduceAdd, Nat.reduceMul, Nat.reduceLeDiff, ↓reduceIte, rd_new_lt, own_new_lt, mp_new_lt, rd_newm_lt, own_newm_lt, mp_newm_lt, rd_wr_ne, own_wr_ne, mp_wr_ne, rd_wrm_ne, own_wrm_ne, mp_wrm_ne, rd_new_eq, own_new_eq, mp_newm_eq, bytesOf_u8s]
    refine And.intro f2 ?_
    simp (disch := (first | omega | (simp only [size_new, size_newm, size_wr, size_wrm] <;> omega) | fail)) only [go_sem, Nat.reduceBEq, Nat.reduceAdd, Nat.reduceMul, Nat.reduceLeDiff, ↓reduceIte, rd_new_lt, own_new_lt, mp_new_lt, rd_newm_lt, own_newm_lt, mp_newm_lt, rd_wr_ne, own_wr_ne, mp_wr_ne, rd_wrm_ne, own_wrm_ne, mp_wrm_ne, rd_new_eq, own_new_eq, mp_newm_eq]
    refine (ref18_Encode_spec (hr.fresh (f1.trans f2)) hok (by omega)).mono ?_
    rintro v' H3 ⟨f3, fp', s3⟩
    obtain ⟨av', cv', rfl, hcv'⟩ := sl_val s3
    refine And.intro (f2.trans f3) ?_
    simp (disch := (first | omega | (simp only [size_new, size_newm, size_wr, size_wrm] <;> omega) | fail)) only [go_sem, Nat.reduceBEq, Nat.reduceAdd, Nat.reduceMul, Nat.reduceLeDiff, ↓reduceIte, rd_new_lt, own_new_lt, mp_new_lt, rd_newm_lt, own_newm_lt, mp_newm_lt, rd_wr_ne, own_wr_ne, mp_wr_ne, rd_wrm_ne, own_wrm_ne, mp_wrm_ne, rd_new_eq, own_new_eq, mp_newm_eq]
    refine RdS.rowOf s3.rd ?_
    simp (disch := (first | omega | (simp only [size_new, size_newm, size_wr, size_wrm] <;> omega) | fail)) only [go_sem, Nat.reduceBEq, Nat.reduceAdd, Nat.reduceMul, Nat.reduceLeDiff, ↓reduceIte, rd_new_lt, own_new_lt, mp_new_lt, rd_newm_lt, own_newm_lt, mp_newm_lt, rd_wr_ne, own_wr_ne, mp_wr_ne, rd_wrm_ne, own_wrm_ne, mp_wrm_ne, rd_new_eq, own_new_eq, mp_newm_eq, bytesOf_u8s]
    refine And.intro (f2.trans f3) ?_
    simp (disch := (first | omega | (simp only [size_new, size_newm, size_wr, size_wrm] <;> omega) | fail)) only [go_sem, Nat.reduceBEq, Nat.reduceAdd, Nat.reduceMul, Nat.reduceLeDiff, ↓reduceIte, rd_new_lt, own_new_lt, mp_new_lt, rd_newm_lt, own_newm_lt, mp_newm_lt, rd_wr_ne, own_wr_ne, mp_wr_ne, rd_wrm_ne, own_wrm_ne, mp_wrm_ne, rd_new_eq, own_new_eq, mp_newm_eq, eq_bytes, decide_true]
    have f0' := f1.trans (f2.trans f3)
    refine (record_Decode_spec (hb.fresh f0') hac' hns (by omega)).mono ?_
    rintro vd H4 ⟨f4, fpd, sd⟩
    obtain ⟨ad, cd, rfl, hcd⟩ := sl4_val sd
    refine And.intro ((f2.trans f3).trans f4) ?_
    simp (disch := (first | omega | (simp only [size_new, size_newm, size_wr, size_wrm] <;> omega) | fail)) only [go_sem, Nat.reduceBEq, Nat.reduceAdd, Nat.reduceMul, Nat.reduceLeDiff, ↓reduceIte, rd_new_lt, own_new_lt, mp_new_lt, rd_newm_lt, own_newm_lt, mp_newm_lt, rd_wr_ne, own_wr_ne, mp_wr_ne, rd_wrm_ne, own_wrm_ne, mp_wrm_ne, rd_new_eq, own_new_eq, mp_newm_eq]
    refine (ref18_Decode_spec (hb.fresh (f0'.trans f4)) hac' hns (by omega)).mono ?_
    rintro ve H5 ⟨f5, fpe, se⟩
    obtain ⟨ae, ce, rfl, hce⟩ := sl4_val se
    refine And.intro (((f2.trans f3).trans f4).trans f5) ?_
    simp (disch := (first | omega | (simp only [size_new, size_newm, size_wr, size_wrm] <;> omega) | fail)) only [go_sem, Nat.reduceBEq, Nat.reduceAdd, Nat.reduceMul, Nat.reduceLeDiff, ↓reduceIte, rd_new_lt, own_new_lt, mp_new_lt, rd_newm_lt, own_newm_lt, mp_newm_lt, rd_wr_ne, own_wr_ne, mp_wr_ne, rd_wrm_ne, own_wrm_ne, mp_wrm_ne, rd_new_eq, own_new_eq, mp_newm_eq]
    have hdl := decR_len _ ns (Nat.le_refl _)
    refine (ref18_Same_spec (sd.rd.fresh f5) se.rd (by omega)).mono ?_
    rintro _ _ ⟨rfl, rfl⟩
    refine And.intro (((f2.trans f3).trans f4).trans f5) ?_
    simp (disch := (first | omega | (simp only [size_new, size_newm, size_wr, size_wrm] <;> omega) | fail)) only [go_sem, Nat.reduceBEq, Nat.reduceAdd, Nat.reduceMul, Nat.reduceLeDiff, ↓reduceIte, rd_new_lt, own_new_lt, mp_new_lt, rd_newm_lt, own_newm_lt, mp_newm_lt, rd_wr_ne, own_wr_ne, mp_wr_ne, rd_wrm_ne, own_wrm_ne, mp_wrm_ne, rd_new_eq, own_new_eq, mp_newm_eq, decide_true]
    exact ⟨rfl, (f0'.trans f4).trans f5⟩
  · simp (disch := (first | omega | (simp only [size_new, size_newm, size_wr, size_wrm] <;> omega) | fail)) only [go_sem, Nat.reduceBEq, Nat.reduceAdd, Nat.reduceMul, Nat.reduceLeDiff, ↓reduceIte, rd_new_lt, own_new_lt, mp_new_lt, rd_newm_lt, own_newm_lt, mp_newm_lt, rd_wr_ne, own_wr_ne, mp_wr_ne, rd_wrm_ne, own_wrm_ne, mp_wrm_ne, rd_new_eq, own_new_eq, mp_newm_eq]
    refine (ref18_Encode_spec (hr.fresh (f1.trans f2)) hok (by omega)).mono ?_
    rintro v' H3 ⟨f3, fp', s3⟩
    obtain ⟨av', cv', rfl, hcv'⟩ := sl_val s3
    have s23 := s2.rd.fresh f3
    refine And.intro (f2.trans f3) ?_
    simp (disch := (first | omega | (simp only [size_new, size_newm, size_wr, size_wrm] <;> omega) | fail)) only [go_sem, Nat.reduceBEq, Nat.reduceAdd, Nat.reduceMul, Nat.reduceLeDiff, ↓reduceIte, rd_new_lt, own_new_lt, mp_new_lt, rd_newm_lt, own_newm_lt, mp_newm_lt, rd_wr_ne, own_wr_ne, mp_wr_ne, rd_wrm_ne, own_wrm_ne, mp_wrm_ne, rd_new_eq, own_new_eq, mp_newm_eq]
    refine Two.intro ?_ ?_
    · simp (disch := (first | omega | (simp only [size_new, size_newm, size_wr, size_wrm] <;> omega) | fail)) only [go_sem, Nat.reduceBEq, Nat.reduceAdd, Nat.reduceMul, Nat.reduceLeDiff, ↓reduceIte, rd_new_lt, own_new_lt, mp_new_lt, rd_newm_lt, own_newm_lt, mp_newm_lt, rd_wr_ne, own_wr_ne, mp_wr_ne, rd_wrm_ne, own_wrm_ne, mp_wrm_ne, rd_new_eq, own_new_eq, mp_newm_eq]
      refine RdS.rowOf s23 ?_
      simp (disch := (first | omega | (simp only [size_new, size_newm, size_wr, size_wrm] <;> omega) | fail)) only [go_sem, Nat.reduceBEq, Nat.reduceAdd, Nat.reduceMul, Nat.reduceLeDiff, ↓reduceIte, rd_new_lt, own_new_lt, mp_new_lt, rd_newm_lt, own_newm_lt, mp_newm_lt, rd_wr_ne, own_wr_ne, mp_wr_ne, rd_wrm_ne, own_wrm_ne, mp_wrm_ne, rd_new_eq, own_new_eq, mp_newm_eq, bytesOf_u8s]
      refine And.intro (f2.trans f3) ?_
      simp (disch := (first | omega | (simp only [size_new, size_newm, size_wr, size_wrm] <;> omega) | fail)) only [go_sem, Nat.reduceBEq, Nat.reduceAdd, Nat.reduceMul, Nat.reduceLeDiff, ↓reduceIte, rd_new_lt, own_new_lt, mp_new_lt, rd_newm_lt, own_newm_lt, mp_newm_lt, rd_wr_ne, own_wr_ne, mp_wr_ne, rd_wrm_ne, own_wrm_ne, mp_wrm_ne, rd_new_eq, own_new_eq, mp_newm_eq]
      refine RdS.rowOf s3.rd ?_
      simp (disch := (first | omega | (simp only [size_new, size_newm, size_wr, size_wrm] <;> omega) | fail)) only [go_sem, Nat.reduceBEq, Nat.reduceAdd, Nat.reduceMul, Nat.reduceLeDiff, ↓reduceIte, rd_new_lt, own_new_lt, mp_new_lt, rd_newm_lt, own_newm_lt, mp_newm_lt, rd_wr_ne, own_wr_ne, mp_wr_ne, rd_wrm_ne, own_wrm_ne, mp_wrm_ne, rd_new_eq, own_new_eq, mp_newm_eq, bytesOf_u8s]
      refine And.intro (f2.trans f3) ?_
      simp (disch := (first | omega | (simp only [size_new, size_newm, size_wr, size_wrm] <;> omega) | fail)) only [go_sem, Nat.reduceBEq, Nat.reduceAdd, Nat.reduceMul, Nat.reduceLeDiff, ↓reduceIte, rd_new_lt, own_new_lt, mp_new_lt, rd_newm_lt, own_newm_lt, mp_newm_lt, rd_wr_ne, own_wr_ne, mp_wr_ne, rd_wrm_ne, own_wrm_ne, mp_wrm_ne, rd_new_eq, own_new_eq, mp_newm_eq, eq_bytes, decide_true]
      have f0' := f1.trans (f2.trans f3)
      refine (record_Decode_spec (hb.fresh f0') hac' hns (by omega)).mono ?_
      rintro vd H4 ⟨f4, fpd, sd⟩
      obtain ⟨ad, cd, rfl, hcd⟩ := sl4_val sd
      refine And.intro ((f2.trans f3).trans f4) ?_
      simp (disch := (first | omega | (simp only [size_new, size_newm, size_wr, size_wrm] <;> omega) | fail)) only [go_sem, Nat.reduceBEq, Nat.reduceAdd, Nat.reduceMul, Nat.reduceLeDiff, ↓reduceIte, rd_new_lt, own_new_lt, mp_new_lt, rd_newm_lt, own_newm_lt, mp_newm_lt, rd_wr_ne, own_wr_ne, mp_wr_ne, rd_wrm_ne, own_wrm_ne, mp_wrm_ne, rd_new_eq, own_new_eq, mp_newm_eq]
      refine (ref18_Decode_spec (hb.fresh (f0'.trans f4)) hac' hns (by omega)).mono ?_
      rintro ve H5 ⟨f5, fpe, se⟩
      obtain ⟨ae, ce, rfl, hce⟩ := sl4_val se
      refine And.intro (((f2.trans f3).trans f4).trans f5) ?_
      simp (disch := (first | omega | (simp only [size_new, size_newm, size_wr, size_wrm] <;> omega) | fail)) only [go_sem, Nat.reduceBEq, Nat.reduceAdd, Nat.reduceMul, Nat.reduceLeDiff, ↓reduceIte, rd_new_lt, own_new_lt, mp_new_lt, rd_newm_lt, own_newm_lt, mp_newm_lt, rd_wr_ne, own_wr_ne, mp_wr_ne, rd_wrm_ne, own_wrm_ne, mp_wrm_ne, rd_new_eq, own_new_eq, mp_newm_eq]
      have hdl := decR_len _ ns (Nat.le_refl _)
      refine (ref18_Same_spec (sd.rd.fresh f5) se.rd (by omega)).mono ?_
      rintro _ _ ⟨rfl, rfl⟩
      refine And.intro (((f2.trans f3).trans f4).trans f5) ?_
      simp (disch := (first | omega | (simp only [size_new, size_newm, size_wr, size_wrm] <;> omega) | fail)) only [go_sem, Nat.reduceBEq, Nat.reduceAdd, Nat.reduceMul, Nat.reduceLeDiff, ↓reduceIte, rd_new_lt, own_new_lt, mp_new_lt, rd_newm_lt, own_newm_lt, mp_newm_lt, rd_wr_ne, own_wr_ne, mp_wr_ne, rd_wrm_ne, own_wrm_ne, mp_wrm_ne, rd_new_eq, own_new_eq, mp_newm_eq, decide_true]
      exact ⟨rfl, (f0'.trans f4).trans f5⟩
    · simp (disch := (first | omega | (simp only [size_new, size_newm, size_wr, size_wrm] <;> omega) | fail)) only [go_sem, Nat.reduceBEq, Nat.reduceAdd, Nat.reduceMul, Nat.reduceLeDiff, ↓reduceIte, rd_new_lt, own_new_lt, mp_new_lt, rd_newm_lt, own_newm_lt, mp_newm_lt, rd_wr_ne, own_wr_ne, mp_wr_ne, rd_wrm_ne, own_wrm_ne, mp_wrm_ne, rd_new_eq, own_new_eq, mp_newm_eq]
      refine RdS.rowOf s3.rd ?_
      simp (disch := (first | omega | (simp only [size_new, size_newm, size_wr, size_wrm] <;> omega) | fail)) only [go_sem, Nat.reduceBEq, Nat.reduceAdd, Nat.reduceMul, Nat.reduceLeDiff, ↓reduceIte, rd_new_lt, own_new_lt, mp_new_lt, rd_newm_lt, own_newm_lt, mp_newm_lt, rd_wr_ne, own_wr_ne, mp_wr_ne, rd_wrm_ne, own_wrm_ne, mp_wrm_ne, rd_new_eq, own_new_eq, mp_newm_eq, bytesOf_u8s]
      refine And.intro (f2.trans f3) ?_
      simp (disch := (first | omega | (simp only [size_new, size_newm, size_wr, size_wrm] <;> omega) | fail)) only [go_sem, Nat.reduceBEq, Nat.reduceAdd, Nat.reduceMul, Nat.reduceLeDiff, ↓reduceIte, rd_new_lt, own_new_lt, mp_new_lt, rd_newm_lt, own_newm_lt, mp_newm_lt, rd_wr_ne, own_wr_ne, mp_wr_ne, rd_wrm_ne, own_wrm_ne, mp_wrm_ne, rd_new_eq, own_new_eq, mp_newm_eq]
      refine RdS.rowOf s23 ?_
      simp (disch := (first | omega | (simp only [size_new, size_newm, size_wr, size_wrm] <;> omega) | fail)) only [go_sem, Nat.reduceBEq, Nat.reduceAdd, Nat.reduceMul, Nat.reduceLeDiff, ↓reduceIte, rd_new_lt, own_new_lt, mp_new_lt, rd_newm_lt, own_newm_lt, mp_newm_lt, rd_wr_ne, own_wr_ne, mp_wr_ne, rd_wrm_ne, own_wrm_ne, mp_wrm_ne, rd_new_eq, own_new_eq, mp_newm_eq, bytesOf_u8s]
      refine And.intro (f2.trans f3) ?_
      simp (disch := (first | omega | (simp only [size_new, size_newm, size_wr, size_wrm] <;> omega) | fail)) only [go_sem, Nat.reduceBEq, Nat.reduceAdd, Nat.reduceMul, Nat.reduceLeDiff, ↓reduceIte, rd_new_lt, own_new_lt, mp_new_lt, rd_newm_lt, own_newm_lt, mp_newm_lt, rd_wr_ne, own_wr_ne, mp_wr_ne, rd_wrm_ne, own_wrm_ne, mp_wrm_ne, rd_new_eq, own_new_eq, mp_newm_eq, eq_bytes, decide_true]
      have f0' := f1.trans (f2.trans f3)
      refine (record_Decode_spec (hb.fresh f0') hac' hns (by omega)).mono ?_
      rintro vd H4 ⟨f4, fpd, sd⟩
      obtain ⟨ad, cd, rfl, hcd⟩ := sl4_val sd
      refine And.intro ((f2.trans f3).trans f4) ?_
      simp (disch := (first | omega | (simp only [size_new, size_newm, size_wr, size_wrm] <;> omega) | fail)) only [go_sem, Nat.reduceBEq, Nat.reduceAdd, Nat.reduceMul, Nat.reduceLeDiff, ↓reduceIte, rd_new_lt, own_new_lt, mp_new_lt, rd_newm_lt, own_newm_lt, mp_newm_lt, rd_wr_ne, own_wr_ne, mp_wr_ne, rd_wrm_ne, own_wrm_ne, mp_wrm_ne, rd_new_eq, own_new_eq, mp_newm_eq]
      refine (ref18_Decode_spec (hb.fresh (f0'.trans f4)) hac' hns (by omega)).mono ?_
      rintro ve H5 ⟨f5, fpe, se⟩
      obtain ⟨ae, ce, rfl, hce⟩ := sl4_val se
      refine And.intro (((f2.trans f3).trans f4).trans f5) ?_
      simp (disch := (first | omega | (simp only [size_new, size_newm, size_wr, size_wrm] <;> omega) | fail)) only [go_sem, Nat.reduceBEq, Nat.reduceAdd, Nat.reduceMul, Nat.reduceLeDiff, ↓reduceIte, rd_new_lt, own_new_lt, mp_new_lt, rd_newm_lt, own_newm_lt, mp_newm_lt, rd_wr_ne, own_wr_ne, mp_wr_ne, rd_wrm_ne, own_wrm_ne, mp_wrm_ne, rd_new_eq, own_new_eq, mp_newm_eq]
      have hdl := decR_len _ ns (Nat.le_refl _)
      refine (ref18_Same_spec (sd.rd.fresh f5) se.rd (by omega)).mono ?_
      rintro _ _ ⟨rfl, rfl⟩
      refine And.intro (((f2.trans f3).trans f4).trans f5) ?_
      simp (disch := (first | omega | (simp only [size_new, size_newm, size_wr, size_wrm] <;> omega) | fail)) only [go_sem, Nat.reduceBEq, Nat.reduceAdd, Nat.reduceMul, Nat.reduceLeDiff, ↓reduceIte, rd_new_lt, own_new_lt, mp_new_lt, rd_newm_lt, own_newm_lt, mp_newm_lt, rd_wr_ne, own_wr_ne, mp_wr_ne, rd_wrm_ne, own_wrm_ne, mp_wrm_ne, rd_new_eq, own_new_eq, mp_newm_eq, decide_true]
      exact ⟨rfl, (f0'.trans f4).trans f5⟩

end Go.Proofs.YtapoboiofpmheaaDoor
