/-
  The law RecordBack answers true.
-/
import Derived.Test.YtapoboiofpmheaaDoorRecordBytes
set_option linter.unusedVariables false
set_option linter.unusedSimpArgs false
namespace Go.Proofs.YtapoboiofpmheaaDoor
open Go Go.Vc

theorem R.clean_told {r : R} (h : r.Ok) : ∃ (op a b : Nat) (k : Int), r.clean = ⟨op, a, b, k⟩ ∧ RightR op a b k ∧ R.clean ⟨op, a, b, k⟩ = ⟨op, a, b, k⟩ := by
  have h1 := R.clean_right h
  have h2 := R.clean_range r
  have h3 := R.clean_clean r
  have e : r.clean = ⟨(r.clean.op.toNat : Nat), r.clean.a, r.clean.b, r.clean.k⟩ := by
    cases hc : r.clean with
    | mk op a b k =>
      rw [hc] at h2
      simp only [R.mk.injEq, and_true]
      simp only at h2
      omega
  refine ⟨r.clean.op.toNat, r.clean.a, r.clean.b, r.clean.k, e, h1, ?_⟩
  rw [← e]
  exact h3

set_option maxHeartbeats 4000000 in
theorem law18_RecordBack_args {Hh : Hp} (he : ErrH Hh) {v0 v1 : Value} (h0 : fitA Hh (false, [.sl [.i .i64, .i .u32, .i .u32, .i .i64]]) v0) (h1 : fitA Hh (false, [.sl [.i .u8]]) v1) : CallH Tryd.prog n_law18_RecordBack [v0, v1] Hh fun v H' => Post (v = .bool true ∧ Fresh Hh H') := by
  obtain ⟨rows, hr, hrows, hrl, a, c, rfl, hac⟩ := fitA_slc h0
  obtain ⟨rows', hb, hrows', hrl', a', c', rfl, hac'⟩ := fitA_slc h1
  obtain ⟨rs, e1, e2, hok⟩ := rows_recs hrows
  obtain ⟨ns, e3, e4, hns⟩ := rows_u8s hrows'
  rw [e1, ← e2] at hr
  rw [e3, ← e4] at hb
  rw [← e2] at hac ⊢
  rw [← e4] at hac' ⊢
  clear e1 e2 e3 e4 hrows hrows' h0 h1 hrl hrl'
  refine c_law18_RecordBack ⟨rfl, ?_⟩
  simp (disch := (first | omega | (simp only [size_new, size_newm, size_wr, size_wrm] <;> omega) | fail)) only [go_sem, Nat.reduceBEq, Nat.reduceAdd, Nat.reduceMul, Nat.reduceLeDiff, ↓reduceIte, rd_new_lt, own_new_lt, mp_new_lt, rd_newm_lt, own_newm_lt, mp_newm_lt, rd_wr_ne, own_wr_ne, mp_wr_ne, rd_wrm_ne, own_wrm_ne, mp_wrm_ne, rd_new_eq, own_new_eq, mp_newm_eq, s_law18_RecordBack]
  refine (law18_recordAlive_spec he).mono ?_
  rintro _ H1 ⟨rfl, f1⟩
  simp (disch := (first | omega | (simp only [size_new, size_newm, size_wr, size_wrm] <;> omega) | fail)) only [go_sem, Nat.reduceBEq, Nat.reduceAdd, Nat.reduceMul, Nat.reduceLeDiff, ↓reduceIte, rd_new_lt, own_new_lt, mp_new_lt, rd_newm_lt, own_newm_lt, mp_newm_lt, rd_wr_ne, own_wr_ne, mp_wr_ne, rd_wrm_ne, own_wrm_ne, mp_wrm_ne, rd_new_eq, own_new_eq, mp_newm_eq]
  refine Both.dec (fun h3 => ?_) (fun h3 => ?_) <;> simp (disch := (first | omega | (simp only [size_new, size_newm, size_wr, size_wrm] <;> omega) | fail)) only [go_sem, Nat.reduceBEq, Nat.reduceAdd, Nat.reduceMul, Nat.reduceLeDiff, ↓reduceIte, rd_new_lt, own_new_lt, mp_new_lt, rd_newm_lt, own_newm_lt, mp_newm_lt, rd_wr_ne, own_wr_ne, mp_wr_ne, rd_wrm_ne, own_wrm_ne, mp_wrm_ne, rd_new_eq, own_new_eq, mp_newm_eq]
  · exact ⟨rfl, f1⟩
  refine Both.dec (fun h4 => ?_) (fun h4 => ?_) <;> simp (disch := (first | omega | (simp only [size_new, size_newm, size_wr, size_wrm] <;> omega) | fail)) only [go_sem, Nat.reduceBEq, Nat.reduceAdd, Nat.reduceMul, Nat.reduceLeDiff, ↓reduceIte, rd_new_lt, own_new_lt, mp_new_lt, rd_newm_lt, own_newm_lt, mp_newm_lt, rd_wr_ne, own_wr_ne, mp_wr_ne, rd_wrm_ne, own_wrm_ne, mp_wrm_ne, rd_new_eq, own_new_eq, mp_newm_eq]
  · exact ⟨rfl, f1⟩
  have h3' : rs.length ≤ 60 := by omega
  have h4' : ns.length ≤ 1000 := by omega
  have f2 : Fresh H1 (H1.new 40 []) := (Ext.refl _ _).new _ _
  have s2 : Sl (H1.new 40 []) 4 (.slice (some ⟨H1.size, 0, none⟩) 0 0) 0 (flatR []) (some H1.size) := Sl.lit_at (size := 4) (n := 0) (xs := []) rfl rfl
  generalize H1.new 40 [] = H2 at *
  refine LoopV.intro (fun m env H' => Fresh Hh H' ∧ ∃ (i : Nat) (v : Value) (b : Nat), m = rs.length - i ∧ i ≤ rs.length ∧ env = [(0, .slice a rs.length c), (1, .slice a' ns.length c'), (5, v), (25, .slice a rs.length c), (26, i64 rs.length), (27, i64 i)] ∧ Sl H' 4 v i (flatR ((rs.take i).map R.clean)) (some b) ∧ Hh.size ≤ b) rs.length
    ⟨f1.trans f2, 0, _, H1.size, by omega, by omega, rfl, s2, f1.size⟩ ?_
  rintro m env H3 ⟨f3, i, v, bv, hm, hi, rfl, s3, hbv⟩
  simp (disch := (first | omega | (simp only [size_new, size_newm, size_wr, size_wrm] <;> omega) | fail)) only [go_sem, Nat.reduceBEq, Nat.reduceAdd, Nat.reduceMul, Nat.reduceLeDiff, ↓reduceIte, rd_new_lt, own_new_lt, mp_new_lt, rd_newm_lt, own_newm_lt, mp_newm_lt, rd_wr_ne, own_wr_ne, mp_wr_ne, rd_wrm_ne, own_wrm_ne, mp_wrm_ne, rd_new_eq, own_new_eq, mp_newm_eq]
  refine Both.dec (fun h5 => ?_) (fun h5 => ?_) <;> simp (disch := (first | omega | (simp only [size_new, size_newm, size_wr, size_wrm] <;> omega) | fail)) only [go_sem, Nat.reduceBEq, Nat.reduceAdd, Nat.reduceMul, Nat.reduceLeDiff, ↓reduceIte, rd_new_lt, own_new_lt, mp_new_lt, rd_newm_lt, own_newm_lt, mp_newm_lt, rd_wr_ne, own_wr_ne, mp_wr_ne, rd_wrm_ne, own_wrm_ne, mp_wrm_ne, rd_new_eq, own_new_eq, mp_newm_eq]
  · obtain ⟨r, hrx⟩ : ∃ x, rs[i]? = some x := ⟨_, List.getElem?_eq_getElem (by omega)⟩
    have hrok := hok r (List.mem_of_getElem? hrx)
    obtain ⟨op, ra, rb, rk, hcl, hrr, hcc⟩ := R.clean_told hrok
    obtain ⟨_, b, o, lb, rfl, hrd, hle, htk⟩ := RdS.recd (hr.fresh f3) hrx
    refine ⟨⟨by omega, by omega⟩, ?_⟩
    simp (disch := (first | omega | (simp only [size_new, size_newm, size_wr, size_wrm] <;> omega) | fail)) only [go_sem, Nat.reduceBEq, Nat.reduceAdd, Nat.reduceMul, Nat.reduceLeDiff, ↓reduceIte, rd_new_lt, own_new_lt, mp_new_lt, rd_newm_lt, own_newm_lt, mp_newm_lt, rd_wr_ne, own_wr_ne, mp_wr_ne, rd_wrm_ne, own_wrm_ne, mp_wrm_ne, rd_new_eq, own_new_eq, mp_newm_eq, Int.toNat_natCast, hrd, htk]
    refine ⟨by omega, ?_⟩
    have q7 := own_wr_same (l := cellsR r) (own_new H3 40 [i64 0, u32 0, u32 0, i64 0])
    have f4 : Fresh H3 ((H3.new 40 [i64 0, u32 0, u32 0, i64 0]).wr H3.size (cellsR r)) := ((Ext.refl _ _).new _ _).wr (fun h => absurd h (Nat.lt_irrefl _)) _
    unfold cellsR at q7 f4
    simp (disch := (first | omega | (simp only [size_new, size_newm, size_wr, size_wrm] <;> omega) | fail)) only [go_sem, Nat.reduceBEq, Nat.reduceAdd, Nat.reduceMul, Nat.reduceLeDiff, ↓reduceIte, rd_new_lt, own_new_lt, mp_new_lt, rd_newm_lt, own_newm_lt, mp_newm_lt, rd_wr_ne, own_wr_ne, mp_wr_ne, rd_wrm_ne, own_wrm_ne, mp_wrm_ne, rd_new_eq, own_new_eq, mp_newm_eq, htk, cellsR]
    generalize hp7 : H3.size = p7 at *
    generalize (H3.new 40 [i64 0, u32 0, u32 0, i64 0]).wr p7 [i64 r.op, u32 r.a, u32 r.b, i64 r.k] = H4 at *
    simp (disch := (first | omega | (simp only [size_new, size_newm, size_wr, size_wrm] <;> omega) | fail)) only [go_sem, Nat.reduceBEq, Nat.reduceAdd, Nat.reduceMul, Nat.reduceLeDiff, ↓reduceIte, rd_new_lt, own_new_lt, mp_new_lt, rd_newm_lt, own_newm_lt, mp_newm_lt, rd_wr_ne, own_wr_ne, mp_wr_ne, rd_wrm_ne, own_wrm_ne, mp_wrm_ne, rd_new_eq, own_new_eq, mp_newm_eq, rd_of_own q7]
    refine (record_Clean_spec H4 r.op r.a r.b r.k).mono ?_
    rintro _ H5 ⟨rfl, f5⟩
    rw [cleanV_R, hcl]
    have q75 := f5.own q7 (fun h => h)
    have q8 := own_wr_same (l := cellsR ⟨op, ra, rb, rk⟩) (own_new H5 40 [i64 0, u32 0, u32 0, i64 0])
    have f6 : Fresh H5 ((H5.new 40 [i64 0, u32 0, u32 0, i64 0]).wr H5.size (cellsR ⟨op, ra, rb, rk⟩)) := ((Ext.refl _ _).new _ _).wr (fun h => absurd h (Nat.lt_irrefl _)) _
    unfold cellsR at q8 f6
    simp (disch := (first | omega | (simp only [size_new, size_newm, size_wr, size_wrm] <;> omega) | fail)) only [go_sem, Nat.reduceBEq, Nat.reduceAdd, Nat.reduceMul, Nat.reduceLeDiff, ↓reduceIte, rd_new_lt, own_new_lt, mp_new_lt, rd_newm_lt, own_newm_lt, mp_newm_lt, rd_wr_ne, own_wr_ne, mp_wr_ne, rd_wrm_ne, own_wrm_ne, mp_wrm_ne, rd_new_eq, own_new_eq, mp_newm_eq, cellsR]
    generalize hp8 : H5.size = p8 at *
    generalize (H5.new 40 [i64 0, u32 0, u32 0, i64 0]).wr p8 [i64 (op : Nat), u32 ra, u32 rb, i64 rk] = H6 at *
    have q76 := f6.own q75 (fun h => h)
    have eh6 : ErrH H6 := he.fresh (f3.trans (f4.trans (f5.trans f6)))
    simp (disch := (first | omega | (simp only [size_new, size_newm, size_wr, size_wrm] <;> omega) | fail)) only [go_sem, Nat.reduceBEq, Nat.reduceAdd, Nat.reduceMul, Nat.reduceLeDiff, ↓reduceIte, rd_new_lt, own_new_lt, mp_new_lt, rd_newm_lt, own_newm_lt, mp_newm_lt, rd_wr_ne, own_wr_ne, mp_wr_ne, rd_wrm_ne, own_wrm_ne, mp_wrm_ne, rd_new_eq, own_new_eq, mp_newm_eq, rd_of_own q8]
    refine (record_Text_spec eh6 (op := (op : Nat)) (a := ra) (b := rb) (k := rk) ⟨hrr.la, hrr.lb, hrr.k0, hrr.k1⟩).mono ?_
    rintro _ H7 ⟨rfl, f7⟩
    rw [right_rightB hrr, if_pos rfl, Int.toNat_natCast]
    simp (disch := (first | omega | (simp only [size_new, size_newm, size_wr, size_wrm] <;> omega) | fail)) only [go_sem, Nat.reduceBEq, Nat.reduceAdd, Nat.reduceMul, Nat.reduceLeDiff, ↓reduceIte, rd_new_lt, own_new_lt, mp_new_lt, rd_newm_lt, own_newm_lt, mp_newm_lt, rd_wr_ne, own_wr_ne, mp_wr_ne, rd_wrm_ne, own_wrm_ne, mp_wrm_ne, rd_new_eq, own_new_eq, mp_newm_eq]
    have htl : (textR op ra rb rk).length ≤ 1000000 := by
      have hlen : (wordsR op ra rb rk).length ≤ 4 := by unfold wordsR; rw [List.length_cons, List.length_append]; (split <;> (try split) <;> (try split)) <;> cases keyOf op <;> simp
      have := join_le 32 (wordsR op ra rb rk) 50 (words_len hrr.le ⟨hrr.la, hrr.lb, hrr.k0, hrr.k1⟩)
      have h8 : (wordsR op ra rb rk).length * 51 ≤ 4 * 51 := Nat.mul_le_mul_right _ hlen
      unfold textR
      omega
    refine (record_Parse_spec (eh6.fresh f7) _ htl).mono ?_
    rintro vP H8 ⟨hP, f8⟩
    obtain rfl := RecD.of hrr hP
    have q78 := (f7.trans f8).own q76 (fun h => h)
    have q88 := (f7.trans f8).own q8 (fun h => h)
    have q9 := own_wr_same (l := [i64 (op : Nat), u32 ra, u32 rb, i64 rk]) (own_new H8 40 [i64 0, u32 0, u32 0, i64 0])
    have f9 : Fresh H8 ((H8.new 40 [i64 0, u32 0, u32 0, i64 0]).wr H8.size [i64 (op : Nat), u32 ra, u32 rb, i64 rk]) := ((Ext.refl _ _).new _ _).wr (fun h => absurd h (Nat.lt_irrefl _)) _
    simp (disch := (first | omega | (simp only [size_new, size_newm, size_wr, size_wrm] <;> omega) | fail)) only [go_sem, Nat.reduceBEq, Nat.reduceAdd, Nat.reduceMul, Nat.reduceLeDiff, ↓reduceIte, rd_new_lt, own_new_lt, mp_new_lt, rd_newm_lt, own_newm_lt, mp_newm_lt, rd_wr_ne, own_wr_ne, mp_wr_ne, rd_wrm_ne, own_wrm_ne, mp_wrm_ne, rd_new_eq, own_new_eq, mp_newm_eq]
    have q79 := f9.own q78 (fun h => h)
    have q89 := f9.own q88 (fun h => h)
    generalize hp9 : H8.size = p9 at *
    generalize (H8.new 40 [i64 0, u32 0, u32 0, i64 0]).wr p9 [i64 (op : Nat), u32 ra, u32 rb, i64 rk] = H9 at *
    refine InvV.intro (fun H' => Hp.own H' p7 = some [i64 r.op, u32 r.a, u32 r.b, i64 r.k] ∧ Hp.own H' p8 = some [i64 (op : Nat), u32 ra, u32 rb, i64 rk] ∧ Hp.own H' p9 = some [i64 (op : Nat), u32 ra, u32 rb, i64 rk]) ⟨q79, q89, q9⟩ ?_
    have eh9 : ErrH H9 := (eh6.fresh (f7.trans f8)).fresh f9
    obtain ⟨lc, hlc, _, hqc⟩ := clean_eq r.op r.a r.b r.k
    rw [cleanV_R, hcl] at hlc
    injection hlc with hlc
    have hlc' : lc = cellsR ⟨op, ra, rb, rk⟩ := by
      have := congrArg Array.toList hlc
      simpa using this.symm
    unfold cellsR at hlc'
    subst hlc'
    simp (disch := (first | omega | (simp only [size_new, size_newm, size_wr, size_wrm] <;> omega) | fail)) only [go_sem, Nat.reduceBEq, Nat.reduceAdd, Nat.reduceMul, Nat.reduceLeDiff, ↓reduceIte, rd_new_lt, own_new_lt, mp_new_lt, rd_newm_lt, own_newm_lt, mp_newm_lt, rd_wr_ne, own_wr_ne, mp_wr_ne, rd_wrm_ne, own_wrm_ne, mp_wrm_ne, rd_new_eq, own_new_eq, mp_newm_eq]
    have keep : ∀ {A B : Hp}, Fresh A B → (Hp.own A p7 = some [i64 r.op, u32 r.a, u32 r.b, i64 r.k] ∧ Hp.own A p8 = some [i64 (op : Nat), u32 ra, u32 rb, i64 rk] ∧ Hp.own A p9 = some [i64 (op : Nat), u32 ra, u32 rb, i64 rk]) → (Hp.own B p7 = some [i64 r.op, u32 r.a, u32 r.b, i64 r.k] ∧ Hp.own B p8 = some [i64 (op : Nat), u32 ra, u32 rb, i64 rk] ∧ Hp.own B p9 = some [i64 (op : Nat), u32 ra, u32 rb, i64 rk]) := fun f h => ⟨f.own h.1 (fun h => h), f.own h.2.1 (fun h => h), f.own h.2.2 (fun h => h)⟩
    have I9 := (⟨q79, q89, q9⟩ : Hp.own H9 p7 = some [i64 r.op, u32 r.a, u32 r.b, i64 r.k] ∧ Hp.own H9 p8 = some [i64 (op : Nat), u32 ra, u32 rb, i64 rk] ∧ Hp.own H9 p9 = some [i64 (op : Nat), u32 ra, u32 rb, i64 rk])
    refine StbV.intro (recV (op : Nat) ra rb rk) (fun H' hI => ?_) ?_
    · simp (disch := (first | omega | (simp only [size_new, size_newm, size_wr, size_wrm] <;> omega) | fail)) only [go_sem, Nat.reduceBEq, Nat.reduceAdd, Nat.reduceMul, Nat.reduceLeDiff, ↓reduceIte, rd_new_lt, own_new_lt, mp_new_lt, rd_newm_lt, own_newm_lt, mp_newm_lt, rd_wr_ne, own_wr_ne, mp_wr_ne, rd_wrm_ne, own_wrm_ne, mp_wrm_ne, rd_new_eq, own_new_eq, mp_newm_eq, rd_of_own hI.1, rd_of_own hI.2.1, rd_of_own hI.2.2]
      exact ⟨trivial, trivial⟩
    simp (disch := (first | omega | (simp only [size_new, size_newm, size_wr, size_wrm] <;> omega) | fail)) only [go_sem, Nat.reduceBEq, Nat.reduceAdd, Nat.reduceMul, Nat.reduceLeDiff, ↓reduceIte, rd_new_lt, own_new_lt, mp_new_lt, rd_newm_lt, own_newm_lt, mp_newm_lt, rd_wr_ne, own_wr_ne, mp_wr_ne, rd_wrm_ne, own_wrm_ne, mp_wrm_ne, rd_new_eq, own_new_eq, mp_newm_eq]
    refine (record_Right_spec H9 (op : Nat) ra rb rk).mono ?_
    rintro _ H10 ⟨rfl, f10⟩
    refine And.intro (keep f10 I9) ?_
    rw [right_rightB hrr]
    simp (disch := (first | omega | (simp only [size_new, size_newm, size_wr, size_wrm] <;> omega) | fail)) only [go_sem, Nat.reduceBEq, Nat.reduceAdd, Nat.reduceMul, Nat.reduceLeDiff, ↓reduceIte, rd_new_lt, own_new_lt, mp_new_lt, rd_newm_lt, own_newm_lt, mp_newm_lt, rd_wr_ne, own_wr_ne, mp_wr_ne, rd_wrm_ne, own_wrm_ne, mp_wrm_ne, rd_new_eq, own_new_eq, mp_newm_eq, Bool.not_true]
    refine StbV.intro (recV (op : Nat) ra rb rk) (fun H' hI => ?_) ?_
    · simp (disch := (first | omega | (simp only [size_new, size_newm, size_wr, size_wrm] <;> omega) | fail)) only [go_sem, Nat.reduceBEq, Nat.reduceAdd, Nat.reduceMul, Nat.reduceLeDiff, ↓reduceIte, rd_new_lt, own_new_lt, mp_new_lt, rd_newm_lt, own_newm_lt, mp_newm_lt, rd_wr_ne, own_wr_ne, mp_wr_ne, rd_wrm_ne, own_wrm_ne, mp_wrm_ne, rd_new_eq, own_new_eq, mp_newm_eq, rd_of_own hI.1, rd_of_own hI.2.1, rd_of_own hI.2.2]
      exact ⟨trivial, trivial⟩
    simp (disch := (first | omega | (simp only [size_new, size_newm, size_wr, size_wrm] <;> omega) | fail)) only [go_sem, Nat.reduceBEq, Nat.reduceAdd, Nat.reduceMul, Nat.reduceLeDiff, ↓reduceIte, rd_new_lt, own_new_lt, mp_new_lt, rd_newm_lt, own_newm_lt, mp_newm_lt, rd_wr_ne, own_wr_ne, mp_wr_ne, rd_wrm_ne, own_wrm_ne, mp_wrm_ne, rd_new_eq, own_new_eq, mp_newm_eq]
    refine StbV.intro (recV (op : Nat) ra rb rk) (fun H' hI => ?_) ?_
    · simp (disch := (first | omega | (simp only [size_new, size_newm, size_wr, size_wrm] <;> omega) | fail)) only [go_sem, Nat.reduceBEq, Nat.reduceAdd, Nat.reduceMul, Nat.reduceLeDiff, ↓reduceIte, rd_new_lt, own_new_lt, mp_new_lt, rd_newm_lt, own_newm_lt, mp_newm_lt, rd_wr_ne, own_wr_ne, mp_wr_ne, rd_wrm_ne, own_wrm_ne, mp_wrm_ne, rd_new_eq, own_new_eq, mp_newm_eq, rd_of_own hI.1, rd_of_own hI.2.1, rd_of_own hI.2.2]
      exact ⟨trivial, trivial⟩
    simp (disch := (first | omega | (simp only [size_new, size_newm, size_wr, size_wrm] <;> omega) | fail)) only [go_sem, Nat.reduceBEq, Nat.reduceAdd, Nat.reduceMul, Nat.reduceLeDiff, ↓reduceIte, rd_new_lt, own_new_lt, mp_new_lt, rd_newm_lt, own_newm_lt, mp_newm_lt, rd_wr_ne, own_wr_ne, mp_wr_ne, rd_wrm_ne, own_wrm_ne, mp_wrm_ne, rd_new_eq, own_new_eq, mp_newm_eq]
    refine (record_Clean_spec H10 (op : Nat) ra rb rk).mono ?_
    rintro _ H11 ⟨rfl, f11⟩
    have I11 := keep (f10.trans f11) I9
    refine And.intro I11 ?_
    have hcv := cleanV_R ⟨op, ra, rb, rk⟩
    rw [hcc] at hcv
    simp only at hcv
    rw [hcv]
    simp (disch := (first | omega | (simp only [size_new, size_newm, size_wr, size_wrm] <;> omega) | fail)) only [go_sem, Nat.reduceBEq, Nat.reduceAdd, Nat.reduceMul, Nat.reduceLeDiff, ↓reduceIte, rd_new_lt, own_new_lt, mp_new_lt, rd_newm_lt, own_newm_lt, mp_newm_lt, rd_wr_ne, own_wr_ne, mp_wr_ne, rd_wrm_ne, own_wrm_ne, mp_wrm_ne, rd_new_eq, own_new_eq, mp_newm_eq, cellsR, rec_eq, Option.map_some]
    refine Both.of_true (by simp) ?_
    simp (disch := (first | omega | (simp only [size_new, size_newm, size_wr, size_wrm] <;> omega) | fail)) only [go_sem, Nat.reduceBEq, Nat.reduceAdd, Nat.reduceMul, Nat.reduceLeDiff, ↓reduceIte, rd_new_lt, own_new_lt, mp_new_lt, rd_newm_lt, own_newm_lt, mp_newm_lt, rd_wr_ne, own_wr_ne, mp_wr_ne, rd_wrm_ne, own_wrm_ne, mp_wrm_ne, rd_new_eq, own_new_eq, mp_newm_eq, Bool.not_true]
    refine StbV.intro (recV r.op r.a r.b r.k) (fun H' hI => ?_) ?_
    · simp (disch := (first | omega | (simp only [size_new, size_newm, size_wr, size_wrm] <;> omega) | fail)) only [go_sem, Nat.reduceBEq, Nat.reduceAdd, Nat.reduceMul, Nat.reduceLeDiff, ↓reduceIte, rd_new_lt, own_new_lt, mp_new_lt, rd_newm_lt, own_newm_lt, mp_newm_lt, rd_wr_ne, own_wr_ne, mp_wr_ne, rd_wrm_ne, own_wrm_ne, mp_wrm_ne, rd_new_eq, own_new_eq, mp_newm_eq, rd_of_own hI.1, rd_of_own hI.2.1, rd_of_own hI.2.2]
      exact ⟨trivial, trivial⟩
    simp (disch := (first | omega | (simp only [size_new, size_newm, size_wr, size_wrm] <;> omega) | fail)) only [go_sem, Nat.reduceBEq, Nat.reduceAdd, Nat.reduceMul, Nat.reduceLeDiff, ↓reduceIte, rd_new_lt, own_new_lt, mp_new_lt, rd_newm_lt, own_newm_lt, mp_newm_lt, rd_wr_ne, own_wr_ne, mp_wr_ne, rd_wrm_ne, own_wrm_ne, mp_wrm_ne, rd_new_eq, own_new_eq, mp_newm_eq]
    refine StbV.intro (recV (op : Nat) ra rb rk) (fun H' hI => ?_) ?_
    · simp (disch := (first | omega | (simp only [size_new, size_newm, size_wr, size_wrm] <;> omega) | fail)) only [go_sem, Nat.reduceBEq, Nat.reduceAdd, Nat.reduceMul, Nat.reduceLeDiff, ↓reduceIte, rd_new_lt, own_new_lt, mp_new_lt, rd_newm_lt, own_newm_lt, mp_newm_lt, rd_wr_ne, own_wr_ne, mp_wr_ne, rd_wrm_ne, own_wrm_ne, mp_wrm_ne, rd_new_eq, own_new_eq, mp_newm_eq, rd_of_own hI.1, rd_of_own hI.2.1, rd_of_own hI.2.2]
      exact ⟨trivial, trivial⟩
    simp (disch := (first | omega | (simp only [size_new, size_newm, size_wr, size_wrm] <;> omega) | fail)) only [go_sem, Nat.reduceBEq, Nat.reduceAdd, Nat.reduceMul, Nat.reduceLeDiff, ↓reduceIte, rd_new_lt, own_new_lt, mp_new_lt, rd_newm_lt, own_newm_lt, mp_newm_lt, rd_wr_ne, own_wr_ne, mp_wr_ne, rd_wrm_ne, own_wrm_ne, mp_wrm_ne, rd_new_eq, own_new_eq, mp_newm_eq]
    refine StbV.intro (recV r.op r.a r.b r.k) (fun H' hI => ?_) ?_
    · simp (disch := (first | omega | (simp only [size_new, size_newm, size_wr, size_wrm] <;> omega) | fail)) only [go_sem, Nat.reduceBEq, Nat.reduceAdd, Nat.reduceMul, Nat.reduceLeDiff, ↓reduceIte, rd_new_lt, own_new_lt, mp_new_lt, rd_newm_lt, own_newm_lt, mp_newm_lt, rd_wr_ne, own_wr_ne, mp_wr_ne, rd_wrm_ne, own_wrm_ne, mp_wrm_ne, rd_new_eq, own_new_eq, mp_newm_eq, rd_of_own hI.1, rd_of_own hI.2.1, rd_of_own hI.2.2]
      exact ⟨trivial, trivial⟩
    simp (disch := (first | omega | (simp only [size_new, size_newm, size_wr, size_wrm] <;> omega) | fail)) only [go_sem, Nat.reduceBEq, Nat.reduceAdd, Nat.reduceMul, Nat.reduceLeDiff, ↓reduceIte, rd_new_lt, own_new_lt, mp_new_lt, rd_newm_lt, own_newm_lt, mp_newm_lt, rd_wr_ne, own_wr_ne, mp_wr_ne, rd_wrm_ne, own_wrm_ne, mp_wrm_ne, rd_new_eq, own_new_eq, mp_newm_eq]
    simp (disch := (first | omega | (simp only [size_new, size_newm, size_wr, size_wrm] <;> omega) | fail)) only [go_sem, Nat.reduceBEq, Nat.reduceAdd, Nat.reduceMul, Nat.reduceLeDiff, ↓reduceIte, rd_new_lt, own_new_lt, mp_new_lt, rd_newm_lt, own_newm_lt, mp_newm_lt, rd_wr_ne, own_wr_ne, mp_wr_ne, rd_wrm_ne, own_wrm_ne, mp_wrm_ne, rd_new_eq, own_new_eq, mp_newm_eq, hqc, Option.map_some]
    refine (record_Right_spec H11 r.op r.a r.b r.k).mono ?_
    rintro _ H12 ⟨rfl, f12⟩
    have I12 := keep f12 I11
    refine And.intro I12 ?_
    simp (disch := (first | omega | (simp only [size_new, size_newm, size_wr, size_wrm] <;> omega) | fail)) only [go_sem, Nat.reduceBEq, Nat.reduceAdd, Nat.reduceMul, Nat.reduceLeDiff, ↓reduceIte, rd_new_lt, own_new_lt, mp_new_lt, rd_newm_lt, own_newm_lt, mp_newm_lt, rd_wr_ne, own_wr_ne, mp_wr_ne, rd_wrm_ne, own_wrm_ne, mp_wrm_ne, rd_new_eq, own_new_eq, mp_newm_eq]
    refine Both.of_true (by simp) ?_
    simp (disch := (first | omega | (simp only [size_new, size_newm, size_wr, size_wrm] <;> omega) | fail)) only [go_sem, Nat.reduceBEq, Nat.reduceAdd, Nat.reduceMul, Nat.reduceLeDiff, ↓reduceIte, rd_new_lt, own_new_lt, mp_new_lt, rd_newm_lt, own_newm_lt, mp_newm_lt, rd_wr_ne, own_wr_ne, mp_wr_ne, rd_wrm_ne, own_wrm_ne, mp_wrm_ne, rd_new_eq, own_new_eq, mp_newm_eq, Bool.not_true]
    refine Both.of_true (by simp) ?_
    simp (disch := (first | omega | (simp only [size_new, size_newm, size_wr, size_wrm] <;> omega) | fail)) only [go_sem, Nat.reduceBEq, Nat.reduceAdd, Nat.reduceMul, Nat.reduceLeDiff, ↓reduceIte, rd_new_lt, own_new_lt, mp_new_lt, rd_newm_lt, own_newm_lt, mp_newm_lt, rd_wr_ne, own_wr_ne, mp_wr_ne, rd_wrm_ne, own_wrm_ne, mp_wrm_ne, rd_new_eq, own_new_eq, mp_newm_eq, Bool.not_true]
    refine StbV.intro (recV (op : Nat) ra rb rk) (fun H' hI => ?_) ?_
    · simp (disch := (first | omega | (simp only [size_new, size_newm, size_wr, size_wrm] <;> omega) | fail)) only [go_sem, Nat.reduceBEq, Nat.reduceAdd, Nat.reduceMul, Nat.reduceLeDiff, ↓reduceIte, rd_new_lt, own_new_lt, mp_new_lt, rd_newm_lt, own_newm_lt, mp_newm_lt, rd_wr_ne, own_wr_ne, mp_wr_ne, rd_wrm_ne, own_wrm_ne, mp_wrm_ne, rd_new_eq, own_new_eq, mp_newm_eq, rd_of_own hI.1, rd_of_own hI.2.1, rd_of_own hI.2.2]
      exact ⟨trivial, trivial⟩
    simp (disch := (first | omega | (simp only [size_new, size_newm, size_wr, size_wrm] <;> omega) | fail)) only [go_sem, Nat.reduceBEq, Nat.reduceAdd, Nat.reduceMul, Nat.reduceLeDiff, ↓reduceIte, rd_new_lt, own_new_lt, mp_new_lt, rd_newm_lt, own_newm_lt, mp_newm_lt, rd_wr_ne, own_wr_ne, mp_wr_ne, rd_wrm_ne, own_wrm_ne, mp_wrm_ne, rd_new_eq, own_new_eq, mp_newm_eq]
    refine StbV.intro (recV (op : Nat) ra rb rk) (fun H' hI => ?_) ?_
    · simp (disch := (first | omega | (simp only [size_new, size_newm, size_wr, size_wrm] <;> omega) | fail)) only [go_sem, Nat.reduceBEq, Nat.reduceAdd, Nat.reduceMul, Nat.reduceLeDiff, ↓reduceIte, rd_new_lt, own_new_lt, mp_new_lt, rd_newm_lt, own_newm_lt, mp_newm_lt, rd_wr_ne, own_wr_ne, mp_wr_ne, rd_wrm_ne, own_wrm_ne, mp_wrm_ne, rd_new_eq, own_new_eq, mp_newm_eq, rd_of_own hI.1, rd_of_own hI.2.1, rd_of_own hI.2.2]
      exact ⟨trivial, trivial⟩
    simp (disch := (first | omega | (simp only [size_new, size_newm, size_wr, size_wrm] <;> omega) | fail)) only [go_sem, Nat.reduceBEq, Nat.reduceAdd, Nat.reduceMul, Nat.reduceLeDiff, ↓reduceIte, rd_new_lt, own_new_lt, mp_new_lt, rd_newm_lt, own_newm_lt, mp_newm_lt, rd_wr_ne, own_wr_ne, mp_wr_ne, rd_wrm_ne, own_wrm_ne, mp_wrm_ne, rd_new_eq, own_new_eq, mp_newm_eq]
    simp (disch := (first | omega | (simp only [size_new, size_newm, size_wr, size_wrm] <;> omega) | fail)) only [go_sem, Nat.reduceBEq, Nat.reduceAdd, Nat.reduceMul, Nat.reduceLeDiff, ↓reduceIte, rd_new_lt, own_new_lt, mp_new_lt, rd_newm_lt, own_newm_lt, mp_newm_lt, rd_wr_ne, own_wr_ne, mp_wr_ne, rd_wrm_ne, own_wrm_ne, mp_wrm_ne, rd_new_eq, own_new_eq, mp_newm_eq, rec_eq, Option.map_some]
    refine Both.of_true (by simp) ?_
    simp (disch := (first | omega | (simp only [size_new, size_newm, size_wr, size_wrm] <;> omega) | fail)) only [go_sem, Nat.reduceBEq, Nat.reduceAdd, Nat.reduceMul, Nat.reduceLeDiff, ↓reduceIte, rd_new_lt, own_new_lt, mp_new_lt, rd_newm_lt, own_newm_lt, mp_newm_lt, rd_wr_ne, own_wr_ne, mp_wr_ne, rd_wrm_ne, own_wrm_ne, mp_wrm_ne, rd_new_eq, own_new_eq, mp_newm_eq, rd_of_own I12.2.1]
    have f13 : Fresh H12 (H12.new 40 (cellsR ⟨op, ra, rb, rk⟩)) := (Ext.refl _ _).new _ _
    have f312 : Fresh H3 H12 := f4.trans (f5.trans (f6.trans ((f7.trans f8).trans (f9.trans (f10.trans (f11.trans f12))))))
    have f313 := f312.trans f13
    refine Sl.append (s3.ext f313 (fun _ _ h => h)) (Sl.lit_at (size := 4) (n := 1) (xs := flatR [⟨op, ra, rb, rk⟩]) rfl rfl).rd rfl (ones_rec _) (by omega) ?_
    intro v' H14 fp' s14 e14 hfp'
    simp (disch := (first | omega | (simp only [size_new, size_newm, size_wr, size_wrm] <;> omega) | fail)) only [go_sem, Nat.reduceBEq, Nat.reduceAdd, Nat.reduceMul, Nat.reduceLeDiff, ↓reduceIte, rd_new_lt, own_new_lt, mp_new_lt, rd_newm_lt, own_newm_lt, mp_newm_lt, rd_wr_ne, own_wr_ne, mp_wr_ne, rd_wrm_ne, own_wrm_ne, mp_wrm_ne, rd_new_eq, own_new_eq, mp_newm_eq]
    rw [wrap64 (n := (i : Int) + 1) (by omega) (by omega)]
    have fH14 : Fresh Hh H14 := (f3.trans f313).then e14 (fun z (hz : some bv = some z) => by injection hz with hz; omega)
    obtain ⟨b', rfl, hb'⟩ : ∃ b', fp' = some b' ∧ Hh.size ≤ b' := by
      rcases hfp' with h' | ⟨b', h', g1, g2⟩
      · exact ⟨bv, h', hbv⟩
      · exact ⟨b', h', Nat.le_trans (f3.trans f313).size g1⟩
    refine ⟨rs.length - (i + 1), by omega, fH14, i + 1, v', b', rfl, by omega, rfl, ?_, hb'⟩
    have et : flatR ((rs.take (i + 1)).map R.clean) = flatR ((rs.take i).map R.clean) ++ flatR [⟨op, ra, rb, rk⟩] := by
      rw [List.take_add_one, hrx, List.map_append, flatR_app]
      show _ ++ flatR [r.clean] = _
      rw [hcl]
    rw [et]
    exact s14
  · refine (record_Encode_spec (hr.fresh f3) hok (by omega)).mono ?_
    rintro vE H4 ⟨f4, fpE, sE⟩
    obtain ⟨aE, cE, rfl, hcE⟩ := sl_val sE
    simp (disch := (first | omega | (simp only [size_new, size_newm, size_wr, size_wrm] <;> omega) | fail)) only [go_sem, Nat.reduceBEq, Nat.reduceAdd, Nat.reduceMul, Nat.reduceLeDiff, ↓reduceIte, rd_new_lt, own_new_lt, mp_new_lt, rd_newm_lt, own_newm_lt, mp_newm_lt, rd_wr_ne, own_wr_ne, mp_wr_ne, rd_wrm_ne, own_wrm_ne, mp_wrm_ne, rd_new_eq, own_new_eq, mp_newm_eq]
    refine (record_Decode_spec sE.rd hcE (fun c hc => encR_lt c hc) (by omega)).mono ?_
    rintro vD H5 ⟨f5, fpD, sD⟩
    obtain ⟨aD, cD, rfl, hcD⟩ := sl4_val sD
    have hi' : i = rs.length := by omega
    subst hi'
    rw [List.take_length] at s3
    obtain ⟨aO, cO, rfl, hcO⟩ := sl4_val s3
    simp (disch := (first | omega | (simp only [size_new, size_newm, size_wr, size_wrm] <;> omega) | fail)) only [go_sem, Nat.reduceBEq, Nat.reduceAdd, Nat.reduceMul, Nat.reduceLeDiff, ↓reduceIte, rd_new_lt, own_new_lt, mp_new_lt, rd_newm_lt, own_newm_lt, mp_newm_lt, rd_wr_ne, own_wr_ne, mp_wr_ne, rd_wrm_ne, own_wrm_ne, mp_wrm_ne, rd_new_eq, own_new_eq, mp_newm_eq]
    have hde := dec_enc rs hok
    have s35 := (s3.ext f4 (fun _ _ h => h)).ext f5 (fun _ _ h => h)
    have hdl : (decR (encR rs)).length = rs.length := by rw [hde, List.length_map]
    refine (ref18_Same_spec sD.rd s35.rd (by omega)).mono ?_
    rintro _ _ ⟨rfl, rfl⟩
    rw [hde, decide_eq_true rfl]
    simp (disch := (first | omega | (simp only [size_new, size_newm, size_wr, size_wrm] <;> omega) | fail)) only [go_sem, Nat.reduceBEq, Nat.reduceAdd, Nat.reduceMul, Nat.reduceLeDiff, ↓reduceIte, rd_new_lt, own_new_lt, mp_new_lt, rd_newm_lt, own_newm_lt, mp_newm_lt, rd_wr_ne, own_wr_ne, mp_wr_ne, rd_wrm_ne, own_wrm_ne, mp_wrm_ne, rd_new_eq, own_new_eq, mp_newm_eq, Bool.not_true]
    refine (record_Encode_spec ((hr.fresh f3).fresh (f4.trans f5)) hok (by omega)).mono ?_
    rintro vE H6 ⟨f6, fpE', sE'⟩
    obtain ⟨aE', cE', rfl, hcE'⟩ := sl_val sE'
    simp (disch := (first | omega | (simp only [size_new, size_newm, size_wr, size_wrm] <;> omega) | fail)) only [go_sem, Nat.reduceBEq, Nat.reduceAdd, Nat.reduceMul, Nat.reduceLeDiff, ↓reduceIte, rd_new_lt, own_new_lt, mp_new_lt, rd_newm_lt, own_newm_lt, mp_newm_lt, rd_wr_ne, own_wr_ne, mp_wr_ne, rd_wrm_ne, own_wrm_ne, mp_wrm_ne, rd_new_eq, own_new_eq, mp_newm_eq]
    rw [wrap64 (n := 17 * (rs.length : Int)) (by omega) (by omega)]
    refine Both.of_true (by simp) ?_
    simp (disch := (first | omega | (simp only [size_new, size_newm, size_wr, size_wrm] <;> omega) | fail)) only [go_sem, Nat.reduceBEq, Nat.reduceAdd, Nat.reduceMul, Nat.reduceLeDiff, ↓reduceIte, rd_new_lt, own_new_lt, mp_new_lt, rd_newm_lt, own_newm_lt, mp_newm_lt, rd_wr_ne, own_wr_ne, mp_wr_ne, rd_wrm_ne, own_wrm_ne, mp_wrm_ne, rd_new_eq, own_new_eq, mp_newm_eq]
    have f36 := f4.trans (f5.trans f6)
    refine (record_Decode_spec ((hb.fresh f3).fresh f36) hac' hns (by omega)).mono ?_
    rintro vD' H7 ⟨f7, fpD', sD'⟩
    obtain ⟨aB, cB, rfl, hcB⟩ := sl4_val sD'
    have hlen := decR_len _ ns (Nat.le_refl _)
    have hall := decR_ok _ ns (Nat.le_refl _) hns
    have r7 := sD'.rd
    simp (disch := (first | omega | (simp only [size_new, size_newm, size_wr, size_wrm] <;> omega) | fail)) only [go_sem, Nat.reduceBEq, Nat.reduceAdd, Nat.reduceMul, Nat.reduceLeDiff, ↓reduceIte, rd_new_lt, own_new_lt, mp_new_lt, rd_newm_lt, own_newm_lt, mp_newm_lt, rd_wr_ne, own_wr_ne, mp_wr_ne, rd_wrm_ne, own_wrm_ne, mp_wrm_ne, rd_new_eq, own_new_eq, mp_newm_eq]
    refine LoopV.intro (fun m env H' => Fresh H7 H' ∧ ∃ i : Nat, m = (decR ns).length - i ∧ i ≤ (decR ns).length ∧ env = [(1, .slice a' ns.length c'), (11, .slice aB (decR ns).length cB), (87, .slice aB (decR ns).length cB), (88, i64 (decR ns).length), (89, i64 i)]) (decR ns).length
      ⟨Ext.refl _ _, 0, by omega, by omega, rfl⟩ ?_
    rintro m env H8 ⟨f8, i, hm, hi, rfl⟩
    simp (disch := (first | omega | (simp only [size_new, size_newm, size_wr, size_wrm] <;> omega) | fail)) only [go_sem, Nat.reduceBEq, Nat.reduceAdd, Nat.reduceMul, Nat.reduceLeDiff, ↓reduceIte, rd_new_lt, own_new_lt, mp_new_lt, rd_newm_lt, own_newm_lt, mp_newm_lt, rd_wr_ne, own_wr_ne, mp_wr_ne, rd_wrm_ne, own_wrm_ne, mp_wrm_ne, rd_new_eq, own_new_eq, mp_newm_eq]
    refine Both.dec (fun h6 => ?_) (fun h6 => ?_) <;> simp (disch := (first | omega | (simp only [size_new, size_newm, size_wr, size_wrm] <;> omega) | fail)) only [go_sem, Nat.reduceBEq, Nat.reduceAdd, Nat.reduceMul, Nat.reduceLeDiff, ↓reduceIte, rd_new_lt, own_new_lt, mp_new_lt, rd_newm_lt, own_newm_lt, mp_newm_lt, rd_wr_ne, own_wr_ne, mp_wr_ne, rd_wrm_ne, own_wrm_ne, mp_wrm_ne, rd_new_eq, own_new_eq, mp_newm_eq]
    · obtain ⟨r, hrx⟩ : ∃ x, (decR ns)[i]? = some x := ⟨_, List.getElem?_eq_getElem (by omega)⟩
      obtain ⟨hrok, hrc⟩ := hall r (List.mem_of_getElem? hrx)
      obtain ⟨_, b, o, lb, rfl, hrd, hle, htk⟩ := RdS.recd (r7.fresh f8) hrx
      refine ⟨⟨by omega, by omega⟩, ?_⟩
      simp (disch := (first | omega | (simp only [size_new, size_newm, size_wr, size_wrm] <;> omega) | fail)) only [go_sem, Nat.reduceBEq, Nat.reduceAdd, Nat.reduceMul, Nat.reduceLeDiff, ↓reduceIte, rd_new_lt, own_new_lt, mp_new_lt, rd_newm_lt, own_newm_lt, mp_newm_lt, rd_wr_ne, own_wr_ne, mp_wr_ne, rd_wrm_ne, own_wrm_ne, mp_wrm_ne, rd_new_eq, own_new_eq, mp_newm_eq, Int.toNat_natCast, hrd, htk]
      refine ⟨by omega, ?_⟩
      have q7 := own_wr_same (l := cellsR r) (own_new H8 40 [i64 0, u32 0, u32 0, i64 0])
      have f9 : Fresh H8 ((H8.new 40 [i64 0, u32 0, u32 0, i64 0]).wr H8.size (cellsR r)) := ((Ext.refl _ _).new _ _).wr (fun h => absurd h (Nat.lt_irrefl _)) _
      unfold cellsR at q7 f9
      simp (disch := (first | omega | (simp only [size_new, size_newm, size_wr, size_wrm] <;> omega) | fail)) only [go_sem, Nat.reduceBEq, Nat.reduceAdd, Nat.reduceMul, Nat.reduceLeDiff, ↓reduceIte, rd_new_lt, own_new_lt, mp_new_lt, rd_newm_lt, own_newm_lt, mp_newm_lt, rd_wr_ne, own_wr_ne, mp_wr_ne, rd_wrm_ne, own_wrm_ne, mp_wrm_ne, rd_new_eq, own_new_eq, mp_newm_eq, htk, cellsR]
      generalize hp7 : H8.size = p7 at *
      generalize (H8.new 40 [i64 0, u32 0, u32 0, i64 0]).wr p7 [i64 r.op, u32 r.a, u32 r.b, i64 r.k] = H9 at *
      simp (disch := (first | omega | (simp only [size_new, size_newm, size_wr, size_wrm] <;> omega) | fail)) only [go_sem, Nat.reduceBEq, Nat.reduceAdd, Nat.reduceMul, Nat.reduceLeDiff, ↓reduceIte, rd_new_lt, own_new_lt, mp_new_lt, rd_newm_lt, own_newm_lt, mp_newm_lt, rd_wr_ne, own_wr_ne, mp_wr_ne, rd_wrm_ne, own_wrm_ne, mp_wrm_ne, rd_new_eq, own_new_eq, mp_newm_eq, rd_of_own q7]
      refine (record_Right_spec H9 r.op r.a r.b r.k).mono ?_
      rintro _ H10 ⟨rfl, f10⟩
      have hright : rightB r.op r.a r.b r.k = true := by
        obtain ⟨op, ra, rb, rk, hcl, hrr, hcc⟩ := R.clean_told hrok
        rw [hrc] at hcl
        rw [hcl]
        exact right_rightB hrr
      rw [hright]
      simp (disch := (first | omega | (simp only [size_new, size_newm, size_wr, size_wrm] <;> omega) | fail)) only [go_sem, Nat.reduceBEq, Nat.reduceAdd, Nat.reduceMul, Nat.reduceLeDiff, ↓reduceIte, rd_new_lt, own_new_lt, mp_new_lt, rd_newm_lt, own_newm_lt, mp_newm_lt, rd_wr_ne, own_wr_ne, mp_wr_ne, rd_wrm_ne, own_wrm_ne, mp_wrm_ne, rd_new_eq, own_new_eq, mp_newm_eq, Bool.not_true]
      rw [wrap64 (n := (i : Int) + 1) (by omega) (by omega)]
      exact ⟨(decR ns).length - (i + 1), by omega, f8.trans (f9.trans f10), i + 1, rfl, by omega, rfl⟩
    · rw [wrap64 (n := (ns.length : Int) + 16) (by omega) (by omega)]
      have h17 : ¬ ((17 : Int) = 0) := by decide
      have hq : ((ns.length : Int) + 16).tdiv 17 = (((ns.length + 16) / 17 : Nat) : Int) := by
        rw [Int.tdiv_eq_ediv_of_nonneg (by omega)]; omega
      simp (disch := (first | omega | (simp only [size_new, size_newm, size_wr, size_wrm] <;> omega) | fail)) only [go_sem, Nat.reduceBEq, Nat.reduceAdd, Nat.reduceMul, Nat.reduceLeDiff, ↓reduceIte, rd_new_lt, own_new_lt, mp_new_lt, rd_newm_lt, own_newm_lt, mp_newm_lt, rd_wr_ne, own_wr_ne, mp_wr_ne, rd_wrm_ne, own_wrm_ne, mp_wrm_ne, rd_new_eq, own_new_eq, mp_newm_eq, if_neg h17, hq]
      rw [wrap64 (n := (((ns.length + 16) / 17 : Nat) : Int)) (by omega) (by omega), hlen]
      exact ⟨by simp [tup], f3.trans (f36.trans (f7.trans f8))⟩

end Go.Proofs.YtapoboiofpmheaaDoor
