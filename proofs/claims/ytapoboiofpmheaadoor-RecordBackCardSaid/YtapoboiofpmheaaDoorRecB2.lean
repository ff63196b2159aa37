/-
  Records as bytes: all of a list.
-/
import Derived.Test.YtapoboiofpmheaaDoorRecB1
import Derived.Test.YtapoboiofpmheaaDoorSlc
import Derived.Test.YtapoboiofpmheaaDoorArgs
set_option linter.unusedVariables false
set_option linter.unusedSimpArgs false
namespace Go.Proofs.YtapoboiofpmheaaDoor
open Go Go.Vc

def cellsR (r : R) : List Value := [i64 r.op, u32 r.a, u32 r.b, i64 r.k]
def flatR (rs : List R) : List Value := rs.flatMap cellsR
theorem flatR_cons (r : R) (rs : List R) : flatR (r :: rs) = cellsR r ++ flatR rs := rfl
theorem flatR_app (a b : List R) : flatR (a ++ b) = flatR a ++ flatR b := List.flatMap_append ..
theorem flatR_len (rs : List R) : (flatR rs).length = rs.length * 4 := by
  induction rs with
  | nil => rfl
  | cons r rs ih => rw [flatR_cons, List.length_append, ih, List.length_cons]; show 4 + _ = _; omega
theorem ones_rec (rs : List R) : allOne (flatR rs) := fun v hv => by
  obtain ⟨r, _, h⟩ := List.mem_flatMap.1 hv
  simp only [cellsR, List.mem_cons, List.not_mem_nil, or_false] at h
  rcases h with rfl | rfl | rfl | rfl <;> rfl

theorem cleanV_R (r : R) : cleanV r.op r.a r.b r.k = .agg (cellsR r.clean).toArray := by
  unfold cleanV R.clean
  split <;> rfl

theorem flat_at : ∀ (rs : List R) (i : Nat) (r : R), rs[i]? = some r → ((flatR rs).drop (i * 4)).take 4 = cellsR r := by
  intro rs
  induction rs with
  | nil => intro i r h; simp at h
  | cons x rs ih =>
    intro i r h
    cases i with
    | zero =>
      simp only [List.getElem?_cons_zero, Option.some.injEq] at h
      subst h
      rw [flatR_cons, Nat.zero_mul, List.drop_zero]
      exact List.take_left' rfl
    | succ i =>
      rw [flatR_cons, show (i + 1) * 4 = 4 + i * 4 by omega, ← List.drop_drop, List.drop_left' (by rfl)]
      exact ih i r (by simpa using h)

theorem RdS.recd {H : Hp} {a : Option Addr} {n c : Nat} {rs : List R} (h : RdS H 4 (.slice a n c) n (flatR rs)) {i : Nat} {r : R} (hx : rs[i]? = some r) :
    i < n ∧ ∃ b o lb, a = some ⟨b, o, none⟩ ∧ H.rd b = some lb ∧ o + i * 4 + 4 ≤ lb.length ∧ (lb.drop (o + i * 4)).take 4 = cellsR r := by
  obtain ⟨hl, hv⟩ := h
  rw [flatR_len] at hl
  have hi : i < rs.length := by
    rcases Nat.lt_or_ge i rs.length with h | h
    · exact h
    · rw [List.getElem?_eq_none h] at hx; cases hx
  refine ⟨by omega, ?_⟩
  rcases hv with ⟨hn, _⟩ | ⟨b, o, c2, l, hs, hrd, hle, ht⟩
  · omega
  · injection hs with hs1 hs2 hs3
    refine ⟨b, o, l, hs1, hrd, by omega, ?_⟩
    have h7 := flat_at rs i r hx
    rw [← ht, List.drop_take, List.take_take, List.drop_drop, Nat.min_eq_left (by omega)] at h7
    exact h7

theorem lenR {H : Hp} {v : Value} {n : Nat} {rs : List R} (h : RdS H 4 v n (flatR rs)) : rs.length = n := by
  have := h.1
  rw [flatR_len] at this
  omega

set_option maxHeartbeats 1000000 in
theorem record_Encode_spec {H : Hp} {a : Option Addr} {n c : Nat} {rs : List R} (h : RdS H 4 (.slice a n c) n (flatR rs)) (hok : ∀ r ∈ rs, r.Ok) (hn : n ≤ 1000) :
    CallH Tryd.prog n_record_Encode [.slice a n c] H fun v H' => Post (Fresh H H' ∧ ∃ fp, Sl H' 1 v (17 * n) (u8s (encR rs)) fp) := by
  have hl := lenR h
  refine c_record_Encode ⟨rfl, ?_⟩
  simp (disch := (first | omega | (simp only [size_new, size_newm, size_wr, size_wrm] <;> omega) | fail)) only [go_sem, Nat.reduceBEq, Nat.reduceAdd, Nat.reduceMul, Nat.reduceLeDiff, ↓reduceIte, rd_new_lt, own_new_lt, mp_new_lt, rd_newm_lt, own_newm_lt, mp_newm_lt, rd_wr_ne, own_wr_ne, mp_wr_ne, rd_wrm_ne, own_wrm_ne, mp_wrm_ne, rd_new_eq, own_new_eq, mp_newm_eq, s_record_Encode]
  refine LoopV.intro (fun m env H' => Fresh H H' ∧ ∃ (i : Nat) (v : Value) (fp : Option Nat), m = n - i ∧ i ≤ n ∧ env = [(3, v), (6, .slice a n c), (7, i64 n), (8, i64 i)] ∧ Sl H' 1 v (17 * i) (u8s (encR (rs.take i))) fp ∧ (∀ b, fp = some b → H.size ≤ b)) n ⟨Ext.refl _ _, 0, _, none, by omega, by omega, rfl, Sl.nil H 1, fun b h => by cases h⟩ ?_
  rintro m env H1 ⟨f1, i, v, fp, hm, hi, rfl, s1, hfp⟩
  simp (disch := (first | omega | (simp only [size_new, size_newm, size_wr, size_wrm] <;> omega) | fail)) only [go_sem, Nat.reduceBEq, Nat.reduceAdd, Nat.reduceMul, Nat.reduceLeDiff, ↓reduceIte, rd_new_lt, own_new_lt, mp_new_lt, rd_newm_lt, own_newm_lt, mp_newm_lt, rd_wr_ne, own_wr_ne, mp_wr_ne, rd_wrm_ne, own_wrm_ne, mp_wrm_ne, rd_new_eq, own_new_eq, mp_newm_eq]
  refine Both.dec (fun h1 => ?_) (fun h1 => ?_) <;> simp (disch := (first | omega | (simp only [size_new, size_newm, size_wr, size_wrm] <;> omega) | fail)) only [go_sem, Nat.reduceBEq, Nat.reduceAdd, Nat.reduceMul, Nat.reduceLeDiff, ↓reduceIte, rd_new_lt, own_new_lt, mp_new_lt, rd_newm_lt, own_newm_lt, mp_newm_lt, rd_wr_ne, own_wr_ne, mp_wr_ne, rd_wrm_ne, own_wrm_ne, mp_wrm_ne, rd_new_eq, own_new_eq, mp_newm_eq]
  · obtain ⟨r, hr⟩ : ∃ x, rs[i]? = some x := ⟨_, List.getElem?_eq_getElem (by omega)⟩
    have hrok := hok r (List.mem_of_getElem? hr)
    obtain ⟨_, b, o, lb, rfl, hrd, hle, htk⟩ := RdS.recd (h.fresh f1) hr
    refine ⟨⟨by omega, by omega⟩, ?_⟩
    simp (disch := (first | omega | (simp only [size_new, size_newm, size_wr, size_wrm] <;> omega) | fail)) only [go_sem, Nat.reduceBEq, Nat.reduceAdd, Nat.reduceMul, Nat.reduceLeDiff, ↓reduceIte, rd_new_lt, own_new_lt, mp_new_lt, rd_newm_lt, own_newm_lt, mp_newm_lt, rd_wr_ne, own_wr_ne, mp_wr_ne, rd_wrm_ne, own_wrm_ne, mp_wrm_ne, rd_new_eq, own_new_eq, mp_newm_eq, Int.toNat_natCast, hrd, htk]
    refine ⟨by omega, ?_⟩
    have q5 := own_wr_same (l := cellsR r) (own_new H1 40 [i64 0, u32 0, u32 0, i64 0])
    have f2 : Fresh H1 ((H1.new 40 [i64 0, u32 0, u32 0, i64 0]).wr H1.size (cellsR r)) := ((Ext.refl _ _).new _ _).wr (fun h => absurd h (Nat.lt_irrefl _)) _
    unfold cellsR at q5 f2
    simp (disch := (first | omega | (simp only [size_new, size_newm, size_wr, size_wrm] <;> omega) | fail)) only [go_sem, Nat.reduceBEq, Nat.reduceAdd, Nat.reduceMul, Nat.reduceLeDiff, ↓reduceIte, rd_new_lt, own_new_lt, mp_new_lt, rd_newm_lt, own_newm_lt, mp_newm_lt, rd_wr_ne, own_wr_ne, mp_wr_ne, rd_wrm_ne, own_wrm_ne, mp_wrm_ne, rd_new_eq, own_new_eq, mp_newm_eq, htk, cellsR]
    generalize hp5 : H1.size = p5 at *
    generalize (H1.new 40 [i64 0, u32 0, u32 0, i64 0]).wr p5 [i64 r.op, u32 r.a, u32 r.b, i64 r.k] = H2 at *
    simp (disch := (first | omega | (simp only [size_new, size_newm, size_wr, size_wrm] <;> omega) | fail)) only [go_sem, Nat.reduceBEq, Nat.reduceAdd, Nat.reduceMul, Nat.reduceLeDiff, ↓reduceIte, rd_new_lt, own_new_lt, mp_new_lt, rd_newm_lt, own_newm_lt, mp_newm_lt, rd_wr_ne, own_wr_ne, mp_wr_ne, rd_wrm_ne, own_wrm_ne, mp_wrm_ne, rd_new_eq, own_new_eq, mp_newm_eq, rd_of_own q5]
    refine (record_Clean_spec H2 r.op r.a r.b r.k).mono ?_
    rintro _ H3 ⟨rfl, f3⟩
    rw [cleanV_R]
    have q6 := f3.own q5 (fun h => h)
    have q7 := own_wr_same (l := cellsR r.clean) q6
    have hp : H.size ≤ p5 := by have := f1.size; omega
    have f4 : Fresh H1 (H3.wr p5 (cellsR r.clean)) := (f2.trans f3).then ((Ext.refl (fun z => z = p5) _).wr (fun _ => rfl) _) (fun z hz => by omega)
    have hcr := R.clean_range r
    have hco := R.clean_ok hrok
    obtain ⟨⟨c1, c2, c3, c4⟩, _, _⟩ := hco
    unfold cellsR at q7 f4
    generalize hrc : r.clean = rc at *
    simp (disch := (first | omega | (simp only [size_new, size_newm, size_wr, size_wrm] <;> omega) | fail)) only [go_sem, Nat.reduceBEq, Nat.reduceAdd, Nat.reduceMul, Nat.reduceLeDiff, ↓reduceIte, rd_new_lt, own_new_lt, mp_new_lt, rd_newm_lt, own_newm_lt, mp_newm_lt, rd_wr_ne, own_wr_ne, mp_wr_ne, rd_wrm_ne, own_wrm_ne, mp_wrm_ne, rd_new_eq, own_new_eq, mp_newm_eq, q6, cellsR]
    generalize H3.wr p5 [i64 rc.op, u32 rc.a, u32 rc.b, i64 rc.k] = H4 at *
    obtain ⟨op, hop⟩ : ∃ op : Nat, rc.op = op := ⟨rc.op.toNat, by omega⟩
    have wo : IntKind.u8.wrap rc.op = (op : Int) := by rw [hop, wrapU8_mod]; omega
    simp (disch := (first | omega | (simp only [size_new, size_newm, size_wr, size_wrm] <;> omega) | fail)) only [go_sem, Nat.reduceBEq, Nat.reduceAdd, Nat.reduceMul, Nat.reduceLeDiff, ↓reduceIte, rd_new_lt, own_new_lt, mp_new_lt, rd_newm_lt, own_newm_lt, mp_newm_lt, rd_wr_ne, own_wr_ne, mp_wr_ne, rd_wrm_ne, own_wrm_ne, mp_wrm_ne, rd_new_eq, own_new_eq, mp_newm_eq, rd_of_own q7, wo]
    have f5 : Fresh H4 (H4.new 5 [.int .u8 (op : Int)]) := (Ext.refl _ _).new _ _
    have s4 := s1.ext f4 (fun _ _ h => h)
    refine Sl.append (s4.ext f5 (fun _ _ h => h)) (Sl.lit_at (size := 1) (n := 1) (xs := u8s [op]) rfl rfl).rd rfl (ones_u8s _) (by omega) ?_
    intro v5 H5 fp5 s5 e5 hfp5
    have hs45 : H4.size ≤ (H4.new 5 [.int .u8 (op : Int)]).size := f5.size
    have hs14 := f4.size
    have hl4 := own_lt q7
    -- the row is the call's own and no record
    have far : ∀ z, fp5 = some z → H.size ≤ z ∧ z ≠ p5 := fun z hz => by
      rcases hfp5 with h' | ⟨b', h', g1, g2⟩
      · rw [h'] at hz
        have := s1
        subst hz
        exact ⟨hfp z rfl, fun e => by have := s1.lt; omega⟩
      · rw [h'] at hz
        injection hz with hz
        exact ⟨by omega, by omega⟩
    have x5 : Fresh H H5 := (f1.trans (f4.trans f5)).then e5 (fun z hz => hfp z hz)
    have nfp : ∀ z, fp = some z → z ≠ p5 := fun z hz e => by subst hz; have := s1.lt; omega
    have q8 := e5.own (f5.own q7 (fun h => h)) (fun h => nfp p5 h rfl)
    have wa : IntKind.u64.wrap (rc.a : Int) = rc.a := wrapU64 (by omega) (by omega)
    have wb : IntKind.u64.wrap (rc.b : Int) = rc.b := wrapU64 (by omega) (by omega)
    have wk := wrapU64_toU rc.k
    simp (disch := (first | omega | (simp only [size_new, size_newm, size_wr, size_wrm] <;> omega) | fail)) only [go_sem, Nat.reduceBEq, Nat.reduceAdd, Nat.reduceMul, Nat.reduceLeDiff, ↓reduceIte, rd_new_lt, own_new_lt, mp_new_lt, rd_newm_lt, own_newm_lt, mp_newm_lt, rd_wr_ne, own_wr_ne, mp_wr_ne, rd_wrm_ne, own_wrm_ne, mp_wrm_ne, rd_new_eq, own_new_eq, mp_newm_eq]
    refine InvV.intro (fun H' => H'.own p5 = some [i64 rc.op, u32 rc.a, u32 rc.b, i64 rc.k]) q8 ?_
    simp (disch := (first | omega | (simp only [size_new, size_newm, size_wr, size_wrm] <;> omega) | fail)) only [go_sem, Nat.reduceBEq, Nat.reduceAdd, Nat.reduceMul, Nat.reduceLeDiff, ↓reduceIte, rd_new_lt, own_new_lt, mp_new_lt, rd_newm_lt, own_newm_lt, mp_newm_lt, rd_wr_ne, own_wr_ne, mp_wr_ne, rd_wrm_ne, own_wrm_ne, mp_wrm_ne, rd_new_eq, own_new_eq, mp_newm_eq]
    refine StbV.intro (u32 rc.b) (fun H' hI => ?_) ?_
    · simp (disch := (first | omega | (simp only [size_new, size_newm, size_wr, size_wrm] <;> omega) | fail)) only [go_sem, Nat.reduceBEq, Nat.reduceAdd, Nat.reduceMul, Nat.reduceLeDiff, ↓reduceIte, rd_new_lt, own_new_lt, mp_new_lt, rd_newm_lt, own_newm_lt, mp_newm_lt, rd_wr_ne, own_wr_ne, mp_wr_ne, rd_wrm_ne, own_wrm_ne, mp_wrm_ne, rd_new_eq, own_new_eq, mp_newm_eq, rd_of_own hI]
      exact ⟨trivial, trivial⟩
    simp (disch := (first | omega | (simp only [size_new, size_newm, size_wr, size_wrm] <;> omega) | fail)) only [go_sem, Nat.reduceBEq, Nat.reduceAdd, Nat.reduceMul, Nat.reduceLeDiff, ↓reduceIte, rd_new_lt, own_new_lt, mp_new_lt, rd_newm_lt, own_newm_lt, mp_newm_lt, rd_wr_ne, own_wr_ne, mp_wr_ne, rd_wrm_ne, own_wrm_ne, mp_wrm_ne, rd_new_eq, own_new_eq, mp_newm_eq]
    refine StbV.intro (i64 rc.k) (fun H' hI => ?_) ?_
    · simp (disch := (first | omega | (simp only [size_new, size_newm, size_wr, size_wrm] <;> omega) | fail)) only [go_sem, Nat.reduceBEq, Nat.reduceAdd, Nat.reduceMul, Nat.reduceLeDiff, ↓reduceIte, rd_new_lt, own_new_lt, mp_new_lt, rd_newm_lt, own_newm_lt, mp_newm_lt, rd_wr_ne, own_wr_ne, mp_wr_ne, rd_wrm_ne, own_wrm_ne, mp_wrm_ne, rd_new_eq, own_new_eq, mp_newm_eq, rd_of_own hI]
      exact ⟨trivial, trivial⟩
    simp (disch := (first | omega | (simp only [size_new, size_newm, size_wr, size_wrm] <;> omega) | fail)) only [go_sem, Nat.reduceBEq, Nat.reduceAdd, Nat.reduceMul, Nat.reduceLeDiff, ↓reduceIte, rd_new_lt, own_new_lt, mp_new_lt, rd_newm_lt, own_newm_lt, mp_newm_lt, rd_wr_ne, own_wr_ne, mp_wr_ne, rd_wrm_ne, own_wrm_ne, mp_wrm_ne, rd_new_eq, own_new_eq, mp_newm_eq, rd_of_own q8]
    refine And.intro q8 ?_
    simp (disch := (first | omega | (simp only [size_new, size_newm, size_wr, size_wrm] <;> omega) | fail)) only [go_sem, Nat.reduceBEq, Nat.reduceAdd, Nat.reduceMul, Nat.reduceLeDiff, ↓reduceIte, rd_new_lt, own_new_lt, mp_new_lt, rd_newm_lt, own_newm_lt, mp_newm_lt, rd_wr_ne, own_wr_ne, mp_wr_ne, rd_wrm_ne, own_wrm_ne, mp_wrm_ne, rd_new_eq, own_new_eq, mp_newm_eq, wa]
    refine (record_put_spec s5 (by omega) (x := rc.a) (by omega) (m := 4) (by omega)).mono ?_
    rintro v6 H6 ⟨fp6, s6, e6, h6⟩
    have far6 : ∀ z, fp6 = some z → H.size ≤ z ∧ z ≠ p5 := fun z hz => by
      rcases h6 with h' | ⟨b', h', g1⟩
      · exact far z (h' ▸ hz)
      · rw [h'] at hz; injection hz with hz
        have := e5.size; omega
    have x6 : Fresh H H6 := x5.then e6 (fun z hz => (far z hz).1)
    have y6 := e6.own q8 (fun h => (far p5 h).2 rfl)
    refine And.intro y6 ?_
    simp (disch := (first | omega | (simp only [size_new, size_newm, size_wr, size_wrm] <;> omega) | fail)) only [go_sem, Nat.reduceBEq, Nat.reduceAdd, Nat.reduceMul, Nat.reduceLeDiff, ↓reduceIte, rd_new_lt, own_new_lt, mp_new_lt, rd_newm_lt, own_newm_lt, mp_newm_lt, rd_wr_ne, own_wr_ne, mp_wr_ne, rd_wrm_ne, own_wrm_ne, mp_wrm_ne, rd_new_eq, own_new_eq, mp_newm_eq, wb]
    refine (record_put_spec s6 (by omega) (x := rc.b) (by omega) (m := 4) (by omega)).mono ?_
    rintro v7 H7 ⟨fp7, s7, e7, h7⟩
    have far7 : ∀ z, fp7 = some z → H.size ≤ z ∧ z ≠ p5 := fun z hz => by
      rcases h7 with h' | ⟨b', h', g1⟩
      · exact far6 z (h' ▸ hz)
      · rw [h'] at hz; injection hz with hz
        have := e5.size; have := e6.size; omega
    have x7 : Fresh H H7 := x6.then e7 (fun z hz => (far6 z hz).1)
    have y7 := e7.own y6 (fun h => (far6 p5 h).2 rfl)
    refine And.intro y7 ?_
    simp (disch := (first | omega | (simp only [size_new, size_newm, size_wr, size_wrm] <;> omega) | fail)) only [go_sem, Nat.reduceBEq, Nat.reduceAdd, Nat.reduceMul, Nat.reduceLeDiff, ↓reduceIte, rd_new_lt, own_new_lt, mp_new_lt, rd_newm_lt, own_newm_lt, mp_newm_lt, rd_wr_ne, own_wr_ne, mp_wr_ne, rd_wrm_ne, own_wrm_ne, mp_wrm_ne, rd_new_eq, own_new_eq, mp_newm_eq, wk]
    refine (record_put_spec s7 (by omega) (x := toU rc.k) (toU_lt _) (m := 8) (by omega)).mono ?_
    rintro v8 H8 ⟨fp8, s8, e8, h8⟩
    have far8 : ∀ z, fp8 = some z → H.size ≤ z ∧ z ≠ p5 := fun z hz => by
      rcases h8 with h' | ⟨b', h', g1⟩
      · exact far7 z (h' ▸ hz)
      · rw [h'] at hz; injection hz with hz
        have := e5.size; have := e6.size; have := e7.size; omega
    have x8 : Fresh H H8 := x7.then e8 (fun z hz => (far7 z hz).1)
    have y8 := e8.own y7 (fun h => (far7 p5 h).2 rfl)
    refine And.intro y8 ?_
    simp (disch := (first | omega | (simp only [size_new, size_newm, size_wr, size_wrm] <;> omega) | fail)) only [go_sem, Nat.reduceBEq, Nat.reduceAdd, Nat.reduceMul, Nat.reduceLeDiff, ↓reduceIte, rd_new_lt, own_new_lt, mp_new_lt, rd_newm_lt, own_newm_lt, mp_newm_lt, rd_wr_ne, own_wr_ne, mp_wr_ne, rd_wrm_ne, own_wrm_ne, mp_wrm_ne, rd_new_eq, own_new_eq, mp_newm_eq]
    rw [wrap64 (n := (i : Int) + 1) (by omega) (by omega)]
    refine ⟨n - (i + 1), by omega, x8, i + 1, v8, fp8, rfl, by omega, rfl, ?_, fun z hz => (far8 z hz).1⟩
    have et : encR (rs.take (i + 1)) = encR (rs.take i) ++ recB rc := by
      rw [List.take_add_one, hr]
      unfold encR
      rw [List.flatMap_append]
      show _ ++ (recB r.clean ++ []) = _
      rw [hrc, List.append_nil]
    have eop : recB rc = [op] ++ be 4 rc.a ++ be 4 rc.b ++ be 8 (toU rc.k) := by
      unfold recB
      rw [hop, Int.toNat_natCast]
    rw [et, eop, u8s_app, u8s_app, u8s_app, u8s_app, ← List.append_assoc, ← List.append_assoc, ← List.append_assoc, show 17 * (i + 1) = 17 * i + 1 + 4 + 4 + 8 by omega]
    exact s8
  · have : i = n := by omega
    subst this
    rw [List.take_of_length_le (by omega)] at s1
    exact ⟨f1, fp, s1⟩

set_option maxHeartbeats 1000000 in
theorem ref18_Encode_spec {H : Hp} {a : Option Addr} {n c : Nat} {rs : List R} (h : RdS H 4 (.slice a n c) n (flatR rs)) (hok : ∀ r ∈ rs, r.Ok) (hn : n ≤ 1000) :
    CallH Tryd.prog n_ref18_Encode [.slice a n c] H fun v H' => Post (Fresh H H' ∧ ∃ fp, Sl H' 1 v (17 * n) (u8s (encR rs)) fp) := by
  have hl := lenR h
  refine c_ref18_Encode ⟨rfl, ?_⟩
  have f0 : Fresh H (H.new 5 []) := (Ext.refl _ _).new _ _
  have s0 : Sl (H.new 5 []) 1 (.slice (some ⟨H.size, 0, none⟩) 0 0) 0 (u8s []) (some H.size) := Sl.lit_at (size := 1) (n := 0) (xs := []) rfl rfl
  simp (disch := (first | omega | (simp only [size_new, size_newm, size_wr, size_wrm] <;> omega) | fail)) only [go_sem, Nat.reduceBEq, Nat.reduceAdd, Nat.reduceMul, Nat.reduceLeDiff, ↓reduceIte, rd_new_lt, own_new_lt, mp_new_lt, rd_newm_lt, own_newm_lt, mp_newm_lt, rd_wr_ne, own_wr_ne, mp_wr_ne, rd_wrm_ne, own_wrm_ne, mp_wrm_ne, rd_new_eq, own_new_eq, mp_newm_eq, s_ref18_Encode]
  generalize H.new 5 [] = H0 at *
  refine LoopV.intro (fun m env H' => Fresh H H' ∧ ∃ (i : Nat) (v : Value) (b : Nat), m = n - i ∧ i ≤ n ∧ env = [(3, v), (7, .slice a n c), (8, i64 n), (9, i64 i)] ∧ Sl H' 1 v (17 * i) (u8s (encR (rs.take i))) (some b) ∧ H.size ≤ b) n ⟨f0, 0, _, H.size, by omega, by omega, rfl, s0, by omega⟩ ?_
  rintro m env H1 ⟨f1, i, v, bv, hm, hi, rfl, s1, hbv⟩
  simp (disch := (first | omega | (simp only [size_new, size_newm, size_wr, size_wrm] <;> omega) | fail)) only [go_sem, Nat.reduceBEq, Nat.reduceAdd, Nat.reduceMul, Nat.reduceLeDiff, ↓reduceIte, rd_new_lt, own_new_lt, mp_new_lt, rd_newm_lt, own_newm_lt, mp_newm_lt, rd_wr_ne, own_wr_ne, mp_wr_ne, rd_wrm_ne, own_wrm_ne, mp_wrm_ne, rd_new_eq, own_new_eq, mp_newm_eq]
  refine Both.dec (fun h1 => ?_) (fun h1 => ?_) <;> simp (disch := (first | omega | (simp only [size_new, size_newm, size_wr, size_wrm] <;> omega) | fail)) only [go_sem, Nat.reduceBEq, Nat.reduceAdd, Nat.reduceMul, Nat.reduceLeDiff, ↓reduceIte, rd_new_lt, own_new_lt, mp_new_lt, rd_newm_lt, own_newm_lt, mp_newm_lt, rd_wr_ne, own_wr_ne, mp_wr_ne, rd_wrm_ne, own_wrm_ne, mp_wrm_ne, rd_new_eq, own_new_eq, mp_newm_eq]
  · obtain ⟨r, hr⟩ : ∃ x, rs[i]? = some x := ⟨_, List.getElem?_eq_getElem (by omega)⟩
    have hrok := hok r (List.mem_of_getElem? hr)
    obtain ⟨_, b, o, lb, rfl, hrd, hle, htk⟩ := RdS.recd (h.fresh f1) hr
    refine ⟨⟨by omega, by omega⟩, ?_⟩
    simp (disch := (first | omega | (simp only [size_new, size_newm, size_wr, size_wrm] <;> omega) | fail)) only [go_sem, Nat.reduceBEq, Nat.reduceAdd, Nat.reduceMul, Nat.reduceLeDiff, ↓reduceIte, rd_new_lt, own_new_lt, mp_new_lt, rd_newm_lt, own_newm_lt, mp_newm_lt, rd_wr_ne, own_wr_ne, mp_wr_ne, rd_wrm_ne, own_wrm_ne, mp_wrm_ne, rd_new_eq, own_new_eq, mp_newm_eq, Int.toNat_natCast, hrd, htk]
    refine ⟨by omega, ?_⟩
    have q5 := own_wr_same (l := cellsR r) (own_new H1 40 [i64 0, u32 0, u32 0, i64 0])
    have f2 : Fresh H1 ((H1.new 40 [i64 0, u32 0, u32 0, i64 0]).wr H1.size (cellsR r)) := ((Ext.refl _ _).new _ _).wr (fun h => absurd h (Nat.lt_irrefl _)) _
    unfold cellsR at q5 f2
    simp (disch := (first | omega | (simp only [size_new, size_newm, size_wr, size_wrm] <;> omega) | fail)) only [go_sem, Nat.reduceBEq, Nat.reduceAdd, Nat.reduceMul, Nat.reduceLeDiff, ↓reduceIte, rd_new_lt, own_new_lt, mp_new_lt, rd_newm_lt, own_newm_lt, mp_newm_lt, rd_wr_ne, own_wr_ne, mp_wr_ne, rd_wrm_ne, own_wrm_ne, mp_wrm_ne, rd_new_eq, own_new_eq, mp_newm_eq, htk, cellsR]
    have hbl := s1.lt
    generalize hp5 : H1.size = p5 at *
    generalize (H1.new 40 [i64 0, u32 0, u32 0, i64 0]).wr p5 [i64 r.op, u32 r.a, u32 r.b, i64 r.k] = H2 at *
    simp (disch := (first | omega | (simp only [size_new, size_newm, size_wr, size_wrm] <;> omega) | fail)) only [go_sem, Nat.reduceBEq, Nat.reduceAdd, Nat.reduceMul, Nat.reduceLeDiff, ↓reduceIte, rd_new_lt, own_new_lt, mp_new_lt, rd_newm_lt, own_newm_lt, mp_newm_lt, rd_wr_ne, own_wr_ne, mp_wr_ne, rd_wrm_ne, own_wrm_ne, mp_wrm_ne, rd_new_eq, own_new_eq, mp_newm_eq, rd_of_own q5]
    refine (ref18_Clean_spec H2 r.op r.a r.b r.k).mono ?_
    rintro _ H3 ⟨rfl, f3⟩
    rw [cleanV_R]
    have q6 := f3.own q5 (fun h => h)
    have q7 := own_wr_same (l := cellsR r.clean) q6
    have hp : H.size ≤ p5 := by have := f1.size; omega
    have f4 : Fresh H1 (H3.wr p5 (cellsR r.clean)) := (f2.trans f3).then ((Ext.refl (fun z => z = p5) _).wr (fun _ => rfl) _) (fun z hz => by omega)
    have hcr := R.clean_range r
    have hco := R.clean_ok hrok
    obtain ⟨⟨c1, c2, c3, c4⟩, _, _⟩ := hco
    unfold cellsR at q7 f4
    generalize hrc : r.clean = rc at *
    simp (disch := (first | omega | (simp only [size_new, size_newm, size_wr, size_wrm] <;> omega) | fail)) only [go_sem, Nat.reduceBEq, Nat.reduceAdd, Nat.reduceMul, Nat.reduceLeDiff, ↓reduceIte, rd_new_lt, own_new_lt, mp_new_lt, rd_newm_lt, own_newm_lt, mp_newm_lt, rd_wr_ne, own_wr_ne, mp_wr_ne, rd_wrm_ne, own_wrm_ne, mp_wrm_ne, rd_new_eq, own_new_eq, mp_newm_eq, q6, cellsR]
    generalize H3.wr p5 [i64 rc.op, u32 rc.a, u32 rc.b, i64 rc.k] = H4 at *
    obtain ⟨op, hop⟩ : ∃ op : Nat, rc.op = op := ⟨rc.op.toNat, by omega⟩
    have wo : IntKind.u8.wrap rc.op = (op : Int) := by rw [hop, wrapU8_mod]; omega
    have wa : IntKind.u64.wrap (rc.a : Int) = rc.a := wrapU64 (by omega) (by omega)
    have wb : IntKind.u64.wrap (rc.b : Int) = rc.b := wrapU64 (by omega) (by omega)
    have wk := wrapU64_toU rc.k
    have hs14 := f4.size
    have hl4 := own_lt q7
    simp (disch := (first | omega | (simp only [size_new, size_newm, size_wr, size_wrm] <;> omega) | fail)) only [go_sem, Nat.reduceBEq, Nat.reduceAdd, Nat.reduceMul, Nat.reduceLeDiff, ↓reduceIte, rd_new_lt, own_new_lt, mp_new_lt, rd_newm_lt, own_newm_lt, mp_newm_lt, rd_wr_ne, own_wr_ne, mp_wr_ne, rd_wrm_ne, own_wrm_ne, mp_wrm_ne, rd_new_eq, own_new_eq, mp_newm_eq, rd_of_own q7, wo]
    -- the row grows: it stays the call's own and no record
    have grow : ∀ {A : Hp} {v : Value} {n1 n2 : Nat} {xs ys : List Nat} {b1 : Nat} {K : Value → Hp → Prop} {x : Value}, Fresh H A → H1.size ≤ A.size → A.own p5 = some [i64 rc.op, u32 rc.a, u32 rc.b, i64 rc.k] → Sl A 1 v n1 (u8s xs) (some b1) → H.size ≤ b1 → b1 ≠ p5 → RdS A 1 x n2 (u8s ys) → n1 + n2 ≤ 100000 →
        (∀ v' B b2, Fresh H B → H1.size ≤ B.size → B.own p5 = some [i64 rc.op, u32 rc.a, u32 rc.b, i64 rc.k] → Sl B 1 v' (n1 + n2) (u8s (xs ++ ys)) (some b2) → H.size ≤ b2 → b2 ≠ p5 → K v' B) → AppendV 5 1 1 [.int .u8 0] v x A K := fun {A v n1 n2 xs ys b1 K x} fA hA qA sA hb1 hb1p rx hnn hK => by
      refine Sl.append sA rx rfl (ones_u8s _) (by omega) ?_
      intro v' H' fp' s' e' hfp'
      have q' := e'.own qA (fun h => by injection h with h; exact hb1p h)
      have f' : Fresh H H' := fA.then e' (fun z (hz : some b1 = some z) => by injection hz with hz; omega)
      have hsz := e'.size
      rw [← u8s_app] at s'
      rcases hfp' with rfl | ⟨b2, rfl, g1, g2⟩
      · exact hK v' H' b1 f' (by omega) q' s' hb1 hb1p
      · have := own_lt qA
        have := fA.size
        exact hK v' H' b2 f' (by omega) q' s' (by omega) (by omega)
    have f5 : Fresh H4 (H4.new 5 [.int .u8 (op : Int)]) := (Ext.refl _ _).new _ _
    refine grow (xs := encR (rs.take i)) (ys := [op]) (f1.trans (f4.trans f5)) (Nat.le_trans hs14 f5.size) (f5.own q7 (fun h => h)) ((s1.ext f4 (fun _ _ h => h)).ext f5 (fun _ _ h => h)) hbv (by omega) (Sl.lit_at (size := 1) (n := 1) (xs := u8s [op]) rfl rfl).rd (by omega) ?_
    intro v5 H5 b5 x5 z5 q8 s5 g5 g5p
    simp (disch := (first | omega | (simp only [size_new, size_newm, size_wr, size_wrm] <;> omega) | fail)) only [go_sem, Nat.reduceBEq, Nat.reduceAdd, Nat.reduceMul, Nat.reduceLeDiff, ↓reduceIte, rd_new_lt, own_new_lt, mp_new_lt, rd_newm_lt, own_newm_lt, mp_newm_lt, rd_wr_ne, own_wr_ne, mp_wr_ne, rd_wrm_ne, own_wrm_ne, mp_wrm_ne, rd_new_eq, own_new_eq, mp_newm_eq, rd_of_own q8, wa]
    refine (ref18_bytes_spec 4 H5 rc.a (by omega) (by omega)).mono ?_
    rintro w5 H6 ⟨f6, c5, hc5, t5⟩
    simp (disch := (first | omega | (simp only [size_new, size_newm, size_wr, size_wrm] <;> omega) | fail)) only [go_sem, Nat.reduceBEq, Nat.reduceAdd, Nat.reduceMul, Nat.reduceLeDiff, ↓reduceIte, rd_new_lt, own_new_lt, mp_new_lt, rd_newm_lt, own_newm_lt, mp_newm_lt, rd_wr_ne, own_wr_ne, mp_wr_ne, rd_wrm_ne, own_wrm_ne, mp_wrm_ne, rd_new_eq, own_new_eq, mp_newm_eq]
    refine grow (xs := encR (rs.take i) ++ [op]) (ys := be 4 rc.a) (x5.trans f6) (Nat.le_trans z5 f6.size) (f6.own q8 (fun h => h)) (s5.ext f6 (fun _ _ h => h)) g5 g5p t5.rd (by omega) ?_
    intro v6 H7 b6 x6 z6 q9 s6 g6 g6p
    simp (disch := (first | omega | (simp only [size_new, size_newm, size_wr, size_wrm] <;> omega) | fail)) only [go_sem, Nat.reduceBEq, Nat.reduceAdd, Nat.reduceMul, Nat.reduceLeDiff, ↓reduceIte, rd_new_lt, own_new_lt, mp_new_lt, rd_newm_lt, own_newm_lt, mp_newm_lt, rd_wr_ne, own_wr_ne, mp_wr_ne, rd_wrm_ne, own_wrm_ne, mp_wrm_ne, rd_new_eq, own_new_eq, mp_newm_eq, rd_of_own q9, wb]
    refine (ref18_bytes_spec 4 H7 rc.b (by omega) (by omega)).mono ?_
    rintro w6 H8 ⟨f8, c6, hc6, t6⟩
    simp (disch := (first | omega | (simp only [size_new, size_newm, size_wr, size_wrm] <;> omega) | fail)) only [go_sem, Nat.reduceBEq, Nat.reduceAdd, Nat.reduceMul, Nat.reduceLeDiff, ↓reduceIte, rd_new_lt, own_new_lt, mp_new_lt, rd_newm_lt, own_newm_lt, mp_newm_lt, rd_wr_ne, own_wr_ne, mp_wr_ne, rd_wrm_ne, own_wrm_ne, mp_wrm_ne, rd_new_eq, own_new_eq, mp_newm_eq]
    refine grow (xs := (encR (rs.take i) ++ [op]) ++ be 4 rc.a) (ys := be 4 rc.b) (x6.trans f8) (Nat.le_trans z6 f8.size) (f8.own q9 (fun h => h)) (s6.ext f8 (fun _ _ h => h)) g6 g6p t6.rd (by omega) ?_
    intro v7 H9 b7 x7 z7 q10 s7 g7 g7p
    simp (disch := (first | omega | (simp only [size_new, size_newm, size_wr, size_wrm] <;> omega) | fail)) only [go_sem, Nat.reduceBEq, Nat.reduceAdd, Nat.reduceMul, Nat.reduceLeDiff, ↓reduceIte, rd_new_lt, own_new_lt, mp_new_lt, rd_newm_lt, own_newm_lt, mp_newm_lt, rd_wr_ne, own_wr_ne, mp_wr_ne, rd_wrm_ne, own_wrm_ne, mp_wrm_ne, rd_new_eq, own_new_eq, mp_newm_eq, rd_of_own q10, wk]
    refine (ref18_bytes_spec 8 H9 (toU rc.k) (by omega) (toU_lt _)).mono ?_
    rintro w7 H10 ⟨f10, c7, hc7, t7⟩
    simp (disch := (first | omega | (simp only [size_new, size_newm, size_wr, size_wrm] <;> omega) | fail)) only [go_sem, Nat.reduceBEq, Nat.reduceAdd, Nat.reduceMul, Nat.reduceLeDiff, ↓reduceIte, rd_new_lt, own_new_lt, mp_new_lt, rd_newm_lt, own_newm_lt, mp_newm_lt, rd_wr_ne, own_wr_ne, mp_wr_ne, rd_wrm_ne, own_wrm_ne, mp_wrm_ne, rd_new_eq, own_new_eq, mp_newm_eq]
    refine grow (xs := ((encR (rs.take i) ++ [op]) ++ be 4 rc.a) ++ be 4 rc.b) (ys := be 8 (toU rc.k)) (x7.trans f10) (Nat.le_trans z7 f10.size) (f10.own q10 (fun h => h)) (s7.ext f10 (fun _ _ h => h)) g7 g7p t7.rd (by omega) ?_
    intro v8 H11 b8 x8 z8 q11 s8 g8 g8p
    simp (disch := (first | omega | (simp only [size_new, size_newm, size_wr, size_wrm] <;> omega) | fail)) only [go_sem, Nat.reduceBEq, Nat.reduceAdd, Nat.reduceMul, Nat.reduceLeDiff, ↓reduceIte, rd_new_lt, own_new_lt, mp_new_lt, rd_newm_lt, own_newm_lt, mp_newm_lt, rd_wr_ne, own_wr_ne, mp_wr_ne, rd_wrm_ne, own_wrm_ne, mp_wrm_ne, rd_new_eq, own_new_eq, mp_newm_eq]
    rw [wrap64 (n := (i : Int) + 1) (by omega) (by omega)]
    refine ⟨n - (i + 1), by omega, x8, i + 1, v8, b8, rfl, by omega, rfl, ?_, g8⟩
    have et : encR (rs.take (i + 1)) = encR (rs.take i) ++ recB rc := by
      rw [List.take_add_one, hr]
      unfold encR
      rw [List.flatMap_append]
      show _ ++ (recB r.clean ++ []) = _
      rw [hrc, List.append_nil]
    have eop : recB rc = [op] ++ be 4 rc.a ++ be 4 rc.b ++ be 8 (toU rc.k) := by
      unfold recB
      rw [hop, Int.toNat_natCast]
    rw [et, eop, ← List.append_assoc, ← List.append_assoc, ← List.append_assoc, show 17 * (i + 1) = 17 * i + 1 + 4 + 4 + 8 by omega]
    exact s8
  · have : i = n := by omega
    subst this
    rw [List.take_of_length_le (by omega)] at s1
    exact ⟨f1, some bv, s1⟩

theorem sub_rd {H : Hp} {a : Option Addr} {n c : Nat} {ns : List Nat} (h : RdS H 1 (.slice a n c) n (u8s ns)) (lo hi : Nat) (h1 : lo ≤ hi) (h2 : hi ≤ n) (h3 : n ≤ c) : ∀ (L Hi : Int), L = lo → Hi = hi →
    ∃ a' c', Value.slice (if (c : Int) = L then a else Option.map (fun x => x.add (L.toNat * 1)) a) (Hi.toNat - L.toNat) ((c : Int).toNat - L.toNat) = .slice a' (hi - lo) c' ∧ RdS H 1 (.slice a' (hi - lo) c') (hi - lo) (u8s ((ns.drop lo).take (hi - lo))) ∧ hi - lo ≤ c' := by
  rintro L Hi rfl rfl
  refine ⟨_, _, rfl, ?_, by show hi - lo ≤ c - lo; omega⟩
  have h4 := RdS.sub h (lo := lo) (hi := hi) h1 h2 (c' := c - lo) (b' := if (c : Int) = (lo : Int) then a else Option.map (fun x => x.add (lo * 1)) a) (fun hlt => by rw [if_neg (by omega)])
  have e : u8s ((ns.drop lo).take (hi - lo)) = ((u8s ns).drop (lo * 1)).take ((hi - lo) * 1) := by
    unfold u8s
    rw [Nat.mul_one, Nat.mul_one, List.map_take, List.map_drop]
  rw [e]
  exact h4

end Go.Proofs.YtapoboiofpmheaaDoor
