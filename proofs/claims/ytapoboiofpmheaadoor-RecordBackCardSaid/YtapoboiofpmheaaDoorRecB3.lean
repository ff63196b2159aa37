/-
  Bytes as records; are two lists of records one?
-/
import Derived.Test.YtapoboiofpmheaaDoorRecB2
set_option linter.unusedVariables false
set_option linter.unusedSimpArgs false
namespace Go.Proofs.YtapoboiofpmheaaDoor
open Go Go.Vc

theorem val_drop_lt {ns : List Nat} (hns : ∀ c ∈ ns, c < 256) (i j : Nat) : ∀ c ∈ (ns.drop i).take j, c < 256 := fun c hc => hns c (List.mem_of_mem_drop (List.mem_of_mem_take hc))

set_option maxHeartbeats 1000000 in
theorem record_Decode_spec {H : Hp} {a : Option Addr} {n c : Nat} {ns : List Nat} (h : RdS H 1 (.slice a n c) n (u8s ns)) (hc : n ≤ c) (hns : ∀ c ∈ ns, c < 256) (hn : n ≤ 2000) :
    CallH Tryd.prog n_record_Decode [.slice a n c] H fun v H' => Post (Fresh H H' ∧ ∃ fp, Sl H' 4 v (decR ns).length (flatR (decR ns)) fp) := by
  refine c_record_Decode ⟨rfl, ?_⟩
  simp (disch := (first | omega | (simp only [size_new, size_newm, size_wr, size_wrm] <;> omega) | fail)) only [go_sem, Nat.reduceBEq, Nat.reduceAdd, Nat.reduceMul, Nat.reduceLeDiff, ↓reduceIte, rd_new_lt, own_new_lt, mp_new_lt, rd_newm_lt, own_newm_lt, mp_newm_lt, rd_wr_ne, own_wr_ne, mp_wr_ne, rd_wrm_ne, own_wrm_ne, mp_wrm_ne, rd_new_eq, own_new_eq, mp_newm_eq, s_record_Decode]
  refine LoopV.intro (fun m env H' => Fresh H H' ∧ ∃ (a : Option Addr) (c : Nat) (ns' : List Nat) (dn : List R) (v : Value) (fp : Option Nat), env = [(0, .slice a m c), (3, v)] ∧ RdS H 1 (.slice a m c) m (u8s ns') ∧ m ≤ c ∧ m ≤ 2000 ∧ (∀ c ∈ ns', c < 256) ∧ decR ns = dn ++ decR ns' ∧ dn.length + m ≤ 2000 ∧ Sl H' 4 v dn.length (flatR dn) fp ∧ (∀ b, fp = some b → H.size ≤ b)) n
    ⟨Ext.refl _ _, a, c, ns, [], _, none, rfl, h, hc, hn, hns, rfl, by simpa using hn, Sl.nil H 4, fun b h => by cases h⟩ ?_
  rintro m env H1 ⟨f1, a, c, ns', dn, v, fp, rfl, r0, hc, hm2, hns', hdec, hlen, s1, hfp⟩
  have r1 := r0.fresh f1
  have hl : ns'.length = m := by have := r1.1; rw [u8s_len] at this; omega
  simp (disch := (first | omega | (simp only [size_new, size_newm, size_wr, size_wrm] <;> omega) | fail)) only [go_sem, Nat.reduceBEq, Nat.reduceAdd, Nat.reduceMul, Nat.reduceLeDiff, ↓reduceIte, rd_new_lt, own_new_lt, mp_new_lt, rd_newm_lt, own_newm_lt, mp_newm_lt, rd_wr_ne, own_wr_ne, mp_wr_ne, rd_wrm_ne, own_wrm_ne, mp_wrm_ne, rd_new_eq, own_new_eq, mp_newm_eq]
  refine Both.dec (fun h1 => ?_) (fun h1 => ?_) <;> simp (disch := (first | omega | (simp only [size_new, size_newm, size_wr, size_wrm] <;> omega) | fail)) only [go_sem, Nat.reduceBEq, Nat.reduceAdd, Nat.reduceMul, Nat.reduceLeDiff, ↓reduceIte, rd_new_lt, own_new_lt, mp_new_lt, rd_newm_lt, own_newm_lt, mp_newm_lt, rd_wr_ne, own_wr_ne, mp_wr_ne, rd_wrm_ne, own_wrm_ne, mp_wrm_ne, rd_new_eq, own_new_eq, mp_newm_eq]
  · obtain ⟨x, hx⟩ : ∃ x, ns'[0]? = some x := ⟨_, List.getElem?_eq_getElem (by omega)⟩
    obtain ⟨_, b, o, lb, rfl, hrd, hlb⟩ := RdS.byte r1 hx
    obtain ⟨a1, c1, e1, t1, _⟩ := sub_rd r1 1 5 (by omega) (by omega) hc 1 5 rfl rfl
    obtain ⟨a2, c2, e2, t2, _⟩ := sub_rd r1 5 9 (by omega) (by omega) hc 5 9 rfl rfl
    obtain ⟨a3, c3, e3, t3, _⟩ := sub_rd r1 9 17 (by omega) (by omega) hc 9 17 rfl rfl
    refine ⟨⟨by omega, by omega⟩, ?_⟩
    simp (disch := (first | omega | (simp only [size_new, size_newm, size_wr, size_wrm] <;> omega) | fail)) only [go_sem, Nat.reduceBEq, Nat.reduceAdd, Nat.reduceMul, Nat.reduceLeDiff, ↓reduceIte, rd_new_lt, own_new_lt, mp_new_lt, rd_newm_lt, own_newm_lt, mp_newm_lt, rd_wr_ne, own_wr_ne, mp_wr_ne, rd_wrm_ne, own_wrm_ne, mp_wrm_ne, rd_new_eq, own_new_eq, mp_newm_eq, Int.toNat_zero, Nat.zero_mul, hrd, hlb]
    refine ⟨⟨by omega, by omega, by omega, by omega⟩, ?_⟩
    simp (disch := (first | omega | (simp only [size_new, size_newm, size_wr, size_wrm] <;> omega) | fail)) only [go_sem, Nat.reduceBEq, Nat.reduceAdd, Nat.reduceMul, Nat.reduceLeDiff, ↓reduceIte, rd_new_lt, own_new_lt, mp_new_lt, rd_newm_lt, own_newm_lt, mp_newm_lt, rd_wr_ne, own_wr_ne, mp_wr_ne, rd_wrm_ne, own_wrm_ne, mp_wrm_ne, rd_new_eq, own_new_eq, mp_newm_eq]
    rw [e1]
    refine ⟨_, (record_take_spec t1 (val_drop_lt hns' 1 _) (by omega)).mono (by rintro _ _ ⟨rfl, rfl⟩; exact ⟨rfl, rfl⟩), ?_⟩
    have p4 : (256 : Nat) ^ 4 = 4294967296 := by decide
    have p8 : (256 : Nat) ^ 8 = 18446744073709551616 := by decide
    have v1 := val_take_lt (l := ns'.drop 1) (fun c hc => hns' c (List.mem_of_mem_drop hc)) 4
    have v2 := val_take_lt (l := ns'.drop 5) (fun c hc => hns' c (List.mem_of_mem_drop hc)) 4
    have v3 := val_take_lt (l := ns'.drop 9) (fun c hc => hns' c (List.mem_of_mem_drop hc)) 8
    have hxl := hns' x (List.mem_of_getElem? hx)
    have w0 : IntKind.i64.wrap (x : Int) = x := wrap64 (by omega) (by omega)
    have w1 : IntKind.u32.wrap (val ((ns'.drop 1).take (5 - 1)) : Int) = (val ((ns'.drop 1).take 4) : Int) := wrapU32 (by omega) (by show ((val ((ns'.drop 1).take 4) : Nat) : Int) ≤ _; omega)
    have w2 : IntKind.u32.wrap (val ((ns'.drop 5).take (9 - 5)) : Int) = (val ((ns'.drop 5).take 4) : Int) := wrapU32 (by omega) (by show ((val ((ns'.drop 5).take 4) : Nat) : Int) ≤ _; omega)
    have w3 : IntKind.i64.wrap (val ((ns'.drop 9).take (17 - 9)) : Int) = toS (val ((ns'.drop 9).take 8)) := wrapI64_toS (by show val ((ns'.drop 9).take 8) < _; omega)
    simp (disch := (first | omega | (simp only [size_new, size_newm, size_wr, size_wrm] <;> omega) | fail)) only [go_sem, Nat.reduceBEq, Nat.reduceAdd, Nat.reduceMul, Nat.reduceLeDiff, ↓reduceIte, rd_new_lt, own_new_lt, mp_new_lt, rd_newm_lt, own_newm_lt, mp_newm_lt, rd_wr_ne, own_wr_ne, mp_wr_ne, rd_wrm_ne, own_wrm_ne, mp_wrm_ne, rd_new_eq, own_new_eq, mp_newm_eq, w0, w1]
    refine ⟨⟨by omega, by omega, by omega, by omega⟩, ?_⟩
    simp (disch := (first | omega | (simp only [size_new, size_newm, size_wr, size_wrm] <;> omega) | fail)) only [go_sem, Nat.reduceBEq, Nat.reduceAdd, Nat.reduceMul, Nat.reduceLeDiff, ↓reduceIte, rd_new_lt, own_new_lt, mp_new_lt, rd_newm_lt, own_newm_lt, mp_newm_lt, rd_wr_ne, own_wr_ne, mp_wr_ne, rd_wrm_ne, own_wrm_ne, mp_wrm_ne, rd_new_eq, own_new_eq, mp_newm_eq]
    rw [e2]
    refine ⟨_, (record_take_spec t2 (val_drop_lt hns' 5 _) (by omega)).mono (by rintro _ _ ⟨rfl, rfl⟩; exact ⟨rfl, rfl⟩), ?_⟩
    simp (disch := (first | omega | (simp only [size_new, size_newm, size_wr, size_wrm] <;> omega) | fail)) only [go_sem, Nat.reduceBEq, Nat.reduceAdd, Nat.reduceMul, Nat.reduceLeDiff, ↓reduceIte, rd_new_lt, own_new_lt, mp_new_lt, rd_newm_lt, own_newm_lt, mp_newm_lt, rd_wr_ne, own_wr_ne, mp_wr_ne, rd_wrm_ne, own_wrm_ne, mp_wrm_ne, rd_new_eq, own_new_eq, mp_newm_eq, w2]
    refine ⟨⟨by omega, by omega, by omega, by omega⟩, ?_⟩
    simp (disch := (first | omega | (simp only [size_new, size_newm, size_wr, size_wrm] <;> omega) | fail)) only [go_sem, Nat.reduceBEq, Nat.reduceAdd, Nat.reduceMul, Nat.reduceLeDiff, ↓reduceIte, rd_new_lt, own_new_lt, mp_new_lt, rd_newm_lt, own_newm_lt, mp_newm_lt, rd_wr_ne, own_wr_ne, mp_wr_ne, rd_wrm_ne, own_wrm_ne, mp_wrm_ne, rd_new_eq, own_new_eq, mp_newm_eq]
    rw [e3]
    refine ⟨_, (record_take_spec t3 (val_drop_lt hns' 9 _) (by omega)).mono (by rintro _ _ ⟨rfl, rfl⟩; exact ⟨rfl, rfl⟩), ?_⟩
    simp (disch := (first | omega | (simp only [size_new, size_newm, size_wr, size_wrm] <;> omega) | fail)) only [go_sem, Nat.reduceBEq, Nat.reduceAdd, Nat.reduceMul, Nat.reduceLeDiff, ↓reduceIte, rd_new_lt, own_new_lt, mp_new_lt, rd_newm_lt, own_newm_lt, mp_newm_lt, rd_wr_ne, own_wr_ne, mp_wr_ne, rd_wrm_ne, own_wrm_ne, mp_wrm_ne, rd_new_eq, own_new_eq, mp_newm_eq, w0, w1, w2, w3]
    have hgd : ns'.getD 0 0 = x := by rw [List.getD_eq_getElem?_getD, hx]; rfl
    have hfb : fromB ns' = ⟨(x : Nat), val ((ns'.drop 1).take 4), val ((ns'.drop 5).take 4), toS (val ((ns'.drop 9).take 8))⟩ := by unfold fromB; rw [hgd]
    refine (record_Clean_spec H1 x (val ((ns'.drop 1).take 4)) (val ((ns'.drop 5).take 4)) (toS (val ((ns'.drop 9).take 8)))).mono ?_
    rintro _ H2 ⟨rfl, f2⟩
    have hcl := cleanV_R (fromB ns')
    rw [hfb] at hcl
    rw [hcl, ← hfb]
    simp (disch := (first | omega | (simp only [size_new, size_newm, size_wr, size_wrm] <;> omega) | fail)) only [go_sem, Nat.reduceBEq, Nat.reduceAdd, Nat.reduceMul, Nat.reduceLeDiff, ↓reduceIte, rd_new_lt, own_new_lt, mp_new_lt, rd_newm_lt, own_newm_lt, mp_newm_lt, rd_wr_ne, own_wr_ne, mp_wr_ne, rd_wrm_ne, own_wrm_ne, mp_wrm_ne, rd_new_eq, own_new_eq, mp_newm_eq, cellsR]
    have f3 : Fresh H2 (H2.new 40 (cellsR (fromB ns').clean)) := (Ext.refl _ _).new _ _
    refine Sl.append ((s1.ext f2 (fun _ _ h => h)).ext f3 (fun _ _ h => h)) (Sl.lit_at (size := 4) (n := 1) (xs := flatR [(fromB ns').clean]) rfl rfl).rd rfl (ones_rec _) (by omega) ?_
    intro v' H3 fp' s4 e4 hfp'
    simp (disch := (first | omega | (simp only [size_new, size_newm, size_wr, size_wrm] <;> omega) | fail)) only [go_sem, Nat.reduceBEq, Nat.reduceAdd, Nat.reduceMul, Nat.reduceLeDiff, ↓reduceIte, rd_new_lt, own_new_lt, mp_new_lt, rd_newm_lt, own_newm_lt, mp_newm_lt, rd_wr_ne, own_wr_ne, mp_wr_ne, rd_wrm_ne, own_wrm_ne, mp_wrm_ne, rd_new_eq, own_new_eq, mp_newm_eq]
    have f13 : Fresh H1 H2 := f2
    have fH3 : Fresh H H3 := (f1.trans (f2.trans f3)).then e4 (fun z hz => hfp z hz)
    refine ⟨⟨by omega, by omega, by omega, by omega⟩, ?_⟩
    obtain ⟨a4, c4, e5, t4, l4⟩ := sub_rd r0 17 m (by omega) (by omega) hc 17 m rfl rfl
    simp (disch := (first | omega | (simp only [size_new, size_newm, size_wr, size_wrm] <;> omega) | fail)) only [go_sem, Nat.reduceBEq, Nat.reduceAdd, Nat.reduceMul, Nat.reduceLeDiff, ↓reduceIte, rd_new_lt, own_new_lt, mp_new_lt, rd_newm_lt, own_newm_lt, mp_newm_lt, rd_wr_ne, own_wr_ne, mp_wr_ne, rd_wrm_ne, own_wrm_ne, mp_wrm_ne, rd_new_eq, own_new_eq, mp_newm_eq]
    rw [e5]
    have hdr : (ns'.drop 17).take (m - 17) = ns'.drop 17 := List.take_of_length_le (by rw [List.length_drop]; omega)
    rw [hdr] at t4
    refine ⟨m - 17, by omega, fH3, a4, c4, ns'.drop 17, dn ++ [(fromB ns').clean], v', fp', rfl, t4, l4, by omega, fun c hc => hns' c (List.mem_of_mem_drop hc), ?_, by rw [List.length_append]; show dn.length + 1 + _ ≤ _; omega, by rw [flatR_app, List.length_append]; exact s4, ?_⟩
    · rw [hdec, decR_step (by omega), List.append_assoc]
      rfl
    · intro z hz
      rcases hfp' with h' | ⟨b', h', g1, g2⟩
      · rw [h'] at hz; exact hfp z hz
      · rw [h'] at hz; injection hz with hz
        rw [← hz]
        exact Nat.le_trans (f1.trans (f2.trans f3)).size g1
  · refine Both.dec (fun h2 => ?_) (fun h2 => ?_) <;> simp (disch := (first | omega | (simp only [size_new, size_newm, size_wr, size_wrm] <;> omega) | fail)) only [go_sem, Nat.reduceBEq, Nat.reduceAdd, Nat.reduceMul, Nat.reduceLeDiff, ↓reduceIte, rd_new_lt, own_new_lt, mp_new_lt, rd_newm_lt, own_newm_lt, mp_newm_lt, rd_wr_ne, own_wr_ne, mp_wr_ne, rd_wrm_ne, own_wrm_ne, mp_wrm_ne, rd_new_eq, own_new_eq, mp_newm_eq]
    · have hne : ns' ≠ [] := fun e => by rw [e] at hl; simp at hl; omega
      have f3 : Fresh H1 (H1.new 40 [i64 0, u32 0, u32 0, i64 0]) := (Ext.refl _ _).new _ _
      refine Sl.append (s1.ext f3 (fun _ _ h => h)) (Sl.lit_at (size := 4) (n := 1) (xs := flatR [⟨0, 0, 0, 0⟩]) rfl rfl).rd rfl (ones_rec _) (by omega) ?_
      intro v' H3 fp' s4 e4 hfp'
      simp (disch := (first | omega | (simp only [size_new, size_newm, size_wr, size_wrm] <;> omega) | fail)) only [go_sem, Nat.reduceBEq, Nat.reduceAdd, Nat.reduceMul, Nat.reduceLeDiff, ↓reduceIte, rd_new_lt, own_new_lt, mp_new_lt, rd_newm_lt, own_newm_lt, mp_newm_lt, rd_wr_ne, own_wr_ne, mp_wr_ne, rd_wrm_ne, own_wrm_ne, mp_wrm_ne, rd_new_eq, own_new_eq, mp_newm_eq]
      refine ⟨(f1.trans f3).then e4 (fun z hz => hfp z hz), fp', ?_⟩
      rw [hdec, decR_rest (by omega) hne, flatR_app, List.length_append]
      exact s4
    · have hnil : ns' = [] := List.length_eq_zero_iff.1 (by omega)
      rw [hnil, decR_nil, List.append_nil] at hdec
      exact ⟨f1, fp, by rw [hdec]; exact s1⟩

theorem ref18_Same_spec {H : Hp} {a a' : Option Addr} {n n' c c' : Nat} {rs rs' : List R} (h : RdS H 4 (.slice a n c) n (flatR rs)) (h' : RdS H 4 (.slice a' n' c') n' (flatR rs')) (hn : n ≤ 100000) :
    CallH Tryd.prog n_ref18_Same [.slice a n c, .slice a' n' c'] H fun v H' => Post (v = .bool (decide (rs = rs')) ∧ H' = H) := by
  have hl := lenR h
  have hl' := lenR h'
  refine c_ref18_Same ⟨rfl, ?_⟩
  simp (disch := (first | omega | (simp only [size_new, size_newm, size_wr, size_wrm] <;> omega) | fail)) only [go_sem, Nat.reduceBEq, Nat.reduceAdd, Nat.reduceMul, Nat.reduceLeDiff, ↓reduceIte, rd_new_lt, own_new_lt, mp_new_lt, rd_newm_lt, own_newm_lt, mp_newm_lt, rd_wr_ne, own_wr_ne, mp_wr_ne, rd_wrm_ne, own_wrm_ne, mp_wrm_ne, rd_new_eq, own_new_eq, mp_newm_eq, s_ref18_Same]
  refine Both.dec (fun h1 => ?_) (fun h1 => ?_) <;> simp (disch := (first | omega | (simp only [size_new, size_newm, size_wr, size_wrm] <;> omega) | fail)) only [go_sem, Nat.reduceBEq, Nat.reduceAdd, Nat.reduceMul, Nat.reduceLeDiff, ↓reduceIte, rd_new_lt, own_new_lt, mp_new_lt, rd_newm_lt, own_newm_lt, mp_newm_lt, rd_wr_ne, own_wr_ne, mp_wr_ne, rd_wrm_ne, own_wrm_ne, mp_wrm_ne, rd_new_eq, own_new_eq, mp_newm_eq]
  rotate_left
  · exact ⟨congrArg Value.bool (decide_eq_false (fun e => h1 (by rw [← hl, ← hl', e]))).symm, rfl⟩
  have hnn : n' = n := by omega
  subst hnn
  refine LoopV.intro (fun m env H' => H' = H ∧ ∃ i : Nat, m = n' - i ∧ i ≤ n' ∧ env = [(0, .slice a n' c), (1, .slice a' n' c'), (12, i64 n'), (13, i64 i)] ∧ rs.take i = rs'.take i) n' ⟨rfl, 0, by omega, by omega, rfl, rfl⟩ ?_
  rintro m env _ ⟨rfl, i, hm, hi, rfl, heq⟩
  simp (disch := (first | omega | (simp only [size_new, size_newm, size_wr, size_wrm] <;> omega) | fail)) only [go_sem, Nat.reduceBEq, Nat.reduceAdd, Nat.reduceMul, Nat.reduceLeDiff, ↓reduceIte, rd_new_lt, own_new_lt, mp_new_lt, rd_newm_lt, own_newm_lt, mp_newm_lt, rd_wr_ne, own_wr_ne, mp_wr_ne, rd_wrm_ne, own_wrm_ne, mp_wrm_ne, rd_new_eq, own_new_eq, mp_newm_eq]
  refine Both.dec (fun h2 => ?_) (fun h2 => ?_) <;> simp (disch := (first | omega | (simp only [size_new, size_newm, size_wr, size_wrm] <;> omega) | fail)) only [go_sem, Nat.reduceBEq, Nat.reduceAdd, Nat.reduceMul, Nat.reduceLeDiff, ↓reduceIte, rd_new_lt, own_new_lt, mp_new_lt, rd_newm_lt, own_newm_lt, mp_newm_lt, rd_wr_ne, own_wr_ne, mp_wr_ne, rd_wrm_ne, own_wrm_ne, mp_wrm_ne, rd_new_eq, own_new_eq, mp_newm_eq]
  · obtain ⟨x, hx⟩ : ∃ x, rs[i]? = some x := ⟨_, List.getElem?_eq_getElem (by omega)⟩
    obtain ⟨y, hy⟩ : ∃ y, rs'[i]? = some y := ⟨_, List.getElem?_eq_getElem (by omega)⟩
    obtain ⟨_, b, o, lb, rfl, hrd, hle, htk⟩ := RdS.recd h hx
    obtain ⟨_, b', o', lb', rfl, hrd', hle', htk'⟩ := RdS.recd h' hy
    refine ⟨⟨by omega, by omega⟩, ?_⟩
    simp (disch := (first | omega | (simp only [size_new, size_newm, size_wr, size_wrm] <;> omega) | fail)) only [go_sem, Nat.reduceBEq, Nat.reduceAdd, Nat.reduceMul, Nat.reduceLeDiff, ↓reduceIte, rd_new_lt, own_new_lt, mp_new_lt, rd_newm_lt, own_newm_lt, mp_newm_lt, rd_wr_ne, own_wr_ne, mp_wr_ne, rd_wrm_ne, own_wrm_ne, mp_wrm_ne, rd_new_eq, own_new_eq, mp_newm_eq, Int.toNat_natCast, hrd, htk]
    refine ⟨by omega, ⟨by omega, by omega⟩, ?_⟩
    simp (disch := (first | omega | (simp only [size_new, size_newm, size_wr, size_wrm] <;> omega) | fail)) only [go_sem, Nat.reduceBEq, Nat.reduceAdd, Nat.reduceMul, Nat.reduceLeDiff, ↓reduceIte, rd_new_lt, own_new_lt, mp_new_lt, rd_newm_lt, own_newm_lt, mp_newm_lt, rd_wr_ne, own_wr_ne, mp_wr_ne, rd_wrm_ne, own_wrm_ne, mp_wrm_ne, rd_new_eq, own_new_eq, mp_newm_eq, Int.toNat_natCast, hrd', htk']
    refine ⟨by omega, ?_⟩
    simp (disch := (first | omega | (simp only [size_new, size_newm, size_wr, size_wrm] <;> omega) | fail)) only [go_sem, Nat.reduceBEq, Nat.reduceAdd, Nat.reduceMul, Nat.reduceLeDiff, ↓reduceIte, rd_new_lt, own_new_lt, mp_new_lt, rd_newm_lt, own_newm_lt, mp_newm_lt, rd_wr_ne, own_wr_ne, mp_wr_ne, rd_wrm_ne, own_wrm_ne, mp_wrm_ne, rd_new_eq, own_new_eq, mp_newm_eq, htk, htk', cellsR, rec_eq, Option.map_some]
    have hxy : (decide (x.op = y.op) && (decide ((x.a : Int) = y.a) && (decide ((x.b : Int) = y.b) && decide (x.k = y.k)))) = decide (x = y) := by
      cases x; cases y
      simp only [R.mk.injEq]
      rw [Bool.eq_iff_iff]
      simp
      omega
    rw [hxy]
    refine Both.dec (fun h3 => ?_) (fun h3 => ?_) <;> simp (disch := (first | omega | (simp only [size_new, size_newm, size_wr, size_wrm] <;> omega) | fail)) only [go_sem, Nat.reduceBEq, Nat.reduceAdd, Nat.reduceMul, Nat.reduceLeDiff, ↓reduceIte, rd_new_lt, own_new_lt, mp_new_lt, rd_newm_lt, own_newm_lt, mp_newm_lt, rd_wr_ne, own_wr_ne, mp_wr_ne, rd_wrm_ne, own_wrm_ne, mp_wrm_ne, rd_new_eq, own_new_eq, mp_newm_eq]
    · rw [wrap64 (n := (i : Int) + 1) (by omega) (by omega)]
      refine ⟨n' - (i + 1), by omega, trivial, i + 1, rfl, by omega, rfl, ?_⟩
      rw [List.take_add_one, List.take_add_one, hx, hy, heq, h3]
    · refine ⟨congrArg Value.bool (decide_eq_false (fun e => h3 ?_)).symm, rfl⟩
      rw [e, hy] at hx
      injection hx with hx
      exact hx.symm
  · have : i = n' := by omega
    subst this
    rw [List.take_of_length_le (by omega), List.take_of_length_le (by omega)] at heq
    exact ⟨congrArg Value.bool (decide_eq_true heq).symm, rfl⟩

set_option maxHeartbeats 2000000 in
theorem ref18_Decode_spec {H : Hp} {a : Option Addr} {n c : Nat} {ns : List Nat} (h : RdS H 1 (.slice a n c) n (u8s ns)) (hc : n ≤ c) (hns : ∀ c ∈ ns, c < 256) (hn : n ≤ 2000) :
    CallH Tryd.prog n_ref18_Decode [.slice a n c] H fun v H' => Post (Fresh H H' ∧ ∃ fp, Sl H' 4 v (decR ns).length (flatR (decR ns)) fp) := by
  have hl : ns.length = n := by have := h.1; rw [u8s_len] at this; omega
  refine c_ref18_Decode ⟨rfl, ?_⟩
  have f0 : Fresh H (H.new 40 []) := (Ext.refl _ _).new _ _
  have s0 : Sl (H.new 40 []) 4 (.slice (some ⟨H.size, 0, none⟩) 0 0) 0 (flatR []) (some H.size) := Sl.lit_at (size := 4) (n := 0) (xs := []) rfl rfl
  simp (disch := (first | omega | (simp only [size_new, size_newm, size_wr, size_wrm] <;> omega) | fail)) only [go_sem, Nat.reduceBEq, Nat.reduceAdd, Nat.reduceMul, Nat.reduceLeDiff, ↓reduceIte, rd_new_lt, own_new_lt, mp_new_lt, rd_newm_lt, own_newm_lt, mp_newm_lt, rd_wr_ne, own_wr_ne, mp_wr_ne, rd_wrm_ne, own_wrm_ne, mp_wrm_ne, rd_new_eq, own_new_eq, mp_newm_eq, s_ref18_Decode]
  generalize H.new 40 [] = H0 at *
  refine LoopV.intro (fun m env H' => Fresh H H' ∧ ∃ (i : Nat) (dn : List R) (v : Value) (b : Nat), m = n - i ∧ i ≤ n ∧ env = [(0, .slice a n c), (3, v), (4, i64 i)] ∧ decR ns = dn ++ decR (ns.drop i) ∧ dn.length ≤ i ∧ Sl H' 4 v dn.length (flatR dn) (some b) ∧ H.size ≤ b) n
    ⟨f0, 0, [], _, H.size, by omega, by omega, rfl, rfl, by simp, s0, by omega⟩ ?_
  rintro m env H1 ⟨f1, i, dn, v, bv, hm, hi, rfl, hdec, hlen, s1, hbv⟩
  have r1 := h.fresh f1
  have hdl : (ns.drop i).length = n - i := by rw [List.length_drop, hl]
  simp (disch := (first | omega | (simp only [size_new, size_newm, size_wr, size_wrm] <;> omega) | fail)) only [go_sem, Nat.reduceBEq, Nat.reduceAdd, Nat.reduceMul, Nat.reduceLeDiff, ↓reduceIte, rd_new_lt, own_new_lt, mp_new_lt, rd_newm_lt, own_newm_lt, mp_newm_lt, rd_wr_ne, own_wr_ne, mp_wr_ne, rd_wrm_ne, own_wrm_ne, mp_wrm_ne, rd_new_eq, own_new_eq, mp_newm_eq]
  refine Both.dec (fun h1 => ?_) (fun h1 => ?_) <;> simp (disch := (first | omega | (simp only [size_new, size_newm, size_wr, size_wrm] <;> omega) | fail)) only [go_sem, Nat.reduceBEq, Nat.reduceAdd, Nat.reduceMul, Nat.reduceLeDiff, ↓reduceIte, rd_new_lt, own_new_lt, mp_new_lt, rd_newm_lt, own_newm_lt, mp_newm_lt, rd_wr_ne, own_wr_ne, mp_wr_ne, rd_wrm_ne, own_wrm_ne, mp_wrm_ne, rd_new_eq, own_new_eq, mp_newm_eq]
  · rw [wrap64 (n := (n : Int) - (i : Int)) (by omega) (by omega)]
    refine Both.dec (fun h2 => ?_) (fun h2 => ?_) <;> simp (disch := (first | omega | (simp only [size_new, size_newm, size_wr, size_wrm] <;> omega) | fail)) only [go_sem, Nat.reduceBEq, Nat.reduceAdd, Nat.reduceMul, Nat.reduceLeDiff, ↓reduceIte, rd_new_lt, own_new_lt, mp_new_lt, rd_newm_lt, own_newm_lt, mp_newm_lt, rd_wr_ne, own_wr_ne, mp_wr_ne, rd_wrm_ne, own_wrm_ne, mp_wrm_ne, rd_new_eq, own_new_eq, mp_newm_eq]
    · have hne : ns.drop i ≠ [] := fun e => by rw [e] at hdl; simp at hdl; omega
      have f3 : Fresh H1 (H1.new 40 [i64 0, u32 0, u32 0, i64 0]) := (Ext.refl _ _).new _ _
      refine Sl.append (s1.ext f3 (fun _ _ h => h)) (Sl.lit_at (size := 4) (n := 1) (xs := flatR [⟨0, 0, 0, 0⟩]) rfl rfl).rd rfl (ones_rec _) (by omega) ?_
      intro v' H3 fp' s4 e4 hfp'
      simp (disch := (first | omega | (simp only [size_new, size_newm, size_wr, size_wrm] <;> omega) | fail)) only [go_sem, Nat.reduceBEq, Nat.reduceAdd, Nat.reduceMul, Nat.reduceLeDiff, ↓reduceIte, rd_new_lt, own_new_lt, mp_new_lt, rd_newm_lt, own_newm_lt, mp_newm_lt, rd_wr_ne, own_wr_ne, mp_wr_ne, rd_wrm_ne, own_wrm_ne, mp_wrm_ne, rd_new_eq, own_new_eq, mp_newm_eq]
      refine ⟨(f1.trans f3).then e4 (fun z (hz : some bv = some z) => by injection hz with hz; omega), fp', ?_⟩
      rw [hdec, decR_rest (by omega) hne, flatR_app, List.length_append]
      exact s4
    have hge : i + 17 ≤ n := by omega
    obtain ⟨x, hx⟩ : ∃ x, ns[i]? = some x := ⟨_, List.getElem?_eq_getElem (by omega)⟩
    obtain ⟨_, b, o, lb, rfl, hrd, hlb⟩ := RdS.byte r1 hx
    have wi1 : IntKind.i64.wrap ((i : Int) + 1) = ((i + 1 : Nat) : Int) := wrap64 (by omega) (by omega)
    have wi5 : IntKind.i64.wrap ((i : Int) + 5) = ((i + 5 : Nat) : Int) := wrap64 (by omega) (by omega)
    have wi9 : IntKind.i64.wrap ((i : Int) + 9) = ((i + 9 : Nat) : Int) := wrap64 (by omega) (by omega)
    have wi17 : IntKind.i64.wrap ((i : Int) + 17) = ((i + 17 : Nat) : Int) := wrap64 (by omega) (by omega)
    obtain ⟨a1, c1, e1, t1, _⟩ := sub_rd r1 (i + 1) (i + 5) (by omega) (by omega) hc _ _ rfl rfl
    obtain ⟨a2, c2, e2, t2, _⟩ := sub_rd r1 (i + 5) (i + 9) (by omega) (by omega) hc _ _ rfl rfl
    obtain ⟨a3, c3, e3, t3, _⟩ := sub_rd r1 (i + 9) (i + 17) (by omega) (by omega) hc _ _ rfl rfl
    rw [show i + 5 - (i + 1) = 4 by omega, show ns.drop (i + 1) = (ns.drop i).drop 1 by rw [List.drop_drop]] at t1
    rw [show i + 9 - (i + 5) = 4 by omega, show ns.drop (i + 5) = (ns.drop i).drop 5 by rw [List.drop_drop]] at t2
    rw [show i + 17 - (i + 9) = 8 by omega, show ns.drop (i + 9) = (ns.drop i).drop 9 by rw [List.drop_drop]] at t3
    rw [show i + 5 - (i + 1) = 4 by omega] at e1
    rw [show i + 9 - (i + 5) = 4 by omega] at e2
    rw [show i + 17 - (i + 9) = 8 by omega] at e3
    have hns' : ∀ c ∈ ns.drop i, c < 256 := fun c hc => hns c (List.mem_of_mem_drop hc)
    have p4 : (256 : Nat) ^ 4 = 4294967296 := by decide
    have p8 : (256 : Nat) ^ 8 = 18446744073709551616 := by decide
    have v1 := val_take_lt (l := (ns.drop i).drop 1) (fun c hc => hns' c (List.mem_of_mem_drop hc)) 4
    have v2 := val_take_lt (l := (ns.drop i).drop 5) (fun c hc => hns' c (List.mem_of_mem_drop hc)) 4
    have v3 := val_take_lt (l := (ns.drop i).drop 9) (fun c hc => hns' c (List.mem_of_mem_drop hc)) 8
    have hxl := hns x (List.mem_of_getElem? hx)
    have w0 : IntKind.i64.wrap (x : Int) = x := wrap64 (by omega) (by omega)
    have w1 : IntKind.u32.wrap (val (((ns.drop i).drop 1).take 4) : Int) = (val (((ns.drop i).drop 1).take 4) : Int) := wrapU32 (by omega) (by omega)
    have w2 : IntKind.u32.wrap (val (((ns.drop i).drop 5).take 4) : Int) = (val (((ns.drop i).drop 5).take 4) : Int) := wrapU32 (by omega) (by omega)
    have w3 : IntKind.i64.wrap (val (((ns.drop i).drop 9).take 8) : Int) = toS (val (((ns.drop i).drop 9).take 8)) := wrapI64_toS (by omega)
    refine InvV.intro (fun H' => Fresh H1 H') (Ext.refl _ _) ?_
    simp (disch := (first | omega | (simp only [size_new, size_newm, size_wr, size_wrm] <;> omega) | fail)) only [go_sem, Nat.reduceBEq, Nat.reduceAdd, Nat.reduceMul, Nat.reduceLeDiff, ↓reduceIte, rd_new_lt, own_new_lt, mp_new_lt, rd_newm_lt, own_newm_lt, mp_newm_lt, rd_wr_ne, own_wr_ne, mp_wr_ne, rd_wrm_ne, own_wrm_ne, mp_wrm_ne, rd_new_eq, own_new_eq, mp_newm_eq]
    refine ⟨⟨by omega, by omega⟩, ?_⟩
    simp (disch := (first | omega | (simp only [size_new, size_newm, size_wr, size_wrm] <;> omega) | fail)) only [go_sem, Nat.reduceBEq, Nat.reduceAdd, Nat.reduceMul, Nat.reduceLeDiff, ↓reduceIte, rd_new_lt, own_new_lt, mp_new_lt, rd_newm_lt, own_newm_lt, mp_newm_lt, rd_wr_ne, own_wr_ne, mp_wr_ne, rd_wrm_ne, own_wrm_ne, mp_wrm_ne, rd_new_eq, own_new_eq, mp_newm_eq, Int.toNat_natCast, Nat.mul_one]
    refine StbV.intro (.int .u8 (x : Int)) (fun H' hI => ?_) ?_
    · have hI' : Fresh H1 H' := hI
      simp (disch := (first | omega | (simp only [size_new, size_newm, size_wr, size_wrm] <;> omega) | fail)) only [go_sem, Nat.reduceBEq, Nat.reduceAdd, Nat.reduceMul, Nat.reduceLeDiff, ↓reduceIte, rd_new_lt, own_new_lt, mp_new_lt, rd_newm_lt, own_newm_lt, mp_newm_lt, rd_wr_ne, own_wr_ne, mp_wr_ne, rd_wrm_ne, own_wrm_ne, mp_wrm_ne, rd_new_eq, own_new_eq, mp_newm_eq, hI'.rd hrd (fun h => h)]
      refine withO_mk (v := .int .u8 (x : Int)) (by rw [Nat.mul_one]; exact hlb) ?_
      exact ⟨rfl, rfl⟩
    simp (disch := (first | omega | (simp only [size_new, size_newm, size_wr, size_wrm] <;> omega) | fail)) only [go_sem, Nat.reduceBEq, Nat.reduceAdd, Nat.reduceMul, Nat.reduceLeDiff, ↓reduceIte, rd_new_lt, own_new_lt, mp_new_lt, rd_newm_lt, own_newm_lt, mp_newm_lt, rd_wr_ne, own_wr_ne, mp_wr_ne, rd_wrm_ne, own_wrm_ne, mp_wrm_ne, rd_new_eq, own_new_eq, mp_newm_eq, wi1, wi5]
    refine ⟨⟨by omega, by omega, by omega, by omega⟩, ?_⟩
    simp (disch := (first | omega | (simp only [size_new, size_newm, size_wr, size_wrm] <;> omega) | fail)) only [go_sem, Nat.reduceBEq, Nat.reduceAdd, Nat.reduceMul, Nat.reduceLeDiff, ↓reduceIte, rd_new_lt, own_new_lt, mp_new_lt, rd_newm_lt, own_newm_lt, mp_newm_lt, rd_wr_ne, own_wr_ne, mp_wr_ne, rd_wrm_ne, own_wrm_ne, mp_wrm_ne, rd_new_eq, own_new_eq, mp_newm_eq]
    rw [e1]
    have num : ∀ {a' : Option Addr} {c' m : Nat} {l : List Nat}, RdS H1 1 (.slice a' m c') m (u8s l) → (∀ c ∈ l, c < 256) → m ≤ 8 → ∀ H', Fresh H1 H' → CallH Tryd.prog n_ref18_number [.slice a' m c'] H' fun v' H'' => v' = u64 (val l) ∧ H'' = H' := fun r hl hm H' hI =>
      (ref18_number_spec (r.fresh hI) hl hm).mono (by rintro _ _ ⟨rfl, rfl⟩; exact ⟨rfl, rfl⟩)
    refine StbV.intro (u64 (val (((ns.drop i).drop 1).take 4))) (fun H' hI => ?_) ?_
    · simp (disch := (first | omega | (simp only [size_new, size_newm, size_wr, size_wrm] <;> omega) | fail)) only [go_sem, Nat.reduceBEq, Nat.reduceAdd, Nat.reduceMul, Nat.reduceLeDiff, ↓reduceIte, rd_new_lt, own_new_lt, mp_new_lt, rd_newm_lt, own_newm_lt, mp_newm_lt, rd_wr_ne, own_wr_ne, mp_wr_ne, rd_wrm_ne, own_wrm_ne, mp_wrm_ne, rd_new_eq, own_new_eq, mp_newm_eq]
      exact num t1 (val_drop_lt hns' 1 4) (by omega) H' hI
    simp (disch := (first | omega | (simp only [size_new, size_newm, size_wr, size_wrm] <;> omega) | fail)) only [go_sem, Nat.reduceBEq, Nat.reduceAdd, Nat.reduceMul, Nat.reduceLeDiff, ↓reduceIte, rd_new_lt, own_new_lt, mp_new_lt, rd_newm_lt, own_newm_lt, mp_newm_lt, rd_wr_ne, own_wr_ne, mp_wr_ne, rd_wrm_ne, own_wrm_ne, mp_wrm_ne, rd_new_eq, own_new_eq, mp_newm_eq, wi5, wi9]
    refine ⟨⟨by omega, by omega, by omega, by omega⟩, ?_⟩
    simp (disch := (first | omega | (simp only [size_new, size_newm, size_wr, size_wrm] <;> omega) | fail)) only [go_sem, Nat.reduceBEq, Nat.reduceAdd, Nat.reduceMul, Nat.reduceLeDiff, ↓reduceIte, rd_new_lt, own_new_lt, mp_new_lt, rd_newm_lt, own_newm_lt, mp_newm_lt, rd_wr_ne, own_wr_ne, mp_wr_ne, rd_wrm_ne, own_wrm_ne, mp_wrm_ne, rd_new_eq, own_new_eq, mp_newm_eq]
    rw [e2]
    refine StbV.intro (u64 (val (((ns.drop i).drop 5).take 4))) (fun H' hI => ?_) ?_
    · simp (disch := (first | omega | (simp only [size_new, size_newm, size_wr, size_wrm] <;> omega) | fail)) only [go_sem, Nat.reduceBEq, Nat.reduceAdd, Nat.reduceMul, Nat.reduceLeDiff, ↓reduceIte, rd_new_lt, own_new_lt, mp_new_lt, rd_newm_lt, own_newm_lt, mp_newm_lt, rd_wr_ne, own_wr_ne, mp_wr_ne, rd_wrm_ne, own_wrm_ne, mp_wrm_ne, rd_new_eq, own_new_eq, mp_newm_eq]
      exact num t2 (val_drop_lt hns' 5 4) (by omega) H' hI
    simp (disch := (first | omega | (simp only [size_new, size_newm, size_wr, size_wrm] <;> omega) | fail)) only [go_sem, Nat.reduceBEq, Nat.reduceAdd, Nat.reduceMul, Nat.reduceLeDiff, ↓reduceIte, rd_new_lt, own_new_lt, mp_new_lt, rd_newm_lt, own_newm_lt, mp_newm_lt, rd_wr_ne, own_wr_ne, mp_wr_ne, rd_wrm_ne, own_wrm_ne, mp_wrm_ne, rd_new_eq, own_new_eq, mp_newm_eq, wi9, wi17]
    refine ⟨⟨by omega, by omega, by omega, by omega⟩, ?_⟩
    simp (disch := (first | omega | (simp only [size_new, size_newm, size_wr, size_wrm] <;> omega) | fail)) only [go_sem, Nat.reduceBEq, Nat.reduceAdd, Nat.reduceMul, Nat.reduceLeDiff, ↓reduceIte, rd_new_lt, own_new_lt, mp_new_lt, rd_newm_lt, own_newm_lt, mp_newm_lt, rd_wr_ne, own_wr_ne, mp_wr_ne, rd_wrm_ne, own_wrm_ne, mp_wrm_ne, rd_new_eq, own_new_eq, mp_newm_eq]
    rw [e3]
    refine StbV.intro (u64 (val (((ns.drop i).drop 9).take 8))) (fun H' hI => ?_) ?_
    · simp (disch := (first | omega | (simp only [size_new, size_newm, size_wr, size_wrm] <;> omega) | fail)) only [go_sem, Nat.reduceBEq, Nat.reduceAdd, Nat.reduceMul, Nat.reduceLeDiff, ↓reduceIte, rd_new_lt, own_new_lt, mp_new_lt, rd_newm_lt, own_newm_lt, mp_newm_lt, rd_wr_ne, own_wr_ne, mp_wr_ne, rd_wrm_ne, own_wrm_ne, mp_wrm_ne, rd_new_eq, own_new_eq, mp_newm_eq]
      exact num t3 (val_drop_lt hns' 9 8) (by omega) H' hI
    simp (disch := (first | omega | (simp only [size_new, size_newm, size_wr, size_wrm] <;> omega) | fail)) only [go_sem, Nat.reduceBEq, Nat.reduceAdd, Nat.reduceMul, Nat.reduceLeDiff, ↓reduceIte, rd_new_lt, own_new_lt, mp_new_lt, rd_newm_lt, own_newm_lt, mp_newm_lt, rd_wr_ne, own_wr_ne, mp_wr_ne, rd_wrm_ne, own_wrm_ne, mp_wrm_ne, rd_new_eq, own_new_eq, mp_newm_eq]
    have f2 : Fresh H1 (H1.new 40 [i64 0, u32 0, u32 0, i64 0]) := (Ext.refl _ _).new _ _
    refine And.intro f2 ?_
    have q5 := own_new H1 40 [i64 0, u32 0, u32 0, i64 0]
    simp (disch := (first | omega | (simp only [size_new, size_newm, size_wr, size_wrm] <;> omega) | fail)) only [go_sem, Nat.reduceBEq, Nat.reduceAdd, Nat.reduceMul, Nat.reduceLeDiff, ↓reduceIte, rd_new_lt, own_new_lt, mp_new_lt, rd_newm_lt, own_newm_lt, mp_newm_lt, rd_wr_ne, own_wr_ne, mp_wr_ne, rd_wrm_ne, own_wrm_ne, mp_wrm_ne, rd_new_eq, own_new_eq, mp_newm_eq, w0, w1, w2, w3, q5]
    have hl5 := own_lt q5
    have f3 : Fresh H1 ((H1.new 40 [i64 0, u32 0, u32 0, i64 0]).wr H1.size [i64 x, u32 (val (((ns.drop i).drop 1).take 4) : Nat), u32 (val (((ns.drop i).drop 5).take 4) : Nat), i64 (toS (val (((ns.drop i).drop 9).take 8)))]) := f2.wr (fun h => absurd h (Nat.lt_irrefl _)) _
    have q6 := own_wr_same (l := [i64 x, u32 (val (((ns.drop i).drop 1).take 4) : Nat), u32 (val (((ns.drop i).drop 5).take 4) : Nat), i64 (toS (val (((ns.drop i).drop 9).take 8)))]) q5
    refine And.intro f3 ?_
    simp (disch := (first | omega | (simp only [size_new, size_newm, size_wr, size_wrm] <;> omega) | fail)) only [go_sem, Nat.reduceBEq, Nat.reduceAdd, Nat.reduceMul, Nat.reduceLeDiff, ↓reduceIte, rd_new_lt, own_new_lt, mp_new_lt, rd_newm_lt, own_newm_lt, mp_newm_lt, rd_wr_ne, own_wr_ne, mp_wr_ne, rd_wrm_ne, own_wrm_ne, mp_wrm_ne, rd_new_eq, own_new_eq, mp_newm_eq]
    generalize hp5 : H1.size = p5 at *
    generalize (H1.new 40 [i64 0, u32 0, u32 0, i64 0]).wr p5 [i64 x, u32 (val (((ns.drop i).drop 1).take 4) : Nat), u32 (val (((ns.drop i).drop 5).take 4) : Nat), i64 (toS (val (((ns.drop i).drop 9).take 8)))] = H2 at *
    simp (disch := (first | omega | (simp only [size_new, size_newm, size_wr, size_wrm] <;> omega) | fail)) only [go_sem, Nat.reduceBEq, Nat.reduceAdd, Nat.reduceMul, Nat.reduceLeDiff, ↓reduceIte, rd_new_lt, own_new_lt, mp_new_lt, rd_newm_lt, own_newm_lt, mp_newm_lt, rd_wr_ne, own_wr_ne, mp_wr_ne, rd_wrm_ne, own_wrm_ne, mp_wrm_ne, rd_new_eq, own_new_eq, mp_newm_eq, rd_of_own q6]
    have hgd : (ns.drop i).getD 0 0 = x := by rw [List.getD_eq_getElem?_getD, List.getElem?_drop, Nat.add_zero, hx]; rfl
    have hfb : fromB (ns.drop i) = ⟨(x : Nat), val (((ns.drop i).drop 1).take 4), val (((ns.drop i).drop 5).take 4), toS (val (((ns.drop i).drop 9).take 8))⟩ := by unfold fromB; rw [hgd]
    refine (ref18_Clean_spec H2 x (val (((ns.drop i).drop 1).take 4)) (val (((ns.drop i).drop 5).take 4)) (toS (val (((ns.drop i).drop 9).take 8)))).mono ?_
    rintro _ H3 ⟨rfl, f4⟩
    have hcl := cleanV_R (fromB (ns.drop i))
    rw [hfb] at hcl
    rw [hcl, ← hfb]
    simp (disch := (first | omega | (simp only [size_new, size_newm, size_wr, size_wrm] <;> omega) | fail)) only [go_sem, Nat.reduceBEq, Nat.reduceAdd, Nat.reduceMul, Nat.reduceLeDiff, ↓reduceIte, rd_new_lt, own_new_lt, mp_new_lt, rd_newm_lt, own_newm_lt, mp_newm_lt, rd_wr_ne, own_wr_ne, mp_wr_ne, rd_wrm_ne, own_wrm_ne, mp_wrm_ne, rd_new_eq, own_new_eq, mp_newm_eq, cellsR]
    have f5 : Fresh H3 (H3.new 40 (cellsR (fromB (ns.drop i)).clean)) := (Ext.refl _ _).new _ _
    have f15 := f3.trans (f4.trans f5)
    refine Sl.append (s1.ext f15 (fun _ _ h => h)) (Sl.lit_at (size := 4) (n := 1) (xs := flatR [(fromB (ns.drop i)).clean]) rfl rfl).rd rfl (ones_rec _) (by omega) ?_
    intro v' H4 fp' s4 e4 hfp'
    simp (disch := (first | omega | (simp only [size_new, size_newm, size_wr, size_wrm] <;> omega) | fail)) only [go_sem, Nat.reduceBEq, Nat.reduceAdd, Nat.reduceMul, Nat.reduceLeDiff, ↓reduceIte, rd_new_lt, own_new_lt, mp_new_lt, rd_newm_lt, own_newm_lt, mp_newm_lt, rd_wr_ne, own_wr_ne, mp_wr_ne, rd_wrm_ne, own_wrm_ne, mp_wrm_ne, rd_new_eq, own_new_eq, mp_newm_eq, wi17]
    have fH4 : Fresh H H4 := (f1.trans f15).then e4 (fun z (hz : some bv = some z) => by injection hz with hz; omega)
    obtain ⟨b', rfl, hb'⟩ : ∃ b', fp' = some b' ∧ H.size ≤ b' := by
      rcases hfp' with h' | ⟨b', h', g1, g2⟩
      · exact ⟨bv, h', hbv⟩
      · exact ⟨b', h', Nat.le_trans (f1.trans f15).size g1⟩
    refine ⟨n - (i + 17), by omega, fH4, i + 17, dn ++ [(fromB (ns.drop i)).clean], v', b', rfl, by omega, rfl, ?_, by rw [List.length_append]; show dn.length + 1 ≤ _; omega, by rw [flatR_app, List.length_append]; exact s4, hb'⟩
    rw [hdec, decR_step (by omega), List.append_assoc, List.drop_drop]
    rfl
  · have : i = n := by omega
    subst this
    rw [List.drop_of_length_le (by omega), decR_nil, List.append_nil] at hdec
    exact ⟨f1, some bv, by rw [hdec]; exact s1⟩

end Go.Proofs.YtapoboiofpmheaaDoor
