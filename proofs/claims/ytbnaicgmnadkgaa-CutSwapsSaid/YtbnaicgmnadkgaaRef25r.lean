/-
  The document's row between two vertices.
-/
import Derived.Test.YtbnaicgmnadkgaaRef25
set_option linter.unusedVariables false
set_option linter.unusedSimpArgs false
namespace Go.Proofs.Ytbnaicgmnadkgaa
open Go Go.Vc

/-- The way from u to v in a forest: no edge twice. -/
structure RowG (es : List Ed) (ks : List Int) (u v : Nat) (l : List Int) : Prop where
  way : Way (fE es) u v l
  sub : ∀ i ∈ l, i ∈ ks
  nd : l.Nodup

theorem RowG.cons {es : List Ed} {ks : List Int} {u v : Nat} {i : Int} {l : List Int} (h : RowG es ks u v (i :: l)) : Touch (fE es i) u ∧ RowG es ks (other (fE es i) u) v l := by
  obtain ⟨h1, h2, h3⟩ := h
  cases h1 with
  | cons _ _ _ _ t h => exact ⟨t, h, fun j hj => h2 j (List.mem_cons_of_mem _ hj), (List.nodup_cons.1 h3).2⟩
theorem RowG.nil {es : List Ed} {ks : List Int} {u v : Nat} (h : RowG es ks u v []) : u = v := by
  obtain ⟨h1, _, _⟩ := h
  cases h1
  rfl

/-- Of the edges that touch u just the first of the way is one without which u and v hang together no more. -/
theorem RowG.first {n : Int} {es : List Ed} {ks : List Int} {u v : Nat} {i : Int} {l : List Int} (hr : RightG n es) (hs : SpanG n es ks) (h : RowG es ks u v (i :: l)) {k : Nat} {i' : Int} (hk : ks[k]? = some i') (t : Touch (fE es i') u) :
    Sep (fE es) ks k u v ↔ i' = i := by
  have hb := hs.bound hr
  constructor
  · intro s
    obtain ⟨k2, hk2⟩ := List.getElem?_of_mem (h.sub i (by simp))
    have s2 := h.way.sep hs.acyc hb h.sub h.nd hk2 (by simp)
    have := sep_one hs.acyc hb hk2 hk (h.way.hang h.sub) h.cons.1 t s2 s
    subst this
    rw [hk2] at hk
    injection hk with hk
    exact hk.symm
  · rintro rfl
    exact h.way.sep hs.acyc hb h.sub h.nd hk (by simp)

theorem but_ints (ks : List Int) (k : Nat) (hk : k < ks.length) : ((ks.drop 0).take k) ++ ((ks.drop (k + 1)).take (ks.length - (k + 1))) = but ks k := by
  unfold but
  rw [List.drop_zero, List.take_of_length_le (l := ks.drop (k + 1)) (by rw [List.length_drop]; omega)]

set_option maxHeartbeats 8000000 in
theorem ref25_Row_spec {H : Hp} {n x y : Int} {a a' : Option Addr} {c c' : Nat} {es : List Ed} {ks : List Int} (h : RdS H 3 (.slice a es.length c) es.length (flatE es)) (h' : RdS H 1 (.slice a' ks.length c') ks.length (ks.map i64)) (hc' : ks.length ≤ c')
    (hm : es.length ≤ 1000000000) (hl : ks.length ≤ 1000000) {l : List Int} (hway : SpR n es ks → 0 ≤ x ∧ x < n ∧ 0 ≤ y ∧ y < n → Hang (ks.map (fE es)) x.toNat y.toNat → RowG es ks x.toNat y.toNat l) :
    CallH Try.prog n_ref25_Row [grV n (.slice a es.length c), .slice a' ks.length c', i64 x, i64 y] H fun v H' => Post (Fresh H H' ∧
      ((¬ (SpR n es ks ∧ (0 ≤ x ∧ x < n ∧ 0 ≤ y ∧ y < n) ∧ Hang (ks.map (fE es)) x.toNat y.toNat) ∧ v = .tuple [.slice none 0 0, .bool false].toArray) ∨
       ((SpR n es ks ∧ (0 ≤ x ∧ x < n ∧ 0 ≤ y ∧ y < n) ∧ Hang (ks.map (fE es)) x.toNat y.toNat) ∧ ∃ s b, H.size ≤ b ∧ v = .tuple [s, .bool true].toArray ∧ Sl H' 1 s l.length (l.map i64) (some b)))) := by
  refine c_ref25_Row ⟨rfl, ?_⟩
  have f0 : Fresh H (H.new 24 [i64 n, .slice a es.length c]) := (Ext.refl _ _).new _ _
  have b0 := own_new H 24 [i64 n, .slice a es.length c]
  simp (disch := (first | omega | (simp only [size_new, size_newm, size_wr, size_wrm] <;> omega) | fail)) only [go_sem, Nat.reduceBEq, Nat.reduceAdd, Nat.reduceMul, Nat.reduceLeDiff, ↓reduceIte, rd_new_lt, own_new_lt, mp_new_lt, rd_newm_lt, own_newm_lt, mp_newm_lt, rd_wr_ne, own_wr_ne, mp_wr_ne, rd_wrm_ne, own_wrm_ne, mp_wrm_ne, rd_new_eq, own_new_eq, mp_newm_eq, s_ref25_Row, grV]
  generalize H.new 24 [i64 n, .slice a es.length c] = H0 at *
  refine (ref25_Spans_spec (h.fresh f0) (h'.fresh f0) hc' hm (by omega)).mono ?_
  rintro _ H1 ⟨f1, b, rfl, hb⟩
  have b1 := f1.own b0 (fun h => h)
  have f01 := f0.trans f1
  simp (disch := (first | omega | (simp only [size_new, size_newm, size_wr, size_wrm] <;> omega) | fail)) only [go_sem, Nat.reduceBEq, Nat.reduceAdd, Nat.reduceMul, Nat.reduceLeDiff, ↓reduceIte, rd_new_lt, own_new_lt, mp_new_lt, rd_newm_lt, own_newm_lt, mp_newm_lt, rd_wr_ne, own_wr_ne, mp_wr_ne, rd_wrm_ne, own_wrm_ne, mp_wrm_ne, rd_new_eq, own_new_eq, mp_newm_eq]
  cases b
  · simp (disch := (first | omega | (simp only [size_new, size_newm, size_wr, size_wrm] <;> omega) | fail)) only [go_sem, Nat.reduceBEq, Nat.reduceAdd, Nat.reduceMul, Nat.reduceLeDiff, ↓reduceIte, rd_new_lt, own_new_lt, mp_new_lt, rd_newm_lt, own_newm_lt, mp_newm_lt, rd_wr_ne, own_wr_ne, mp_wr_ne, rd_wrm_ne, own_wrm_ne, mp_wrm_ne, rd_new_eq, own_new_eq, mp_newm_eq, Bool.not_false]
    exact ⟨f01, .inl ⟨fun hs => absurd (hb.2 hs.1) (by simp), rfl⟩⟩
  have hsp := hb.1 rfl
  have hr := (rightG_iff n es).1 hsp.1
  have hn0 := hr.n0
  have hn1 := hr.n1
  simp (disch := (first | omega | (simp only [size_new, size_newm, size_wr, size_wrm] <;> omega) | fail)) only [go_sem, Nat.reduceBEq, Nat.reduceAdd, Nat.reduceMul, Nat.reduceLeDiff, ↓reduceIte, rd_new_lt, own_new_lt, mp_new_lt, rd_newm_lt, own_newm_lt, mp_newm_lt, rd_wr_ne, own_wr_ne, mp_wr_ne, rd_wrm_ne, own_wrm_ne, mp_wrm_ne, rd_new_eq, own_new_eq, mp_newm_eq, Bool.not_true]
  refine Both.dec (fun g1 => ?_) (fun g1 => ?_) <;> simp (disch := (first | omega | (simp only [size_new, size_newm, size_wr, size_wrm] <;> omega) | fail)) only [go_sem, Nat.reduceBEq, Nat.reduceAdd, Nat.reduceMul, Nat.reduceLeDiff, ↓reduceIte, rd_new_lt, own_new_lt, mp_new_lt, rd_newm_lt, own_newm_lt, mp_newm_lt, rd_wr_ne, own_wr_ne, mp_wr_ne, rd_wrm_ne, own_wrm_ne, mp_wrm_ne, rd_new_eq, own_new_eq, mp_newm_eq]
  · exact ⟨f01, .inl ⟨fun hs => by omega, rfl⟩⟩
  refine Both.dec (fun g2 => ?_) (fun g2 => ?_) <;> simp (disch := (first | omega | (simp only [size_new, size_newm, size_wr, size_wrm] <;> omega) | fail)) only [go_sem, Nat.reduceBEq, Nat.reduceAdd, Nat.reduceMul, Nat.reduceLeDiff, ↓reduceIte, rd_new_lt, own_new_lt, mp_new_lt, rd_newm_lt, own_newm_lt, mp_newm_lt, rd_wr_ne, own_wr_ne, mp_wr_ne, rd_wrm_ne, own_wrm_ne, mp_wrm_ne, rd_new_eq, own_new_eq, mp_newm_eq, rd_of_own b1]
  · exact ⟨f01, .inl ⟨fun hs => by omega, rfl⟩⟩
  refine Both.dec (fun g3 => ?_) (fun g3 => ?_) <;> simp (disch := (first | omega | (simp only [size_new, size_newm, size_wr, size_wrm] <;> omega) | fail)) only [go_sem, Nat.reduceBEq, Nat.reduceAdd, Nat.reduceMul, Nat.reduceLeDiff, ↓reduceIte, rd_new_lt, own_new_lt, mp_new_lt, rd_newm_lt, own_newm_lt, mp_newm_lt, rd_wr_ne, own_wr_ne, mp_wr_ne, rd_wrm_ne, own_wrm_ne, mp_wrm_ne, rd_new_eq, own_new_eq, mp_newm_eq, rd_of_own b1]
  · exact ⟨f01, .inl ⟨fun hs => by omega, rfl⟩⟩
  refine Both.dec (fun g4 => ?_) (fun g4 => ?_) <;> simp (disch := (first | omega | (simp only [size_new, size_newm, size_wr, size_wrm] <;> omega) | fail)) only [go_sem, Nat.reduceBEq, Nat.reduceAdd, Nat.reduceMul, Nat.reduceLeDiff, ↓reduceIte, rd_new_lt, own_new_lt, mp_new_lt, rd_newm_lt, own_newm_lt, mp_newm_lt, rd_wr_ne, own_wr_ne, mp_wr_ne, rd_wrm_ne, own_wrm_ne, mp_wrm_ne, rd_new_eq, own_new_eq, mp_newm_eq, rd_of_own b1]
  · exact ⟨f01, .inl ⟨fun hs => by omega, rfl⟩⟩
  obtain ⟨u, rfl⟩ : ∃ u : Nat, x = u := ⟨x.toNat, by omega⟩
  obtain ⟨w, rfl⟩ : ∃ u : Nat, y = u := ⟨y.toNat, by omega⟩
  rw [Int.toNat_natCast, Int.toNat_natCast] at *
  refine (ref24_Parts_spec (h.fresh f01) (h'.fresh f01) hr hsp.2.ins (by omega)).mono ?_
  rintro v2 H2 ⟨f2, bp, hbp, s2⟩
  have b2 := f2.own b1 (fun h => h)
  have f02 := f01.trans f2
  obtain ⟨pa, pc, rfl, _⟩ := slv_val s2
  obtain ⟨_, rfl, lp, hop, hp1⟩ := Sl.num s2 (partL_get (ks.map (fE es)) (v := u) (by omega))
  obtain ⟨_, _, lp', hop', hp2⟩ := Sl.num s2 (partL_get (ks.map (fE es)) (v := w) (by omega))
  rw [hop] at hop'
  injection hop' with hop'
  subst hop'
  simp (disch := (first | omega | (simp only [size_new, size_newm, size_wr, size_wrm] <;> omega) | fail)) only [go_sem, Nat.reduceBEq, Nat.reduceAdd, Nat.reduceMul, Nat.reduceLeDiff, ↓reduceIte, rd_new_lt, own_new_lt, mp_new_lt, rd_newm_lt, own_newm_lt, mp_newm_lt, rd_wr_ne, own_wr_ne, mp_wr_ne, rd_wrm_ne, own_wrm_ne, mp_wrm_ne, rd_new_eq, own_new_eq, mp_newm_eq]
  refine ⟨⟨by omega, by omega⟩, ?_⟩
  simp (disch := (first | omega | (simp only [size_new, size_newm, size_wr, size_wrm] <;> omega) | fail)) only [go_sem, Nat.reduceBEq, Nat.reduceAdd, Nat.reduceMul, Nat.reduceLeDiff, ↓reduceIte, rd_new_lt, own_new_lt, mp_new_lt, rd_newm_lt, own_newm_lt, mp_newm_lt, rd_wr_ne, own_wr_ne, mp_wr_ne, rd_wrm_ne, own_wrm_ne, mp_wrm_ne, rd_new_eq, own_new_eq, mp_newm_eq, rd_of_own hop, Int.toNat_natCast, Nat.mul_one, Nat.zero_add, hp1]
  refine ⟨⟨by omega, by omega⟩, ?_⟩
  simp (disch := (first | omega | (simp only [size_new, size_newm, size_wr, size_wrm] <;> omega) | fail)) only [go_sem, Nat.reduceBEq, Nat.reduceAdd, Nat.reduceMul, Nat.reduceLeDiff, ↓reduceIte, rd_new_lt, own_new_lt, mp_new_lt, rd_newm_lt, own_newm_lt, mp_newm_lt, rd_wr_ne, own_wr_ne, mp_wr_ne, rd_wrm_ne, own_wrm_ne, mp_wrm_ne, rd_new_eq, own_new_eq, mp_newm_eq, rd_of_own hop, Int.toNat_natCast, Nat.mul_one, Nat.zero_add, hp2]
  have hdec : ((partF (ks.map (fE es)) u : Nat) : Int) = ((partF (ks.map (fE es)) w : Nat) : Int) ↔ Hang (ks.map (fE es)) u w := by
    rw [Int.ofNat_inj]; exact Iff.rfl
  refine Both.dec (fun g5 => ?_) (fun g5 => ?_) <;> simp (disch := (first | omega | (simp only [size_new, size_newm, size_wr, size_wrm] <;> omega) | fail)) only [go_sem, Nat.reduceBEq, Nat.reduceAdd, Nat.reduceMul, Nat.reduceLeDiff, ↓reduceIte, rd_new_lt, own_new_lt, mp_new_lt, rd_newm_lt, own_newm_lt, mp_newm_lt, rd_wr_ne, own_wr_ne, mp_wr_ne, rd_wrm_ne, own_wrm_ne, mp_wrm_ne, rd_new_eq, own_new_eq, mp_newm_eq]
  rotate_left
  · exact ⟨f02, .inl ⟨fun hs => g5 (hdec.2 hs.2.2), rfl⟩⟩
  have hh := hdec.1 g5
  have hR := hway hsp ⟨by omega, by omega, by omega, by omega⟩ hh
  have hlln : l.length ≤ 1000000 := by
    have h1 : l.length ≤ ks.length := (List.Nodup.length_le_of_subset hR.nd hR.sub)
    omega
  have sl0 : Sl (H2.new 3 []) 1 (.slice (some ⟨H2.size, 0, none⟩) 0 0) (l.take 0).length ((l.take 0).map i64) (some H2.size) := Sl.lit_at (size := 1) (n := 0) (xs := []) rfl rfl
  have fo : Fresh H2 (H2.new 3 []) := (Ext.refl _ _).new _ _
  have b3 := fo.own b2 (fun h => h)
  have hz2 := own_lt b2
  have f03 := f02.trans fo
  generalize H2.new 3 [] = H3 at *
  refine LoopV.intro (fun m env H' => Fresh H H' ∧ H'.own H.size = some [i64 n, .slice a es.length c] ∧ ∃ (j : Nat) (z : Nat) (wv : Value) (b : Nat), m = l.length - j ∧ j ≤ l.length ∧ z < n.toNat ∧ RowG es ks z w (l.drop j) ∧ H.size + 1 ≤ b ∧ Sl H' 1 wv (l.take j).length ((l.take j).map i64) (some b) ∧
    env = [(1, .slice a' ks.length c'), (3, i64 w), (4, ptr H.size), (11, wv), (12, i64 z)]) l.length ⟨f03, b3, 0, u, _, H2.size, by omega, by omega, by omega, hR, by omega, sl0, rfl⟩ ?_
  clear sl0 b3 fo b0 f0 b1 b2 f02 f03 s2 hop hp1 hp2
  rintro m env H4 ⟨f4, b4, j, z, wv, b, hmj, hj, hz, hRj, hbb, s4, rfl⟩
  have hz4 := own_lt b4
  simp (disch := (first | omega | (simp only [size_new, size_newm, size_wr, size_wrm] <;> omega) | fail)) only [go_sem, Nat.reduceBEq, Nat.reduceAdd, Nat.reduceMul, Nat.reduceLeDiff, ↓reduceIte, rd_new_lt, own_new_lt, mp_new_lt, rd_newm_lt, own_newm_lt, mp_newm_lt, rd_wr_ne, own_wr_ne, mp_wr_ne, rd_wrm_ne, own_wrm_ne, mp_wrm_ne, rd_new_eq, own_new_eq, mp_newm_eq]
  refine Both.dec (fun hzw => ?_) (fun hzw => ?_) <;> simp (disch := (first | omega | (simp only [size_new, size_newm, size_wr, size_wrm] <;> omega) | fail)) only [go_sem, Nat.reduceBEq, Nat.reduceAdd, Nat.reduceMul, Nat.reduceLeDiff, ↓reduceIte, rd_new_lt, own_new_lt, mp_new_lt, rd_newm_lt, own_newm_lt, mp_newm_lt, rd_wr_ne, own_wr_ne, mp_wr_ne, rd_wrm_ne, own_wrm_ne, mp_wrm_ne, rd_new_eq, own_new_eq, mp_newm_eq]
  · have hzw' : z = w := by omega
    subst hzw'
    have hjl : j = l.length := by
      cases hd : l.drop j with
      | nil => have := congrArg List.length hd; rw [List.length_drop] at this; simp at this; omega
      | cons i r =>
        exfalso
        rw [hd] at hRj
        obtain ⟨k, hk⟩ := List.getElem?_of_mem (hRj.sub i (by simp))
        exact hRj.way.sep hsp.2.acyc (hsp.2.bound hr) hRj.sub hRj.nd hk (by simp) Hang.rfl
    subst hjl
    rw [List.take_length] at s4
    exact ⟨f4, .inr ⟨⟨hsp, ⟨by omega, by omega, by omega, by omega⟩, hh⟩, wv, b, by omega, rfl, s4⟩⟩
  have hzw' : z ≠ w := by omega
  obtain ⟨i, r, hd⟩ : ∃ i r, l.drop j = i :: r := by
    cases hd : l.drop j with
    | nil => rw [hd] at hRj; exact absurd hRj.nil hzw'
    | cons i r => exact ⟨i, r, rfl⟩
  have hj2 : j < l.length := by
    have := congrArg List.length hd
    rw [List.length_drop] at this
    simp at this
    omega
  have hlj : l[j]? = some i := by
    have h1 : (l.drop j)[0]? = some i := by rw [hd]; rfl
    rw [List.getElem?_drop, Nat.add_zero] at h1
    exact h1
  have hdr1 : l.drop (j + 1) = r := by
    have h1 : (l.drop j).drop 1 = r := by rw [hd]; rfl
    rw [List.drop_drop] at h1
    exact h1
  rw [hd] at hRj
  have hiks := hRj.sub i (by simp)
  refine LoopV.intro (fun m2 env H' => Fresh H H' ∧ H'.own H.size = some [i64 n, .slice a es.length c] ∧ Sl H' 1 wv (l.take j).length ((l.take j).map i64) (some b) ∧ ∃ (k : Nat), m2 = ks.length - k ∧ k ≤ ks.length ∧ (∀ k', k' < k → ks[k']? ≠ some i) ∧
    env = [(1, .slice a' ks.length c'), (3, i64 w), (4, ptr H.size), (11, wv), (12, i64 z), (59, .slice a' ks.length c'), (60, i64 ks.length), (61, i64 k)]) ks.length ⟨f4, b4, s4, 0, by omega, by omega, by omega, rfl⟩ ?_
  clear s4 b4 f4 hz4
  rintro m2 env H5 ⟨f5, b5, s5, k, hm2, hk, hno, rfl⟩
  have hz5 := own_lt b5
  have h5 := h.fresh f5
  have h5' := h'.fresh f5
  simp (disch := (first | omega | (simp only [size_new, size_newm, size_wr, size_wrm] <;> omega) | fail)) only [go_sem, Nat.reduceBEq, Nat.reduceAdd, Nat.reduceMul, Nat.reduceLeDiff, ↓reduceIte, rd_new_lt, own_new_lt, mp_new_lt, rd_newm_lt, own_newm_lt, mp_newm_lt, rd_wr_ne, own_wr_ne, mp_wr_ne, rd_wrm_ne, own_wrm_ne, mp_wrm_ne, rd_new_eq, own_new_eq, mp_newm_eq]
  refine Both.dec (fun hlt => ?_) (fun hlt => ?_) <;> simp (disch := (first | omega | (simp only [size_new, size_newm, size_wr, size_wrm] <;> omega) | fail)) only [go_sem, Nat.reduceBEq, Nat.reduceAdd, Nat.reduceMul, Nat.reduceLeDiff, ↓reduceIte, rd_new_lt, own_new_lt, mp_new_lt, rd_newm_lt, own_newm_lt, mp_newm_lt, rd_wr_ne, own_wr_ne, mp_wr_ne, rd_wrm_ne, own_wrm_ne, mp_wrm_ne, rd_new_eq, own_new_eq, mp_newm_eq]
  rotate_left
  · exfalso
    obtain ⟨k', hk'⟩ := List.getElem?_of_mem hiks
    have := (List.getElem?_eq_some_iff.1 hk').1
    exact hno k' (by omega) hk'
  obtain ⟨i', hi'⟩ : ∃ x, ks[k]? = some x := ⟨_, List.getElem?_eq_getElem (by omega)⟩
  obtain ⟨ik, e, rfl, he, hikl⟩ := (hsp.2.ins i' (List.mem_of_getElem? hi')).get
  obtain ⟨ef0, ef1, et0, et1⟩ := hr.ends e (List.mem_of_getElem? he)
  obtain ⟨_, bk, ok, lk, rfl, hrdk, hck⟩ := RdS.num h5' hi'
  obtain ⟨_, be, oe, le, rfl, hrde, hle, hcells, hc0, hc1, hc2⟩ := RdS.edgeAt h5 he
  refine ⟨⟨by omega, by omega⟩, ?_⟩
  simp (disch := (first | omega | (simp only [size_new, size_newm, size_wr, size_wrm] <;> omega) | fail)) only [go_sem, Nat.reduceBEq, Nat.reduceAdd, Nat.reduceMul, Nat.reduceLeDiff, ↓reduceIte, rd_new_lt, own_new_lt, mp_new_lt, rd_newm_lt, own_newm_lt, mp_newm_lt, rd_wr_ne, own_wr_ne, mp_wr_ne, rd_wrm_ne, own_wrm_ne, mp_wrm_ne, rd_new_eq, own_new_eq, mp_newm_eq, hrdk, Int.toNat_natCast, Nat.mul_one, hck, rd_of_own b5]
  refine ⟨⟨by omega, by omega⟩, ?_⟩
  simp (disch := (first | omega | (simp only [size_new, size_newm, size_wr, size_wrm] <;> omega) | fail)) only [go_sem, Nat.reduceBEq, Nat.reduceAdd, Nat.reduceMul, Nat.reduceLeDiff, ↓reduceIte, rd_new_lt, own_new_lt, mp_new_lt, rd_newm_lt, own_newm_lt, mp_newm_lt, rd_wr_ne, own_wr_ne, mp_wr_ne, rd_wrm_ne, own_wrm_ne, mp_wrm_ne, rd_new_eq, own_new_eq, mp_newm_eq, hrde, Int.toNat_natCast, hcells, cellsE]
  refine ⟨by omega, ?_⟩
  have q2 := own_new H5 35 [i64 0, i64 0, i64 0]
  simp (disch := (first | omega | (simp only [size_new, size_newm, size_wr, size_wrm] <;> omega) | fail)) only [go_sem, Nat.reduceBEq, Nat.reduceAdd, Nat.reduceMul, Nat.reduceLeDiff, ↓reduceIte, rd_new_lt, own_new_lt, mp_new_lt, rd_newm_lt, own_newm_lt, mp_newm_lt, rd_wr_ne, own_wr_ne, mp_wr_ne, rd_wrm_ne, own_wrm_ne, mp_wrm_ne, rd_new_eq, own_new_eq, mp_newm_eq, hcells, cellsE, q2]
  have q3 := own_wr_same (l := [i64 e.f, i64 e.t, i64 e.w]) q2
  have f6 : Fresh H5 ((H5.new 35 [i64 0, i64 0, i64 0]).wr H5.size [i64 e.f, i64 e.t, i64 e.w]) := ((Ext.refl _ _).new _ _ : Fresh H5 _).then ((Ext.refl (fun z => z = H5.size) _).wr (fun _ => rfl) _) (fun z hz => by omega)
  have hz6 : ((H5.new 35 [i64 0, i64 0, i64 0]).wr H5.size [i64 e.f, i64 e.t, i64 e.w]).size = H5.size + 1 := by rw [size_wr, size_new]
  generalize (H5.new 35 [i64 0, i64 0, i64 0]).wr H5.size [i64 e.f, i64 e.t, i64 e.w] = H6 at *
  have b6 := f6.own b5 (fun h => h)
  have s6 := s5.ext f6 (fun _ _ h => h)
  have hw1 := wrap64 (n := (k : Int) + 1) (by omega) (by omega)
  have hfE := fE_at he
  simp (disch := (first | omega | (simp only [size_new, size_newm, size_wr, size_wrm] <;> omega) | fail)) only [go_sem, Nat.reduceBEq, Nat.reduceAdd, Nat.reduceMul, Nat.reduceLeDiff, ↓reduceIte, rd_new_lt, own_new_lt, mp_new_lt, rd_newm_lt, own_newm_lt, mp_newm_lt, rd_wr_ne, own_wr_ne, mp_wr_ne, rd_wrm_ne, own_wrm_ne, mp_wrm_ne, rd_new_eq, own_new_eq, mp_newm_eq, rd_of_own q3]
  -- the edges that do not touch, and those that part nothing, are passed
  have pass : ∀ (H' : Hp), Fresh H5 H' → (ik : Int) ≠ i → ks.length - (k + 1) < m2 ∧ Fresh H H' ∧ H'.own H.size = some [i64 n, .slice (some ⟨be, oe, none⟩) es.length c] ∧ Sl H' 1 wv (l.take j).length ((l.take j).map i64) (some b) ∧ ∀ k', k' < k + 1 → ks[k']? ≠ some i := by
    intro H' f' hne
    refine ⟨by omega, f5.trans f', f'.own b5 (fun h => h), s5.ext f' (fun _ _ h => h), fun k' hk' => ?_⟩
    by_cases hkk : k' = k
    · subst hkk; rw [hi']; intro e'; injection e' with e'; exact hne e'
    · exact hno k' (by omega)
  have ntouch : ¬ (e.f = (z : Int)) → ¬ (e.t = (z : Int)) → (ik : Int) ≠ i := by
    rintro g1 g2 rfl
    have t := hRj.cons.1
    rw [hfE] at t
    unfold Touch at t
    simp only at t
    omega
  refine Both.dec (fun g1 => ?_) (fun g1 => ?_) <;> simp (disch := (first | omega | (simp only [size_new, size_newm, size_wr, size_wrm] <;> omega) | fail)) only [go_sem, Nat.reduceBEq, Nat.reduceAdd, Nat.reduceMul, Nat.reduceLeDiff, ↓reduceIte, rd_new_lt, own_new_lt, mp_new_lt, rd_newm_lt, own_newm_lt, mp_newm_lt, rd_wr_ne, own_wr_ne, mp_wr_ne, rd_wrm_ne, own_wrm_ne, mp_wrm_ne, rd_new_eq, own_new_eq, mp_newm_eq, rd_of_own q3]
  · have gt : e.f = (z : Int) ∨ e.t = (z : Int) := .inl g1
    obtain ⟨a5, hv5, hr5, hc5, hl5⟩ := slc_ints (h5'.fresh f6) (lo := 0) (hi := k) (lo' := ((0 : Nat) : Int)) (hi' := (k : Int)) rfl rfl (by omega) (by omega) hc'
    rw [List.drop_zero, Nat.sub_zero] at hr5 hl5
    obtain ⟨a6, hv6, hr6, hc6, hl6⟩ := slc_ints (h5'.fresh f6) (lo := k + 1) (hi := ks.length) (lo' := (k : Int) + 1) (hi' := (ks.length : Int)) (by omega) rfl (by omega) (by omega) hc'
    rw [List.take_of_length_le (by rw [List.length_drop]; omega)] at hr6
    have hz6' := own_lt b6
    have fl : Fresh H6 (H6.new 3 []) := (Ext.refl _ _).new _ _
    have sl : Sl (H6.new 3 []) 1 (.slice (some ⟨H6.size, 0, none⟩) 0 0) ([] : List Int).length (([] : List Int).map i64) (some H6.size) := Sl.lit_at (size := 1) (n := 0) (xs := []) rfl rfl
    have hr5' := hr5.fresh fl
    have b7 := fl.own b6 (fun h => h)
    refine ⟨⟨by omega, by omega, by omega, by omega⟩, ?_⟩
    simp (disch := (first | omega | (simp only [size_new, size_newm, size_wr, size_wrm] <;> omega) | fail)) only [go_sem, Nat.reduceBEq, Nat.reduceAdd, Nat.reduceMul, Nat.reduceLeDiff, ↓reduceIte, rd_new_lt, own_new_lt, mp_new_lt, rd_newm_lt, own_newm_lt, mp_newm_lt, rd_wr_ne, own_wr_ne, mp_wr_ne, rd_wrm_ne, own_wrm_ne, mp_wrm_ne, rd_new_eq, own_new_eq, mp_newm_eq]
    rw [hv5]
    have hz7 : (H6.new 3 []).size = H6.size + 1 := by rw [size_new]
    generalize H6.new 3 [] = H7 at *
    refine pushL (B := H6.size) (xs := []) (ys := ks.take k) (fun b hb => by injection hb with hb; omega) (by omega) sl (by rw [hl5]; exact hr5') (by simp; omega) ?_
    intro w8 H8 fp8 hfp8 s8 e8
    rw [List.nil_append] at s8
    have b8 := e8.own b7 (fun h => by omega)
    obtain ⟨w8a, w8c, rfl, _⟩ := slv_val s8
    simp (disch := (first | omega | (simp only [size_new, size_newm, size_wr, size_wrm] <;> omega) | fail)) only [go_sem, Nat.reduceBEq, Nat.reduceAdd, Nat.reduceMul, Nat.reduceLeDiff, ↓reduceIte, rd_new_lt, own_new_lt, mp_new_lt, rd_newm_lt, own_newm_lt, mp_newm_lt, rd_wr_ne, own_wr_ne, mp_wr_ne, rd_wrm_ne, own_wrm_ne, mp_wrm_ne, rd_new_eq, own_new_eq, mp_newm_eq]
    rw [hw1]
    have f68 : Fresh H6 H8 := fl.then e8 (fun z hz => hz)
    refine ⟨⟨by omega, by omega, by omega, by omega⟩, ?_⟩
    simp (disch := (first | omega | (simp only [size_new, size_newm, size_wr, size_wrm] <;> omega) | fail)) only [go_sem, Nat.reduceBEq, Nat.reduceAdd, Nat.reduceMul, Nat.reduceLeDiff, ↓reduceIte, rd_new_lt, own_new_lt, mp_new_lt, rd_newm_lt, own_newm_lt, mp_newm_lt, rd_wr_ne, own_wr_ne, mp_wr_ne, rd_wrm_ne, own_wrm_ne, mp_wrm_ne, rd_new_eq, own_new_eq, mp_newm_eq]
    rw [hv6]
    refine pushL (B := H6.size) (ys := ks.drop (k + 1)) hfp8 f68.size s8 (by have := hr6.fresh f68; rw [List.length_drop]; exact this) (by simp; omega) ?_
    intro w9 H9 fp9 hfp9 s9 e9
    have b9 := e9.own b8 (fun h => by omega)
    have f69 : Fresh H6 H9 := f68.then e9 (fun z hz => hz)
    have f59 := f6.trans f69
    obtain ⟨w9a, w9c, rfl, hw9c⟩ := slv_val s9
    have ebut : ks.take k ++ ks.drop (k + 1) = but ks k := rfl
    rw [ebut] at s9
    have hbl : (but ks k).length ≤ ks.length := (but_sub ks k).length_le
    simp (disch := (first | omega | (simp only [size_new, size_newm, size_wr, size_wrm] <;> omega) | fail)) only [go_sem, Nat.reduceBEq, Nat.reduceAdd, Nat.reduceMul, Nat.reduceLeDiff, ↓reduceIte, rd_new_lt, own_new_lt, mp_new_lt, rd_newm_lt, own_newm_lt, mp_newm_lt, rd_wr_ne, own_wr_ne, mp_wr_ne, rd_wrm_ne, own_wrm_ne, mp_wrm_ne, rd_new_eq, own_new_eq, mp_newm_eq, rd_of_own b9]
    refine (ref24_Parts_spec (ks := but ks k) (h5.fresh f59) s9.rd hr (fun i hi => hsp.2.ins i ((but_sub ks k).subset hi)) (by omega)).mono ?_
    rintro vA HA ⟨fA, bA', hbA, sA⟩
    have bA := fA.own b9 (fun h => h)
    obtain ⟨pa, pc, rfl, _⟩ := slv_val sA
    obtain ⟨_, rfl, lp, hop, hp1⟩ := Sl.num sA (partL_get ((but ks k).map (fE es)) (v := z) (by omega))
    obtain ⟨_, _, lp', hop', hp2⟩ := Sl.num sA (partL_get ((but ks k).map (fE es)) (v := w) (by omega))
    rw [hop] at hop'
    injection hop' with hop'
    subst hop'
    have f5A := f59.trans fA
    have qA := (f69.trans fA).own q3 (fun h => h)
    simp (disch := (first | omega | (simp only [size_new, size_newm, size_wr, size_wrm] <;> omega) | fail)) only [go_sem, Nat.reduceBEq, Nat.reduceAdd, Nat.reduceMul, Nat.reduceLeDiff, ↓reduceIte, rd_new_lt, own_new_lt, mp_new_lt, rd_newm_lt, own_newm_lt, mp_newm_lt, rd_wr_ne, own_wr_ne, mp_wr_ne, rd_wrm_ne, own_wrm_ne, mp_wrm_ne, rd_new_eq, own_new_eq, mp_newm_eq]
    refine ⟨⟨by omega, by omega⟩, ?_⟩
    simp (disch := (first | omega | (simp only [size_new, size_newm, size_wr, size_wrm] <;> omega) | fail)) only [go_sem, Nat.reduceBEq, Nat.reduceAdd, Nat.reduceMul, Nat.reduceLeDiff, ↓reduceIte, rd_new_lt, own_new_lt, mp_new_lt, rd_newm_lt, own_newm_lt, mp_newm_lt, rd_wr_ne, own_wr_ne, mp_wr_ne, rd_wrm_ne, own_wrm_ne, mp_wrm_ne, rd_new_eq, own_new_eq, mp_newm_eq, rd_of_own hop, Int.toNat_natCast, Nat.mul_one, Nat.zero_add, hp1]
    refine ⟨⟨by omega, by omega⟩, ?_⟩
    simp (disch := (first | omega | (simp only [size_new, size_newm, size_wr, size_wrm] <;> omega) | fail)) only [go_sem, Nat.reduceBEq, Nat.reduceAdd, Nat.reduceMul, Nat.reduceLeDiff, ↓reduceIte, rd_new_lt, own_new_lt, mp_new_lt, rd_newm_lt, own_newm_lt, mp_newm_lt, rd_wr_ne, own_wr_ne, mp_wr_ne, rd_wrm_ne, own_wrm_ne, mp_wrm_ne, rd_new_eq, own_new_eq, mp_newm_eq, rd_of_own hop, Int.toNat_natCast, Nat.mul_one, Nat.zero_add, hp2]
    have hfirst := hRj.first hr hsp.2 hi' (by rw [hfE]; unfold Touch; simp only; omega)
    refine Both.dec (fun g3 => ?_) (fun g3 => ?_) <;> simp (disch := (first | omega | (simp only [size_new, size_newm, size_wr, size_wrm] <;> omega) | fail)) only [go_sem, Nat.reduceBEq, Nat.reduceAdd, Nat.reduceMul, Nat.reduceLeDiff, ↓reduceIte, rd_new_lt, own_new_lt, mp_new_lt, rd_newm_lt, own_newm_lt, mp_newm_lt, rd_wr_ne, own_wr_ne, mp_wr_ne, rd_wrm_ne, own_wrm_ne, mp_wrm_ne, rd_new_eq, own_new_eq, mp_newm_eq]
    · have hne : (ik : Int) ≠ i := fun e' => hfirst.2 e' (by show partF _ _ = partF _ _; omega)
      rw [hw1]
      obtain ⟨p1, p2, p3, p4, p7⟩ := pass HA f5A hne
      exact ⟨_, p1, p2, p3, p4, k + 1, rfl, by omega, p7, rfl⟩
    · have heq : (ik : Int) = i := hfirst.1 fun hh' => g3 (by have : partF ((but ks k).map (fE es)) z = partF ((but ks k).map (fE es)) w := hh'; rw [this])
      have hwo : IntKind.i64.wrap (e.f + e.t) = e.f + e.t := wrap64 (by omega) (by omega)
      have hoth : ((other (fE es ik) z : Nat) : Int) = e.f + e.t - (z : Int) := by rw [hfE]; unfold other; simp only; omega
      have hwo2 : IntKind.i64.wrap (e.f + e.t - (z : Int)) = ((other (fE es ik) z : Nat) : Int) := by rw [hoth]; exact wrap64 (by omega) (by omega)
      have hb5 := Sl.lt s5
      refine pushE (s5.ext f5A (fun _ _ h => h)) _ (by rw [List.length_take]; omega) ?_
      intro w' HB b' hb' s' e'
      have hzA := own_lt bA
      have qB := e'.own qA (fun h => by omega)
      have bB := e'.own bA (fun h => by omega)
      have hb'' : H.size + 1 ≤ b' := by rcases hb' with h | h <;> omega
      have htk : l.take (j + 1) = l.take j ++ [(ik : Int)] := by rw [List.take_add_one, hlj, heq]; rfl
      rw [← htk] at s'
      have hbe := hsp.2.bound hr _ (heq ▸ hiks)
      simp (disch := (first | omega | (simp only [size_new, size_newm, size_wr, size_wrm] <;> omega) | fail)) only [go_sem, Nat.reduceBEq, Nat.reduceAdd, Nat.reduceMul, Nat.reduceLeDiff, ↓reduceIte, rd_new_lt, own_new_lt, mp_new_lt, rd_newm_lt, own_newm_lt, mp_newm_lt, rd_wr_ne, own_wr_ne, mp_wr_ne, rd_wrm_ne, own_wrm_ne, mp_wrm_ne, rd_new_eq, own_new_eq, mp_newm_eq, rd_of_own qB]
      rw [hwo, hwo2]
      refine ⟨l.length - (j + 1), by omega, (f5.trans f5A).then e' (fun z hz => by omega), bB, j + 1, other (fE es ik) z, w', b', rfl, by omega, ?_, ?_, hb'', s', rfl⟩
      · have t : Touch (fE es ik) z := by rw [hfE]; unfold Touch; simp only; omega
        unfold other Touch at *
        omega
      · rw [hdr1, heq]
        exact hRj.cons.2
  · refine Both.dec (fun g2 => ?_) (fun g2 => ?_) <;> simp (disch := (first | omega | (simp only [size_new, size_newm, size_wr, size_wrm] <;> omega) | fail)) only [go_sem, Nat.reduceBEq, Nat.reduceAdd, Nat.reduceMul, Nat.reduceLeDiff, ↓reduceIte, rd_new_lt, own_new_lt, mp_new_lt, rd_newm_lt, own_newm_lt, mp_newm_lt, rd_wr_ne, own_wr_ne, mp_wr_ne, rd_wrm_ne, own_wrm_ne, mp_wrm_ne, rd_new_eq, own_new_eq, mp_newm_eq, rd_of_own q3]
    · have gt : e.f = (z : Int) ∨ e.t = (z : Int) := .inr g2
      obtain ⟨a5, hv5, hr5, hc5, hl5⟩ := slc_ints (h5'.fresh f6) (lo := 0) (hi := k) (lo' := ((0 : Nat) : Int)) (hi' := (k : Int)) rfl rfl (by omega) (by omega) hc'
      rw [List.drop_zero, Nat.sub_zero] at hr5 hl5
      obtain ⟨a6, hv6, hr6, hc6, hl6⟩ := slc_ints (h5'.fresh f6) (lo := k + 1) (hi := ks.length) (lo' := (k : Int) + 1) (hi' := (ks.length : Int)) (by omega) rfl (by omega) (by omega) hc'
      rw [List.take_of_length_le (by rw [List.length_drop]; omega)] at hr6
      have hz6' := own_lt b6
      have fl : Fresh H6 (H6.new 3 []) := (Ext.refl _ _).new _ _
      have sl : Sl (H6.new 3 []) 1 (.slice (some ⟨H6.size, 0, none⟩) 0 0) ([] : List Int).length (([] : List Int).map i64) (some H6.size) := Sl.lit_at (size := 1) (n := 0) (xs := []) rfl rfl
      have hr5' := hr5.fresh fl
      have b7 := fl.own b6 (fun h => h)
      refine ⟨⟨by omega, by omega, by omega, by omega⟩, ?_⟩
      simp (disch := (first | omega | (simp only [size_new, size_newm, size_wr, size_wrm] <;> omega) | fail)) only [go_sem, Nat.reduceBEq, Nat.reduceAdd, Nat.reduceMul, Nat.reduceLeDiff, ↓reduceIte, rd_new_lt, own_new_lt, mp_new_lt, rd_newm_lt, own_newm_lt, mp_newm_lt, rd_wr_ne, own_wr_ne, mp_wr_ne, rd_wrm_ne, own_wrm_ne, mp_wrm_ne, rd_new_eq, own_new_eq, mp_newm_eq]
      rw [hv5]
      have hz7 : (H6.new 3 []).size = H6.size + 1 := by rw [size_new]
      generalize H6.new 3 [] = H7 at *
      refine pushL (B := H6.size) (xs := []) (ys := ks.take k) (fun b hb => by injection hb with hb; omega) (by omega) sl (by rw [hl5]; exact hr5') (by simp; omega) ?_
      intro w8 H8 fp8 hfp8 s8 e8
      rw [List.nil_append] at s8
      have b8 := e8.own b7 (fun h => by omega)
      obtain ⟨w8a, w8c, rfl, _⟩ := slv_val s8
      simp (disch := (first | omega | (simp only [size_new, size_newm, size_wr, size_wrm] <;> omega) | fail)) only [go_sem, Nat.reduceBEq, Nat.reduceAdd, Nat.reduceMul, Nat.reduceLeDiff, ↓reduceIte, rd_new_lt, own_new_lt, mp_new_lt, rd_newm_lt, own_newm_lt, mp_newm_lt, rd_wr_ne, own_wr_ne, mp_wr_ne, rd_wrm_ne, own_wrm_ne, mp_wrm_ne, rd_new_eq, own_new_eq, mp_newm_eq]
      rw [hw1]
      have f68 : Fresh H6 H8 := fl.then e8 (fun z hz => hz)
      refine ⟨⟨by omega, by omega, by omega, by omega⟩, ?_⟩
      simp (disch := (first | omega | (simp only [size_new, size_newm, size_wr, size_wrm] <;> omega) | fail)) only [go_sem, Nat.reduceBEq, Nat.reduceAdd, Nat.reduceMul, Nat.reduceLeDiff, ↓reduceIte, rd_new_lt, own_new_lt, mp_new_lt, rd_newm_lt, own_newm_lt, mp_newm_lt, rd_wr_ne, own_wr_ne, mp_wr_ne, rd_wrm_ne, own_wrm_ne, mp_wrm_ne, rd_new_eq, own_new_eq, mp_newm_eq]
      rw [hv6]
      refine pushL (B := H6.size) (ys := ks.drop (k + 1)) hfp8 f68.size s8 (by have := hr6.fresh f68; rw [List.length_drop]; exact this) (by simp; omega) ?_
      intro w9 H9 fp9 hfp9 s9 e9
      have b9 := e9.own b8 (fun h => by omega)
      have f69 : Fresh H6 H9 := f68.then e9 (fun z hz => hz)
      have f59 := f6.trans f69
      obtain ⟨w9a, w9c, rfl, hw9c⟩ := slv_val s9
      have ebut : ks.take k ++ ks.drop (k + 1) = but ks k := rfl
      rw [ebut] at s9
      have hbl : (but ks k).length ≤ ks.length := (but_sub ks k).length_le
      simp (disch := (first | omega | (simp only [size_new, size_newm, size_wr, size_wrm] <;> omega) | fail)) only [go_sem, Nat.reduceBEq, Nat.reduceAdd, Nat.reduceMul, Nat.reduceLeDiff, ↓reduceIte, rd_new_lt, own_new_lt, mp_new_lt, rd_newm_lt, own_newm_lt, mp_newm_lt, rd_wr_ne, own_wr_ne, mp_wr_ne, rd_wrm_ne, own_wrm_ne, mp_wrm_ne, rd_new_eq, own_new_eq, mp_newm_eq, rd_of_own b9]
      refine (ref24_Parts_spec (ks := but ks k) (h5.fresh f59) s9.rd hr (fun i hi => hsp.2.ins i ((but_sub ks k).subset hi)) (by omega)).mono ?_
      rintro vA HA ⟨fA, bA', hbA, sA⟩
      have bA := fA.own b9 (fun h => h)
      obtain ⟨pa, pc, rfl, _⟩ := slv_val sA
      obtain ⟨_, rfl, lp, hop, hp1⟩ := Sl.num sA (partL_get ((but ks k).map (fE es)) (v := z) (by omega))
      obtain ⟨_, _, lp', hop', hp2⟩ := Sl.num sA (partL_get ((but ks k).map (fE es)) (v := w) (by omega))
      rw [hop] at hop'
      injection hop' with hop'
      subst hop'
      have f5A := f59.trans fA
      have qA := (f69.trans fA).own q3 (fun h => h)
      simp (disch := (first | omega | (simp only [size_new, size_newm, size_wr, size_wrm] <;> omega) | fail)) only [go_sem, Nat.reduceBEq, Nat.reduceAdd, Nat.reduceMul, Nat.reduceLeDiff, ↓reduceIte, rd_new_lt, own_new_lt, mp_new_lt, rd_newm_lt, own_newm_lt, mp_newm_lt, rd_wr_ne, own_wr_ne, mp_wr_ne, rd_wrm_ne, own_wrm_ne, mp_wrm_ne, rd_new_eq, own_new_eq, mp_newm_eq]
      refine ⟨⟨by omega, by omega⟩, ?_⟩
      simp (disch := (first | omega | (simp only [size_new, size_newm, size_wr, size_wrm] <;> omega) | fail)) only [go_sem, Nat.reduceBEq, Nat.reduceAdd, Nat.reduceMul, Nat.reduceLeDiff, ↓reduceIte, rd_new_lt, own_new_lt, mp_new_lt, rd_newm_lt, own_newm_lt, mp_newm_lt, rd_wr_ne, own_wr_ne, mp_wr_ne, rd_wrm_ne, own_wrm_ne, mp_wrm_ne, rd_new_eq, own_new_eq, mp_newm_eq, rd_of_own hop, Int.toNat_natCast, Nat.mul_one, Nat.zero_add, hp1]
      refine ⟨⟨by omega, by omega⟩, ?_⟩
      simp (disch := (first | omega | (simp only [size_new, size_newm, size_wr, size_wrm] <;> omega) | fail)) only [go_sem, Nat.reduceBEq, Nat.reduceAdd, Nat.reduceMul, Nat.reduceLeDiff, ↓reduceIte, rd_new_lt, own_new_lt, mp_new_lt, rd_newm_lt, own_newm_lt, mp_newm_lt, rd_wr_ne, own_wr_ne, mp_wr_ne, rd_wrm_ne, own_wrm_ne, mp_wrm_ne, rd_new_eq, own_new_eq, mp_newm_eq, rd_of_own hop, Int.toNat_natCast, Nat.mul_one, Nat.zero_add, hp2]
      have hfirst := hRj.first hr hsp.2 hi' (by rw [hfE]; unfold Touch; simp only; omega)
      refine Both.dec (fun g3 => ?_) (fun g3 => ?_) <;> simp (disch := (first | omega | (simp only [size_new, size_newm, size_wr, size_wrm] <;> omega) | fail)) only [go_sem, Nat.reduceBEq, Nat.reduceAdd, Nat.reduceMul, Nat.reduceLeDiff, ↓reduceIte, rd_new_lt, own_new_lt, mp_new_lt, rd_newm_lt, own_newm_lt, mp_newm_lt, rd_wr_ne, own_wr_ne, mp_wr_ne, rd_wrm_ne, own_wrm_ne, mp_wrm_ne, rd_new_eq, own_new_eq, mp_newm_eq]
      · have hne : (ik : Int) ≠ i := fun e' => hfirst.2 e' (by show partF _ _ = partF _ _; omega)
        rw [hw1]
        obtain ⟨p1, p2, p3, p4, p7⟩ := pass HA f5A hne
        exact ⟨_, p1, p2, p3, p4, k + 1, rfl, by omega, p7, rfl⟩
      · have heq : (ik : Int) = i := hfirst.1 fun hh' => g3 (by have : partF ((but ks k).map (fE es)) z = partF ((but ks k).map (fE es)) w := hh'; rw [this])
        have hwo : IntKind.i64.wrap (e.f + e.t) = e.f + e.t := wrap64 (by omega) (by omega)
        have hoth : ((other (fE es ik) z : Nat) : Int) = e.f + e.t - (z : Int) := by rw [hfE]; unfold other; simp only; omega
        have hwo2 : IntKind.i64.wrap (e.f + e.t - (z : Int)) = ((other (fE es ik) z : Nat) : Int) := by rw [hoth]; exact wrap64 (by omega) (by omega)
        have hb5 := Sl.lt s5
        refine pushE (s5.ext f5A (fun _ _ h => h)) _ (by rw [List.length_take]; omega) ?_
        intro w' HB b' hb' s' e'
        have hzA := own_lt bA
        have qB := e'.own qA (fun h => by omega)
        have bB := e'.own bA (fun h => by omega)
        have hb'' : H.size + 1 ≤ b' := by rcases hb' with h | h <;> omega
        have htk : l.take (j + 1) = l.take j ++ [(ik : Int)] := by rw [List.take_add_one, hlj, heq]; rfl
        rw [← htk] at s'
        have hbe := hsp.2.bound hr _ (heq ▸ hiks)
        simp (disch := (first | omega | (simp only [size_new, size_newm, size_wr, size_wrm] <;> omega) | fail)) only [go_sem, Nat.reduceBEq, Nat.reduceAdd, Nat.reduceMul, Nat.reduceLeDiff, ↓reduceIte, rd_new_lt, own_new_lt, mp_new_lt, rd_newm_lt, own_newm_lt, mp_newm_lt, rd_wr_ne, own_wr_ne, mp_wr_ne, rd_wrm_ne, own_wrm_ne, mp_wrm_ne, rd_new_eq, own_new_eq, mp_newm_eq, rd_of_own qB]
        rw [hwo, hwo2]
        refine ⟨l.length - (j + 1), by omega, (f5.trans f5A).then e' (fun z hz => by omega), bB, j + 1, other (fE es ik) z, w', b', rfl, by omega, ?_, ?_, hb'', s', rfl⟩
        · have t : Touch (fE es ik) z := by rw [hfE]; unfold Touch; simp only; omega
          unfold other Touch at *
          omega
        · rw [hdr1, heq]
          exact hRj.cons.2
    · rw [hw1]
      obtain ⟨p1, p2, p3, p4, p7⟩ := pass H6 f6 (ntouch g1 g2)
      exact ⟨_, p1, p2, p3, p4, k + 1, rfl, by omega, p7, rfl⟩

end Go.Proofs.Ytbnaicgmnadkgaa
