/-
  Which vertices hang together by some edges: the program's way.
-/
import Derived.Test.YtbnaicgmnadkgaaCutQ
import Derived.Test.YtbnaicgmnadkgaaNames
import Derived.Test.YtbnaicgmnadkgaaMeet
set_option linter.unusedVariables false
set_option linter.unusedSimpArgs false
namespace Go.Proofs.Ytbnaicgmnadkgaa
open Go Go.Vc

theorem NamesAt.root {H : Hp} {b s len : Nat} {rt : Nat → Nat} {most : Int} (h : NamesAt H b s len rt most) {i : Nat} (hi : i < len) : rt (rt i) = rt i ∧ rt i < len ∧ (0 < i → 0 < rt i) := by
  obtain ⟨sv, into, cnt, a1, a2, ⟨d, a4⟩, a5⟩ := h.rep
  refine ⟨a4.idem i (by omega), by have := a4.low i (by omega); omega, fun h0 => ?_⟩
  rcases Nat.eq_zero_or_pos (rt i) with h | h
  · have := a4.nz i (by omega) h; omega
  · exact h
theorem NamesAt.lt {H : Hp} {b s len : Nat} {rt : Nat → Nat} {most : Int} (h : NamesAt H b s len rt most) : b < H.size ∧ s < H.size := by
  obtain ⟨sv, into, cnt, a1, a2, _⟩ := h.rep
  exact ⟨own_lt a1, Sl.lt a2⟩

/-- Those of one name hang together. -/
def TellsH (n : Nat) (rt : Nat → Nat) (ks : List E2) : Prop := ∀ u v, u < n → v < n → (rt (u + 1) = rt (v + 1) ↔ Hang ks u v)

/-- One edge more. -/
theorem TellsH.join {n : Nat} {rt : Nat → Nat} {ks : List E2} {e : E2} (h : TellsH n rt ks) (h1 : e.1 < n) (h2 : e.2 < n) : TellsH n (fun i => if rt i = rt (e.2 + 1) then rt (e.1 + 1) else rt i) (ks ++ [e]) := by
  intro u v hu hv
  rw [hang_snoc, ← h u v hu hv, ← h u e.1 hu h1, ← h v e.2 hv h2, ← h u e.2 hu h2, ← h v e.1 hv h1]
  simp only
  split <;> split <;> omega

set_option maxHeartbeats 4000000 in
theorem cut_parts_spec {H : Hp} {n : Int} {a a' : Option Addr} {c c' : Nat} {es : List Ed} {ks : List Int} (h : RdS H 3 (.slice a es.length c) es.length (flatE es)) (h' : RdS H 1 (.slice a' ks.length c') ks.length (ks.map i64))
    (hr : RightG n es) (hl : ks.length ≤ 1000000) :
    CallH Try.prog n_cut_parts [grV n (.slice a es.length c), .slice a' ks.length c'] H fun v H' => Post (Fresh H H' ∧
      ((¬ ((∀ i ∈ ks, InE es i) ∧ Acyc (ks.map (fE es))) ∧ v = .tuple [.pointer none, .bool false].toArray) ∨
       (((∀ i ∈ ks, InE es i) ∧ Acyc (ks.map (fE es))) ∧ ∃ b s rt, v = .tuple [ptr b, .bool true].toArray ∧ H.size ≤ b ∧ H.size ≤ s ∧ NamesAt H' b s (n.toNat + 1) rt n ∧ TellsH n.toNat rt (ks.map (fE es))))) := by
  refine c_cut_parts ⟨rfl, ?_⟩
  have hn0 := hr.n0
  have hn1 := hr.n1
  have f0 : Fresh H (H.new 24 [i64 n, .slice a es.length c]) := (Ext.refl _ _).new _ _
  have b0 := own_new H 24 [i64 n, .slice a es.length c]
  have hz0 : (H.new 24 [i64 n, .slice a es.length c]).size = H.size + 1 := by rw [size_new]
  simp (disch := (first | omega | (simp only [size_new, size_newm, size_wr, size_wrm] <;> omega) | fail)) only [go_sem, Nat.reduceBEq, Nat.reduceAdd, Nat.reduceMul, Nat.reduceLeDiff, ↓reduceIte, rd_new_lt, own_new_lt, mp_new_lt, rd_newm_lt, own_newm_lt, mp_newm_lt, rd_wr_ne, own_wr_ne, mp_wr_ne, rd_wrm_ne, own_wrm_ne, mp_wrm_ne, rd_new_eq, own_new_eq, mp_newm_eq, s_cut_parts, grV]
  generalize H.new 24 [i64 n, .slice a es.length c] = H0 at *
  refine (names_New_spec n H0).mono ?_
  rintro _ H1 ⟨f1, ⟨hbad, _⟩ | ⟨_, b, s, rfl, hN, hb, hs, _, _⟩⟩
  · omega
  have b1 := f1.own b0 (fun h => h)
  simp (disch := (first | omega | (simp only [size_new, size_newm, size_wr, size_wrm] <;> omega) | fail)) only [go_sem, Nat.reduceBEq, Nat.reduceAdd, Nat.reduceMul, Nat.reduceLeDiff, ↓reduceIte, rd_new_lt, own_new_lt, mp_new_lt, rd_newm_lt, own_newm_lt, mp_newm_lt, rd_wr_ne, own_wr_ne, mp_wr_ne, rd_wrm_ne, own_wrm_ne, mp_wrm_ne, rd_new_eq, own_new_eq, mp_newm_eq, rd_of_own b1]
  refine LoopV.intro (fun m env H' => Fresh H H' ∧ H'.own H.size = some [i64 n, .slice a es.length c] ∧ ∃ (k s' : Nat) (rt : Nat → Nat), m = n.toNat - k ∧ k ≤ n.toNat ∧ H.size + 1 ≤ s' ∧ NamesAt H' b s' (k + 1) rt n ∧ (∀ i, i < k + 1 → rt i = i) ∧
    env = [(1, .slice a' ks.length c'), (2, ptr H.size), (6, ptr b), (21, i64 n), (22, i64 k)]) n.toNat ⟨f0.trans f1, b1, 0, s, id, by omega, by omega, by omega, hN, fun i _ => rfl, rfl⟩ ?_
  clear hN b1 f1 b0 f0
  rintro m env H2 ⟨f2, b2, k, s', rt, hm, hk, hs', hN, hid, rfl⟩
  have hz2 := own_lt b2
  simp (disch := (first | omega | (simp only [size_new, size_newm, size_wr, size_wrm] <;> omega) | fail)) only [go_sem, Nat.reduceBEq, Nat.reduceAdd, Nat.reduceMul, Nat.reduceLeDiff, ↓reduceIte, rd_new_lt, own_new_lt, mp_new_lt, rd_newm_lt, own_newm_lt, mp_newm_lt, rd_wr_ne, own_wr_ne, mp_wr_ne, rd_wrm_ne, own_wrm_ne, mp_wrm_ne, rd_new_eq, own_new_eq, mp_newm_eq]
  refine Both.dec (fun hlt => ?_) (fun hlt => ?_) <;> simp (disch := (first | omega | (simp only [size_new, size_newm, size_wr, size_wrm] <;> omega) | fail)) only [go_sem, Nat.reduceBEq, Nat.reduceAdd, Nat.reduceMul, Nat.reduceLeDiff, ↓reduceIte, rd_new_lt, own_new_lt, mp_new_lt, rd_newm_lt, own_newm_lt, mp_newm_lt, rd_wr_ne, own_wr_ne, mp_wr_ne, rd_wrm_ne, own_wrm_ne, mp_wrm_ne, rd_new_eq, own_new_eq, mp_newm_eq]
  · refine (names_Make_spec hN).mono ?_
    rintro _ H3 (⟨hmost, _⟩ | ⟨_, rfl, s3, hN3, e3, hs3⟩)
    · omega
    simp (disch := (first | omega | (simp only [size_new, size_newm, size_wr, size_wrm] <;> omega) | fail)) only [go_sem, Nat.reduceBEq, Nat.reduceAdd, Nat.reduceMul, Nat.reduceLeDiff, ↓reduceIte, rd_new_lt, own_new_lt, mp_new_lt, rd_newm_lt, own_newm_lt, mp_newm_lt, rd_wr_ne, own_wr_ne, mp_wr_ne, rd_wrm_ne, own_wrm_ne, mp_wrm_ne, rd_new_eq, own_new_eq, mp_newm_eq]
    rw [wrap64 (n := (k : Int) + 1) (by omega) (by omega)]
    refine ⟨n.toNat - (k + 1), by omega, f2.then e3 (fun z hz => by omega), e3.own b2 (fun h => by omega), k + 1, s3, _, rfl, by omega, by omega, hN3, fun i hi => ?_, rfl⟩
    split
    · omega
    · exact hid i (by omega)
  have hkn : k = n.toNat := by omega
  subst hkn
  have hT0 : TellsH n.toNat rt ((ks.take 0).map (fE es)) := fun u v hu hv => by
    rw [hid _ (by omega), hid _ (by omega)]
    show _ ↔ (u = v)
    omega
  refine LoopV.intro (fun m env H' => Fresh H H' ∧ H'.own H.size = some [i64 n, .slice a es.length c] ∧ ∃ (j : Nat) (rt : Nat → Nat), m = ks.length - j ∧ j ≤ ks.length ∧ NamesAt H' b s' (n.toNat + 1) rt n ∧ (∀ i ∈ ks.take j, InE es i) ∧ Acyc ((ks.take j).map (fE es)) ∧ TellsH n.toNat rt ((ks.take j).map (fE es)) ∧
    env = [(2, ptr H.size), (6, ptr b), (27, .slice a' ks.length c'), (28, i64 ks.length), (29, i64 j)]) ks.length ⟨f2, b2, 0, rt, by omega, by omega, hN, by simp, .nil, hT0, rfl⟩ ?_
  clear hN b2 f2 hT0 hid hm hk hlt hz2
  rintro m env H3 ⟨f3, b3, j, rt, hm, hj, hN, hin, hac, hT, rfl⟩
  have hz3 := own_lt b3
  have h3 := h.fresh f3
  have h3' := h'.fresh f3
  simp (disch := (first | omega | (simp only [size_new, size_newm, size_wr, size_wrm] <;> omega) | fail)) only [go_sem, Nat.reduceBEq, Nat.reduceAdd, Nat.reduceMul, Nat.reduceLeDiff, ↓reduceIte, rd_new_lt, own_new_lt, mp_new_lt, rd_newm_lt, own_newm_lt, mp_newm_lt, rd_wr_ne, own_wr_ne, mp_wr_ne, rd_wrm_ne, own_wrm_ne, mp_wrm_ne, rd_new_eq, own_new_eq, mp_newm_eq]
  refine Both.dec (fun hlt => ?_) (fun hlt => ?_) <;> simp (disch := (first | omega | (simp only [size_new, size_newm, size_wr, size_wrm] <;> omega) | fail)) only [go_sem, Nat.reduceBEq, Nat.reduceAdd, Nat.reduceMul, Nat.reduceLeDiff, ↓reduceIte, rd_new_lt, own_new_lt, mp_new_lt, rd_newm_lt, own_newm_lt, mp_newm_lt, rd_wr_ne, own_wr_ne, mp_wr_ne, rd_wrm_ne, own_wrm_ne, mp_wrm_ne, rd_new_eq, own_new_eq, mp_newm_eq]
  rotate_left
  · have hj2 : j = ks.length := by omega
    subst hj2
    rw [List.take_length] at hin hac hT
    exact ⟨f3, .inr ⟨⟨hin, hac⟩, b, s', rt, rfl, by omega, by omega, hN, hT⟩⟩
  obtain ⟨i, hi⟩ : ∃ x, ks[j]? = some x := ⟨_, List.getElem?_eq_getElem (by omega)⟩
  have hmem := List.mem_of_getElem? hi
  obtain ⟨_, bx, o, lb, rfl, hrd, hcell⟩ := RdS.num h3' hi
  refine ⟨⟨by omega, by omega⟩, ?_⟩
  simp (disch := (first | omega | (simp only [size_new, size_newm, size_wr, size_wrm] <;> omega) | fail)) only [go_sem, Nat.reduceBEq, Nat.reduceAdd, Nat.reduceMul, Nat.reduceLeDiff, ↓reduceIte, rd_new_lt, own_new_lt, mp_new_lt, rd_newm_lt, own_newm_lt, mp_newm_lt, rd_wr_ne, own_wr_ne, mp_wr_ne, rd_wrm_ne, own_wrm_ne, mp_wrm_ne, rd_new_eq, own_new_eq, mp_newm_eq, hrd, Int.toNat_natCast, Nat.mul_one, hcell]
  refine Both.dec (fun g1 => ?_) (fun g1 => ?_) <;> simp (disch := (first | omega | (simp only [size_new, size_newm, size_wr, size_wrm] <;> omega) | fail)) only [go_sem, Nat.reduceBEq, Nat.reduceAdd, Nat.reduceMul, Nat.reduceLeDiff, ↓reduceIte, rd_new_lt, own_new_lt, mp_new_lt, rd_newm_lt, own_newm_lt, mp_newm_lt, rd_wr_ne, own_wr_ne, mp_wr_ne, rd_wrm_ne, own_wrm_ne, mp_wrm_ne, rd_new_eq, own_new_eq, mp_newm_eq, rd_of_own b3]
  · exact ⟨f3, .inl ⟨fun hs => by have := (hs.1 i hmem).1; omega, rfl⟩⟩
  refine Both.dec (fun g2 => ?_) (fun g2 => ?_) <;> simp (disch := (first | omega | (simp only [size_new, size_newm, size_wr, size_wrm] <;> omega) | fail)) only [go_sem, Nat.reduceBEq, Nat.reduceAdd, Nat.reduceMul, Nat.reduceLeDiff, ↓reduceIte, rd_new_lt, own_new_lt, mp_new_lt, rd_newm_lt, own_newm_lt, mp_newm_lt, rd_wr_ne, own_wr_ne, mp_wr_ne, rd_wrm_ne, own_wrm_ne, mp_wrm_ne, rd_new_eq, own_new_eq, mp_newm_eq, rd_of_own b3]
  · exact ⟨f3, .inl ⟨fun hs => by have := (hs.1 i hmem).2; omega, rfl⟩⟩
  have hIn : InE es i := ⟨by omega, by omega⟩
  obtain ⟨ik, e, rfl, he, hik⟩ := hIn.get
  obtain ⟨ef0, ef1, et0, et1⟩ := hr.ends e (List.mem_of_getElem? he)
  obtain ⟨_, be, oe, le, rfl, hrde, hle, hcells, hc0, hc1, hc2⟩ := RdS.edgeAt h3 he
  have hw1 : IntKind.i64.wrap (e.f + 1) = e.f + 1 := wrap64 (by omega) (by omega)
  have hw2 : IntKind.i64.wrap (e.t + 1) = e.t + 1 := wrap64 (by omega) (by omega)
  refine ⟨⟨by omega, by omega⟩, ?_⟩
  simp (disch := (first | omega | (simp only [size_new, size_newm, size_wr, size_wrm] <;> omega) | fail)) only [go_sem, Nat.reduceBEq, Nat.reduceAdd, Nat.reduceMul, Nat.reduceLeDiff, ↓reduceIte, rd_new_lt, own_new_lt, mp_new_lt, rd_newm_lt, own_newm_lt, mp_newm_lt, rd_wr_ne, own_wr_ne, mp_wr_ne, rd_wrm_ne, own_wrm_ne, mp_wrm_ne, rd_new_eq, own_new_eq, mp_newm_eq, hrde, Int.toNat_natCast, Nat.add_zero, hc0]
  rw [hw1]
  refine (names_Root_spec hN (e.f + 1)).mono ?_
  rintro _ H4 (⟨hbad, _⟩ | ⟨_, rfl, hN4, e4⟩)
  · omega
  have b4 := e4.own b3 (fun h => by omega)
  have f4 : Fresh H H4 := f3.then e4 (fun z hz => by omega)
  obtain ⟨_, be4, oe4, le4, hae4, hrde4, hle4, hcells4, hd0, hd1, hd2⟩ := RdS.edgeAt (h.fresh f4) he
  injection hae4 with hae4
  injection hae4 with hae4 hoe4
  subst hae4; subst hoe4
  simp (disch := (first | omega | (simp only [size_new, size_newm, size_wr, size_wrm] <;> omega) | fail)) only [go_sem, Nat.reduceBEq, Nat.reduceAdd, Nat.reduceMul, Nat.reduceLeDiff, ↓reduceIte, rd_new_lt, own_new_lt, mp_new_lt, rd_newm_lt, own_newm_lt, mp_newm_lt, rd_wr_ne, own_wr_ne, mp_wr_ne, rd_wrm_ne, own_wrm_ne, mp_wrm_ne, rd_new_eq, own_new_eq, mp_newm_eq, rd_of_own b4]
  refine ⟨⟨by omega, by omega⟩, ?_⟩
  simp (disch := (first | omega | (simp only [size_new, size_newm, size_wr, size_wrm] <;> omega) | fail)) only [go_sem, Nat.reduceBEq, Nat.reduceAdd, Nat.reduceMul, Nat.reduceLeDiff, ↓reduceIte, rd_new_lt, own_new_lt, mp_new_lt, rd_newm_lt, own_newm_lt, mp_newm_lt, rd_wr_ne, own_wr_ne, mp_wr_ne, rd_wrm_ne, own_wrm_ne, mp_wrm_ne, rd_new_eq, own_new_eq, mp_newm_eq, hrde4, Int.toNat_natCast, hd1]
  rw [hw2]
  refine (names_Root_spec hN4 (e.t + 1)).mono ?_
  rintro _ H5 (⟨hbad, _⟩ | ⟨_, rfl, hN5, e5⟩)
  · omega
  have b5 := e5.own b4 (fun h => by omega)
  have f5 : Fresh H H5 := f4.then e5 (fun z hz => by omega)
  have ef : (e.f + 1).toNat = e.f.toNat + 1 := by omega
  have et : (e.t + 1).toNat = e.t.toNat + 1 := by omega
  rw [ef, et]
  have r1 := hN5.root (i := e.f.toNat + 1) (by omega)
  have r2 := hN5.root (i := e.t.toNat + 1) (by omega)
  have hfE := fE_at he
  have htk : (ks.take (j + 1)) = ks.take j ++ [(ik : Int)] := by rw [List.take_add_one, hi]; rfl
  have hff := hT e.f.toNat e.t.toNat (by omega) (by omega)
  simp (disch := (first | omega | (simp only [size_new, size_newm, size_wr, size_wrm] <;> omega) | fail)) only [go_sem, Nat.reduceBEq, Nat.reduceAdd, Nat.reduceMul, Nat.reduceLeDiff, ↓reduceIte, rd_new_lt, own_new_lt, mp_new_lt, rd_newm_lt, own_newm_lt, mp_newm_lt, rd_wr_ne, own_wr_ne, mp_wr_ne, rd_wrm_ne, own_wrm_ne, mp_wrm_ne, rd_new_eq, own_new_eq, mp_newm_eq]
  refine (names_Join_spec hN5 _ _).mono ?_
  rintro _ H6 (⟨hno, rfl, rfl⟩ | ⟨hok, rfl, hN6, e6⟩)
  · have hsame : rt (e.f.toNat + 1) = rt (e.t.toNat + 1) := by
      apply Classical.byContradiction
      intro hne
      refine hno ⟨⟨by omega, by omega, ?_⟩, ⟨by omega, by omega, ?_⟩, by omega⟩
      · rw [Int.toNat_natCast]; exact r1.1
      · rw [Int.toNat_natCast]; exact r2.1
    simp (disch := (first | omega | (simp only [size_new, size_newm, size_wr, size_wrm] <;> omega) | fail)) only [go_sem, Nat.reduceBEq, Nat.reduceAdd, Nat.reduceMul, Nat.reduceLeDiff, ↓reduceIte, rd_new_lt, own_new_lt, mp_new_lt, rd_newm_lt, own_newm_lt, mp_newm_lt, rd_wr_ne, own_wr_ne, mp_wr_ne, rd_wrm_ne, own_wrm_ne, mp_wrm_ne, rd_new_eq, own_new_eq, mp_newm_eq, Bool.not_false]
    refine ⟨f5, .inl ⟨fun hs => ?_, rfl⟩⟩
    have hac2 : Acyc ((ks.take (j + 1)).map (fE es)) := acyc_sub hs.2 ((List.take_sublist _ _).map _)
    rw [htk, List.map_append, List.map_singleton, acyc_snoc, hfE] at hac2
    exact hac2.2 (hff.1 hsame)
  · simp (disch := (first | omega | (simp only [size_new, size_newm, size_wr, size_wrm] <;> omega) | fail)) only [go_sem, Nat.reduceBEq, Nat.reduceAdd, Nat.reduceMul, Nat.reduceLeDiff, ↓reduceIte, rd_new_lt, own_new_lt, mp_new_lt, rd_newm_lt, own_newm_lt, mp_newm_lt, rd_wr_ne, own_wr_ne, mp_wr_ne, rd_wrm_ne, own_wrm_ne, mp_wrm_ne, rd_new_eq, own_new_eq, mp_newm_eq, Bool.not_true]
    rw [wrap64 (n := (j : Int) + 1) (by omega) (by omega)]
    rw [Int.toNat_natCast, Int.toNat_natCast] at hN6
    have hne : rt (e.f.toNat + 1) ≠ rt (e.t.toNat + 1) := fun hh => hok.2.2 (by rw [hh])
    refine ⟨ks.length - (j + 1), by omega, f5.then e6 (fun z hz => by omega), e6.own b5 (fun h => by omega), j + 1, _, rfl, by omega, hN6, fun x hx => ?_, ?_, ?_, rfl⟩
    · rw [htk] at hx
      rcases List.mem_append.1 hx with hx | hx
      · exact hin x hx
      · rw [List.mem_singleton.1 hx]; exact hIn
    · rw [htk, List.map_append, List.map_singleton, acyc_snoc, hfE]
      exact ⟨hac, fun hh => hne (hff.2 hh)⟩
    · rw [htk, List.map_append, List.map_singleton, hfE]
      exact TellsH.join (e := (e.f.toNat, e.t.toNat)) hT (by show e.f.toNat < _; omega) (by show e.t.toNat < _; omega)

theorem cut_together_spec {H : Hp} {b s len : Nat} {rt : Nat → Nat} {most : Int} (h : NamesAt H b s len rt most) {x y : Int} (hx : 0 ≤ x ∧ x + 1 < len) (hy : 0 ≤ y ∧ y + 1 < len) :
    CallH Try.prog n_cut_together [ptr b, i64 x, i64 y] H fun v H' => Post (v = .bool (decide (rt (x.toNat + 1) = rt (y.toNat + 1))) ∧ NamesAt H' b s len rt most ∧ Ext (fun z => z = b ∨ z = s) H H') := by
  refine c_cut_together ⟨rfl, ?_⟩
  have hle := h.le
  have hmo := h.most
  simp (disch := (first | omega | (simp only [size_new, size_newm, size_wr, size_wrm] <;> omega) | fail)) only [go_sem, Nat.reduceBEq, Nat.reduceAdd, Nat.reduceMul, Nat.reduceLeDiff, ↓reduceIte, rd_new_lt, own_new_lt, mp_new_lt, rd_newm_lt, own_newm_lt, mp_newm_lt, rd_wr_ne, own_wr_ne, mp_wr_ne, rd_wrm_ne, own_wrm_ne, mp_wrm_ne, rd_new_eq, own_new_eq, mp_newm_eq, s_cut_together]
  rw [wrap64 (n := x + 1) (by omega) (by omega)]
  refine (names_Root_spec h (x + 1)).mono ?_
  rintro _ H4 (⟨hbad, _⟩ | ⟨_, rfl, hN4, e4⟩)
  · omega
  simp (disch := (first | omega | (simp only [size_new, size_newm, size_wr, size_wrm] <;> omega) | fail)) only [go_sem, Nat.reduceBEq, Nat.reduceAdd, Nat.reduceMul, Nat.reduceLeDiff, ↓reduceIte, rd_new_lt, own_new_lt, mp_new_lt, rd_newm_lt, own_newm_lt, mp_newm_lt, rd_wr_ne, own_wr_ne, mp_wr_ne, rd_wrm_ne, own_wrm_ne, mp_wrm_ne, rd_new_eq, own_new_eq, mp_newm_eq]
  rw [wrap64 (n := y + 1) (by omega) (by omega)]
  refine (names_Root_spec hN4 (y + 1)).mono ?_
  rintro _ H5 (⟨hbad, _⟩ | ⟨_, rfl, hN5, e5⟩)
  · omega
  rw [show (x + 1).toNat = x.toNat + 1 by omega, show (y + 1).toNat = y.toNat + 1 by omega]
  simp (disch := (first | omega | (simp only [size_new, size_newm, size_wr, size_wrm] <;> omega) | fail)) only [go_sem, Nat.reduceBEq, Nat.reduceAdd, Nat.reduceMul, Nat.reduceLeDiff, ↓reduceIte, rd_new_lt, own_new_lt, mp_new_lt, rd_newm_lt, own_newm_lt, mp_newm_lt, rd_wr_ne, own_wr_ne, mp_wr_ne, rd_wrm_ne, own_wrm_ne, mp_wrm_ne, rd_new_eq, own_new_eq, mp_newm_eq]
  exact ⟨congrArg Value.bool (by rw [decide_eq_decide]; omega), hN5, e4.trans e5⟩

end Go.Proofs.Ytbnaicgmnadkgaa
