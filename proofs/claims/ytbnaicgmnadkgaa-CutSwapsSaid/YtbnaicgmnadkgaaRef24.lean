/-
  The document's parts of a graph, and its forests.
-/
import Derived.Test.YtbnaicgmnadkgaaCutQ
import Derived.Test.YtbnaicgmnadkgaaPush
import Derived.Test.YtbnaicgmnadkgaaMeet
import Derived.Test.YtbnaicgmnadkgaaA2
set_option linter.unusedVariables false
set_option linter.unusedSimpArgs false
namespace Go.Proofs.Ytbnaicgmnadkgaa
open Go Go.Vc

theorem ref24_join_spec {H : Hp} {a : Option Addr} {c : Nat} {xs : List Int} (h : RdS H 1 (.slice a xs.length c) xs.length (xs.map i64)) (p q : Int) (hl : xs.length ≤ 1000000000) :
    CallH Try.prog n_ref24_join [.slice a xs.length c, i64 p, i64 q] H fun v H' => Post (Fresh H H' ∧ ∃ b, H.size ≤ b ∧ Sl H' 1 v xs.length ((xs.map fun x => if x = q then p else x).map i64) (some b)) := by
  refine c_ref24_join ⟨rfl, ?_⟩
  simp (disch := (first | omega | (simp only [size_new, size_newm, size_wr, size_wrm] <;> omega) | fail)) only [go_sem, Nat.reduceBEq, Nat.reduceAdd, Nat.reduceMul, Nat.reduceLeDiff, ↓reduceIte, rd_new_lt, own_new_lt, mp_new_lt, rd_newm_lt, own_newm_lt, mp_newm_lt, rd_wr_ne, own_wr_ne, mp_wr_ne, rd_wrm_ne, own_wrm_ne, mp_wrm_ne, rd_new_eq, own_new_eq, mp_newm_eq, s_ref24_join]
  have s0 : Sl (H.new 3 []) 1 (.slice (some ⟨H.size, 0, none⟩) 0 0) (([] : List Int)).length (([] : List Int).map i64) (some H.size) := Sl.lit_at (size := 1) (n := 0) (xs := []) rfl rfl
  have f0 : Fresh H (H.new 3 []) := (Ext.refl _ _).new _ _
  generalize H.new 3 [] = H0 at *
  refine LoopV.intro (fun m env H' => Fresh H H' ∧ ∃ (j : Nat) (w : Value) (b : Nat), m = xs.length - j ∧ j ≤ xs.length ∧ H.size ≤ b ∧ Sl H' 1 w ((xs.take j).map fun x => if x = q then p else x).length (((xs.take j).map fun x => if x = q then p else x).map i64) (some b) ∧
    env = [(1, i64 p), (2, i64 q), (7, w), (11, .slice a xs.length c), (12, i64 xs.length), (13, i64 j)]) xs.length ⟨f0, 0, _, H.size, by omega, by omega, by omega, s0, rfl⟩ ?_
  rintro m env H1 ⟨f1, j, w, b, hm, hj, hb, s1, rfl⟩
  have h1 := h.fresh f1
  simp (disch := (first | omega | (simp only [size_new, size_newm, size_wr, size_wrm] <;> omega) | fail)) only [go_sem, Nat.reduceBEq, Nat.reduceAdd, Nat.reduceMul, Nat.reduceLeDiff, ↓reduceIte, rd_new_lt, own_new_lt, mp_new_lt, rd_newm_lt, own_newm_lt, mp_newm_lt, rd_wr_ne, own_wr_ne, mp_wr_ne, rd_wrm_ne, own_wrm_ne, mp_wrm_ne, rd_new_eq, own_new_eq, mp_newm_eq]
  refine Both.dec (fun hlt => ?_) (fun hlt => ?_) <;> simp (disch := (first | omega | (simp only [size_new, size_newm, size_wr, size_wrm] <;> omega) | fail)) only [go_sem, Nat.reduceBEq, Nat.reduceAdd, Nat.reduceMul, Nat.reduceLeDiff, ↓reduceIte, rd_new_lt, own_new_lt, mp_new_lt, rd_newm_lt, own_newm_lt, mp_newm_lt, rd_wr_ne, own_wr_ne, mp_wr_ne, rd_wrm_ne, own_wrm_ne, mp_wrm_ne, rd_new_eq, own_new_eq, mp_newm_eq]
  · obtain ⟨x, hx⟩ : ∃ x, xs[j]? = some x := ⟨_, List.getElem?_eq_getElem (by omega)⟩
    obtain ⟨_, bx, o, lb, rfl, hrd, hcell⟩ := RdS.num h1 hx
    refine ⟨⟨by omega, by omega⟩, ?_⟩
    simp (disch := (first | omega | (simp only [size_new, size_newm, size_wr, size_wrm] <;> omega) | fail)) only [go_sem, Nat.reduceBEq, Nat.reduceAdd, Nat.reduceMul, Nat.reduceLeDiff, ↓reduceIte, rd_new_lt, own_new_lt, mp_new_lt, rd_newm_lt, own_newm_lt, mp_newm_lt, rd_wr_ne, own_wr_ne, mp_wr_ne, rd_wrm_ne, own_wrm_ne, mp_wrm_ne, rd_new_eq, own_new_eq, mp_newm_eq, hrd, Int.toNat_natCast, Nat.mul_one, hcell]
    have htk : (xs.take (j + 1)).map (fun x => if x = q then p else x) = (xs.take j).map (fun x => if x = q then p else x) ++ [if x = q then p else x] := by rw [List.take_add_one, hx, List.map_append]; rfl
    refine Both.dec (fun hq => ?_) (fun hq => ?_) <;> simp (disch := (first | omega | (simp only [size_new, size_newm, size_wr, size_wrm] <;> omega) | fail)) only [go_sem, Nat.reduceBEq, Nat.reduceAdd, Nat.reduceMul, Nat.reduceLeDiff, ↓reduceIte, rd_new_lt, own_new_lt, mp_new_lt, rd_newm_lt, own_newm_lt, mp_newm_lt, rd_wr_ne, own_wr_ne, mp_wr_ne, rd_wrm_ne, own_wrm_ne, mp_wrm_ne, rd_new_eq, own_new_eq, mp_newm_eq]
    · rw [if_pos hq] at htk
      refine pushS (B := H.size) hb (f1.size) s1 _ (by simp; omega) ?_
      intro w' H' b' hb' s' e'
      simp (disch := (first | omega | (simp only [size_new, size_newm, size_wr, size_wrm] <;> omega) | fail)) only [go_sem, Nat.reduceBEq, Nat.reduceAdd, Nat.reduceMul, Nat.reduceLeDiff, ↓reduceIte, rd_new_lt, own_new_lt, mp_new_lt, rd_newm_lt, own_newm_lt, mp_newm_lt, rd_wr_ne, own_wr_ne, mp_wr_ne, rd_wrm_ne, own_wrm_ne, mp_wrm_ne, rd_new_eq, own_new_eq, mp_newm_eq]
      rw [wrap64 (n := (j : Int) + 1) (by omega) (by omega)]
      exact ⟨xs.length - (j + 1), by omega, f1.then e' (fun z hz => hz), j + 1, w', b', rfl, by omega, hb', by rw [htk]; exact s', rfl⟩
    · rw [if_neg hq] at htk
      refine pushS (B := H.size) hb (f1.size) s1 _ (by simp; omega) ?_
      intro w' H' b' hb' s' e'
      simp (disch := (first | omega | (simp only [size_new, size_newm, size_wr, size_wrm] <;> omega) | fail)) only [go_sem, Nat.reduceBEq, Nat.reduceAdd, Nat.reduceMul, Nat.reduceLeDiff, ↓reduceIte, rd_new_lt, own_new_lt, mp_new_lt, rd_newm_lt, own_newm_lt, mp_newm_lt, rd_wr_ne, own_wr_ne, mp_wr_ne, rd_wrm_ne, own_wrm_ne, mp_wrm_ne, rd_new_eq, own_new_eq, mp_newm_eq]
      rw [wrap64 (n := (j : Int) + 1) (by omega) (by omega)]
      exact ⟨xs.length - (j + 1), by omega, f1.then e' (fun z hz => hz), j + 1, w', b', rfl, by omega, hb', by rw [htk]; exact s', rfl⟩
  · have hj2 : j = xs.length := by omega
    subst hj2
    rw [List.take_length, List.length_map] at s1
    exact ⟨f1, b, hb, s1⟩

set_option maxHeartbeats 2000000 in
theorem ref24_Parts_spec {H : Hp} {n : Int} {a a' : Option Addr} {c c' : Nat} {es : List Ed} {ks : List Int} (h : RdS H 3 (.slice a es.length c) es.length (flatE es)) (h' : RdS H 1 (.slice a' ks.length c') ks.length (ks.map i64))
    (hr : RightG n es) (hk : ∀ i ∈ ks, InE es i) (hl : ks.length ≤ 1000000000) :
    CallH Try.prog n_ref24_Parts [grV n (.slice a es.length c), .slice a' ks.length c'] H fun v H' => Post (Fresh H H' ∧ ∃ b, H.size ≤ b ∧ Sl H' 1 v n.toNat ((partL n.toNat (ks.map (fE es))).map i64) (some b)) := by
  refine c_ref24_Parts ⟨rfl, ?_⟩
  have f0 : Fresh H (H.new 24 [i64 n, .slice a es.length c]) := (Ext.refl _ _).new _ _
  have b0 := own_new H 24 [i64 n, .slice a es.length c]
  have hz0 : (H.new 24 [i64 n, .slice a es.length c]).size = H.size + 1 := by rw [size_new]
  simp (disch := (first | omega | (simp only [size_new, size_newm, size_wr, size_wrm] <;> omega) | fail)) only [go_sem, Nat.reduceBEq, Nat.reduceAdd, Nat.reduceMul, Nat.reduceLeDiff, ↓reduceIte, rd_new_lt, own_new_lt, mp_new_lt, rd_newm_lt, own_newm_lt, mp_newm_lt, rd_wr_ne, own_wr_ne, mp_wr_ne, rd_wrm_ne, own_wrm_ne, mp_wrm_ne, rd_new_eq, own_new_eq, mp_newm_eq, s_ref24_Parts, grV]
  generalize H.new 24 [i64 n, .slice a es.length c] = H0 at *
  have fo : Fresh H0 (H0.new 3 []) := (Ext.refl _ _).new _ _
  have s0 : Sl (H0.new 3 []) 1 (.slice (some ⟨H.size + 1, 0, none⟩) 0 0) (allI 0).length ((allI 0).map i64) (some (H.size + 1)) := Sl.lit_at (size := 1) (n := 0) (xs := []) rfl hz0.symm
  have b1 := fo.own b0 (fun h => h)
  generalize H0.new 3 [] = H1 at *
  have hn0 := hr.n0
  have hn1 := hr.n1
  refine LoopV.intro (fun m env H' => Fresh H H' ∧ H'.own H.size = some [i64 n, .slice a es.length c] ∧ ∃ (j : Nat) (w : Value) (b : Nat), m = n.toNat - j ∧ j ≤ n.toNat ∧ H.size + 1 ≤ b ∧ Sl H' 1 w (allI j).length ((allI j).map i64) (some b) ∧
    env = [(1, .slice a' ks.length c'), (2, ptr H.size), (5, w), (6, i64 j)]) n.toNat ⟨f0.trans fo, b1, 0, _, H.size + 1, by omega, by omega, by omega, s0, rfl⟩ ?_
  clear s0 b1 fo b0 f0
  rintro m env H2 ⟨f2, b2, j, w, b, hm, hj, hb, s2, rfl⟩
  have hz2 := own_lt b2
  simp (disch := (first | omega | (simp only [size_new, size_newm, size_wr, size_wrm] <;> omega) | fail)) only [go_sem, Nat.reduceBEq, Nat.reduceAdd, Nat.reduceMul, Nat.reduceLeDiff, ↓reduceIte, rd_new_lt, own_new_lt, mp_new_lt, rd_newm_lt, own_newm_lt, mp_newm_lt, rd_wr_ne, own_wr_ne, mp_wr_ne, rd_wrm_ne, own_wrm_ne, mp_wrm_ne, rd_new_eq, own_new_eq, mp_newm_eq, rd_of_own b2]
  refine Both.dec (fun hlt => ?_) (fun hlt => ?_) <;> simp (disch := (first | omega | (simp only [size_new, size_newm, size_wr, size_wrm] <;> omega) | fail)) only [go_sem, Nat.reduceBEq, Nat.reduceAdd, Nat.reduceMul, Nat.reduceLeDiff, ↓reduceIte, rd_new_lt, own_new_lt, mp_new_lt, rd_newm_lt, own_newm_lt, mp_newm_lt, rd_wr_ne, own_wr_ne, mp_wr_ne, rd_wrm_ne, own_wrm_ne, mp_wrm_ne, rd_new_eq, own_new_eq, mp_newm_eq]
  · refine pushS (B := H.size + 1) hb (by omega) s2 _ (by rw [allI_len]; omega) ?_
    intro w' H' b' hb' s' e'
    rw [← allI_succ] at s'
    simp (disch := (first | omega | (simp only [size_new, size_newm, size_wr, size_wrm] <;> omega) | fail)) only [go_sem, Nat.reduceBEq, Nat.reduceAdd, Nat.reduceMul, Nat.reduceLeDiff, ↓reduceIte, rd_new_lt, own_new_lt, mp_new_lt, rd_newm_lt, own_newm_lt, mp_newm_lt, rd_wr_ne, own_wr_ne, mp_wr_ne, rd_wrm_ne, own_wrm_ne, mp_wrm_ne, rd_new_eq, own_new_eq, mp_newm_eq]
    rw [wrap64 (n := (j : Int) + 1) (by omega) (by omega)]
    exact ⟨n.toNat - (j + 1), by omega, f2.then e' (fun z hz => by omega), e'.own b2 (fun h => by omega), j + 1, w', b', rfl, by omega, hb', s', rfl⟩
  · have hj2 : j = n.toNat := by omega
    subst hj2
    rw [← partL_nil] at s2
    clear hj hlt hm
    refine LoopV.intro (fun m env H' => Fresh H H' ∧ H'.own H.size = some [i64 n, .slice a es.length c] ∧ ∃ (k : Nat) (w : Value) (b : Nat), m = ks.length - k ∧ k ≤ ks.length ∧ H.size + 1 ≤ b ∧ Sl H' 1 w (partL n.toNat ((ks.take k).map (fE es))).length ((partL n.toNat ((ks.take k).map (fE es))).map i64) (some b) ∧
      env = [(2, ptr H.size), (5, w), (22, .slice a' ks.length c'), (23, i64 ks.length), (24, i64 k)]) ks.length ⟨f2, b2, 0, w, b, by omega, by omega, hb, s2, rfl⟩ ?_
    clear s2 b2 f2 hb hz2
    rintro m env H3 ⟨f3, b3, k, w, b, hm, hkl, hb, s3, rfl⟩
    have hz3 := own_lt b3
    have h3 := h.fresh f3
    have h3' := h'.fresh f3
    simp (disch := (first | omega | (simp only [size_new, size_newm, size_wr, size_wrm] <;> omega) | fail)) only [go_sem, Nat.reduceBEq, Nat.reduceAdd, Nat.reduceMul, Nat.reduceLeDiff, ↓reduceIte, rd_new_lt, own_new_lt, mp_new_lt, rd_newm_lt, own_newm_lt, mp_newm_lt, rd_wr_ne, own_wr_ne, mp_wr_ne, rd_wrm_ne, own_wrm_ne, mp_wrm_ne, rd_new_eq, own_new_eq, mp_newm_eq]
    refine Both.dec (fun hlt => ?_) (fun hlt => ?_) <;> simp (disch := (first | omega | (simp only [size_new, size_newm, size_wr, size_wrm] <;> omega) | fail)) only [go_sem, Nat.reduceBEq, Nat.reduceAdd, Nat.reduceMul, Nat.reduceLeDiff, ↓reduceIte, rd_new_lt, own_new_lt, mp_new_lt, rd_newm_lt, own_newm_lt, mp_newm_lt, rd_wr_ne, own_wr_ne, mp_wr_ne, rd_wrm_ne, own_wrm_ne, mp_wrm_ne, rd_new_eq, own_new_eq, mp_newm_eq]
    · obtain ⟨i, hi⟩ : ∃ x, ks[k]? = some x := ⟨_, List.getElem?_eq_getElem (by omega)⟩
      obtain ⟨_, bx, o, lb, rfl, hrd, hcell⟩ := RdS.num h3' hi
      obtain ⟨ik, e, rfl, he, hik⟩ := (hk i (List.mem_of_getElem? hi)).get
      obtain ⟨ef0, ef1, et0, et1⟩ := hr.ends e (List.mem_of_getElem? he)
      obtain ⟨_, be, oe, le, rfl, hrde, hle, hcells, hc0, hc1, hc2⟩ := RdS.edgeAt h3 he
      obtain ⟨wa, wc, rfl, _⟩ := slv_val s3
      obtain ⟨_, rfl, lw, how, hw1⟩ := Sl.num s3 (partL_get ((ks.take k).map (fE es)) (v := e.f.toNat) (by omega))
      obtain ⟨_, _, lw', how', hw2⟩ := Sl.num s3 (partL_get ((ks.take k).map (fE es)) (v := e.t.toNat) (by omega))
      rw [how] at how'
      injection how' with how'
      subst how'
      have hpl := partL_len n.toNat ((ks.take k).map (fE es))
      have htk : partL n.toNat ((ks.take (k + 1)).map (fE es)) = (partL n.toNat ((ks.take k).map (fE es))).map fun x => if x = ((max (partF ((ks.take k).map (fE es)) e.f.toNat) (partF ((ks.take k).map (fE es)) e.t.toNat) : Nat) : Int) then ((min (partF ((ks.take k).map (fE es)) e.f.toNat) (partF ((ks.take k).map (fE es)) e.t.toNat) : Nat) : Int) else x := by
        have := partL_snoc n.toNat ((ks.take k).map (fE es)) (fE es ik)
        rw [fE_at he] at this
        rw [← this, List.take_add_one, hi, List.map_append]
        congr 2
        simp [fE_at he]
      refine ⟨⟨by omega, by omega⟩, ?_⟩
      simp (disch := (first | omega | (simp only [size_new, size_newm, size_wr, size_wrm] <;> omega) | fail)) only [go_sem, Nat.reduceBEq, Nat.reduceAdd, Nat.reduceMul, Nat.reduceLeDiff, ↓reduceIte, rd_new_lt, own_new_lt, mp_new_lt, rd_newm_lt, own_newm_lt, mp_newm_lt, rd_wr_ne, own_wr_ne, mp_wr_ne, rd_wrm_ne, own_wrm_ne, mp_wrm_ne, rd_new_eq, own_new_eq, mp_newm_eq, hrd, Int.toNat_natCast, Nat.mul_one, hcell, rd_of_own b3]
      refine ⟨⟨by omega, by omega⟩, ?_⟩
      simp (disch := (first | omega | (simp only [size_new, size_newm, size_wr, size_wrm] <;> omega) | fail)) only [go_sem, Nat.reduceBEq, Nat.reduceAdd, Nat.reduceMul, Nat.reduceLeDiff, ↓reduceIte, rd_new_lt, own_new_lt, mp_new_lt, rd_newm_lt, own_newm_lt, mp_newm_lt, rd_wr_ne, own_wr_ne, mp_wr_ne, rd_wrm_ne, own_wrm_ne, mp_wrm_ne, rd_new_eq, own_new_eq, mp_newm_eq, hrde, Int.toNat_natCast, Nat.add_zero, hc0]
      refine ⟨⟨by omega, by omega⟩, ?_⟩
      simp (disch := (first | omega | (simp only [size_new, size_newm, size_wr, size_wrm] <;> omega) | fail)) only [go_sem, Nat.reduceBEq, Nat.reduceAdd, Nat.reduceMul, Nat.reduceLeDiff, ↓reduceIte, rd_new_lt, own_new_lt, mp_new_lt, rd_newm_lt, own_newm_lt, mp_newm_lt, rd_wr_ne, own_wr_ne, mp_wr_ne, rd_wrm_ne, own_wrm_ne, mp_wrm_ne, rd_new_eq, own_new_eq, mp_newm_eq, rd_of_own how, Nat.mul_one, Nat.zero_add, hw1, rd_of_own b3]
      refine ⟨⟨by omega, by omega⟩, ?_⟩
      simp (disch := (first | omega | (simp only [size_new, size_newm, size_wr, size_wrm] <;> omega) | fail)) only [go_sem, Nat.reduceBEq, Nat.reduceAdd, Nat.reduceMul, Nat.reduceLeDiff, ↓reduceIte, rd_new_lt, own_new_lt, mp_new_lt, rd_newm_lt, own_newm_lt, mp_newm_lt, rd_wr_ne, own_wr_ne, mp_wr_ne, rd_wrm_ne, own_wrm_ne, mp_wrm_ne, rd_new_eq, own_new_eq, mp_newm_eq, hrde, Int.toNat_natCast, hc1]
      refine ⟨⟨by omega, by omega⟩, ?_⟩
      simp (disch := (first | omega | (simp only [size_new, size_newm, size_wr, size_wrm] <;> omega) | fail)) only [go_sem, Nat.reduceBEq, Nat.reduceAdd, Nat.reduceMul, Nat.reduceLeDiff, ↓reduceIte, rd_new_lt, own_new_lt, mp_new_lt, rd_newm_lt, own_newm_lt, mp_newm_lt, rd_wr_ne, own_wr_ne, mp_wr_ne, rd_wrm_ne, own_wrm_ne, mp_wrm_ne, rd_new_eq, own_new_eq, mp_newm_eq, rd_of_own how, Nat.mul_one, Nat.zero_add, hw2]
      generalize partF ((ks.take k).map (fE es)) e.f.toNat = pf at *
      generalize partF ((ks.take k).map (fE es)) e.t.toNat = pt at *
      have emin : (if (pt : Int) < (pf : Int) then (pt : Int) else (pf : Int)) = ((min pf pt : Nat) : Int) := by split <;> omega
      have emax : (if (pt : Int) > (pf : Int) then (pt : Int) else (pf : Int)) = ((max pf pt : Nat) : Int) := by split <;> omega
      rw [emin, emax]
      refine (ref24_join_spec s3.rd _ _ (by omega)).mono ?_
      rintro u H4 ⟨f4, b', hb', s4⟩
      rw [← htk] at s4
      simp (disch := (first | omega | (simp only [size_new, size_newm, size_wr, size_wrm] <;> omega) | fail)) only [go_sem, Nat.reduceBEq, Nat.reduceAdd, Nat.reduceMul, Nat.reduceLeDiff, ↓reduceIte, rd_new_lt, own_new_lt, mp_new_lt, rd_newm_lt, own_newm_lt, mp_newm_lt, rd_wr_ne, own_wr_ne, mp_wr_ne, rd_wrm_ne, own_wrm_ne, mp_wrm_ne, rd_new_eq, own_new_eq, mp_newm_eq]
      rw [wrap64 (n := (k : Int) + 1) (by omega) (by omega)]
      exact ⟨ks.length - (k + 1), by omega, f3.trans f4, f4.own b3 (fun h => h), k + 1, u, b', rfl, by omega, by omega, by rw [partL_len]; rw [hpl] at s4; exact s4, rfl⟩
    · have hk2 : k = ks.length := by omega
      subst hk2
      rw [List.take_length, partL_len] at s3
      exact ⟨f3, b, by omega, s3⟩

end Go.Proofs.Ytbnaicgmnadkgaa
