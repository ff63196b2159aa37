/-
  A forest's ways up are found: the program's way.
-/
import Derived.Test.YtbnaicgmnadkgaaCutT
import Derived.Test.YtbnaicgmnadkgaaCutA
set_option linter.unusedVariables false
set_option linter.unusedSimpArgs false
namespace Go.Proofs.Ytbnaicgmnadkgaa
open Go Go.Vc

/-- The edges that touch each vertex. -/
def TouchR (n : Nat) (es : List Ed) (ks : List Int) (xs : Nat → List Int) : Prop := ∀ v, v < n → ∀ i, i ∈ xs v ↔ i ∈ ks ∧ Touch (fE es i) v

/-- One edge more, at both its ends. -/
theorem touch_two {n j ik : Nat} {es : List Ed} {ks : List Int} {xs : Nat → List Int} {e : Ed} (h : TouchR n es (ks.take j) xs) (hk : ks.take (j + 1) = ks.take j ++ [(ik : Int)]) (he : fE es (ik : Int) = (e.f.toNat, e.t.toNat)) :
    TouchR n es (ks.take (j + 1)) (putL (putL xs e.f.toNat (xs e.f.toNat ++ [(ik : Int)])) e.t.toNat (putL xs e.f.toNat (xs e.f.toNat ++ [(ik : Int)]) e.t.toNat ++ [(ik : Int)])) := by
  intro v hv i
  have hh := h v hv i
  rw [hk, List.mem_append, List.mem_singleton]
  have ht : Touch (fE es (ik : Int)) v ↔ e.f.toNat = v ∨ e.t.toNat = v := by rw [he]; exact Iff.rfl
  unfold putL
  by_cases h1 : v = e.t.toNat
  · subst h1
    rw [if_pos rfl]
    by_cases h2 : e.t.toNat = e.f.toNat
    · rw [if_pos h2, List.mem_append, List.mem_append, List.mem_singleton, ← h2, hh]
      constructor
      · rintro ((⟨a, b⟩ | rfl) | rfl)
        · exact ⟨.inl a, b⟩
        · exact ⟨.inr rfl, ht.2 (.inr rfl)⟩
        · exact ⟨.inr rfl, ht.2 (.inr rfl)⟩
      · rintro ⟨a | a, b⟩
        · exact .inl (.inl ⟨a, b⟩)
        · exact .inr a
    · rw [if_neg h2, List.mem_append, List.mem_singleton, hh]
      constructor
      · rintro (⟨a, b⟩ | rfl)
        · exact ⟨.inl a, b⟩
        · exact ⟨.inr rfl, ht.2 (.inr rfl)⟩
      · rintro ⟨a | a, b⟩
        · exact .inl ⟨a, b⟩
        · exact .inr a
  · rw [if_neg h1]
    by_cases h2 : v = e.f.toNat
    · subst h2
      rw [if_pos rfl, List.mem_append, List.mem_singleton, hh]
      constructor
      · rintro (⟨a, b⟩ | rfl)
        · exact ⟨.inl a, b⟩
        · exact ⟨.inr rfl, ht.2 (.inl rfl)⟩
      · rintro ⟨a | a, b⟩
        · exact .inl ⟨a, b⟩
        · exact .inr a
    · rw [if_neg h2, hh]
      constructor
      · rintro ⟨a, b⟩; exact ⟨.inl a, b⟩
      · rintro ⟨a | a, b⟩
        · exact ⟨a, b⟩
        · subst a
          rcases ht.1 b with b | b
          · exact absurd b.symm h2
          · exact absurd b.symm h1

theorem putL2_len {n j : Nat} {xs : Nat → List Int} {i i' : Nat} {x x' : Int} (h : ∀ v, v < n → (xs v).length ≤ 2 * j) : ∀ v, v < n → ((putL (putL xs i (xs i ++ [x])) i' (putL xs i (xs i ++ [x]) i' ++ [x'])) v).length ≤ 2 * (j + 1) := by
  intro v hv
  have := h v hv
  unfold putL
  split
  · rename_i h1
    subst h1
    split
    · rename_i h2; subst h2; rw [List.length_append, List.length_append, List.length_singleton, List.length_singleton]; omega
    · rw [List.length_append, List.length_singleton]; omega
  · split
    · rename_i h2; subst h2; rw [List.length_append, List.length_singleton]; omega
    · omega

set_option maxHeartbeats 8000000 in
theorem cut_rooted_spec {H : Hp} {n : Int} {a a' : Option Addr} {c c' : Nat} {es : List Ed} {ks : List Int} (h : RdS H 3 (.slice a es.length c) es.length (flatE es)) (h' : RdS H 1 (.slice a' ks.length c') ks.length (ks.map i64))
    (hr : RightG n es) (hin : ∀ i ∈ ks, InE es i) (hl : ks.length ≤ 1000000) :
    CallH Try.prog n_cut_rooted [grV n (.slice a es.length c), .slice a' ks.length c'] H fun v H' => Post (Fresh H H' ∧ ∃ t bu bd bp up deep part, v = ptr t ∧
      TreeAt H' (H.size + 1) t bu bd bp n.toNat n (.slice a es.length c) up (fun v => ((deep v : Nat) : Int)) (fun v => ((part v : Nat) : Int)) ∧ Rooted n.toNat (fE es) ks up deep part ∧ ∀ v, v < n.toNat → deep v ≤ n.toNat) := by
  refine c_cut_rooted ⟨rfl, ?_⟩
  have hn0 := hr.n0
  have hn1 := hr.n1
  have f0 : Fresh H (H.new 24 [i64 n, .slice a es.length c]) := (Ext.refl _ _).new _ _
  have b0 := own_new H 24 [i64 n, .slice a es.length c]
  have hz0 : (H.new 24 [i64 n, .slice a es.length c]).size = H.size + 1 := by rw [size_new]
  simp (disch := (first | omega | (simp only [size_new, size_newm, size_wr, size_wrm] <;> omega) | fail)) only [go_sem, Nat.reduceBEq, Nat.reduceAdd, Nat.reduceMul, Nat.reduceLeDiff, ↓reduceIte, rd_new_lt, own_new_lt, mp_new_lt, rd_newm_lt, own_newm_lt, mp_newm_lt, rd_wr_ne, own_wr_ne, mp_wr_ne, rd_wrm_ne, own_wrm_ne, mp_wrm_ne, rd_new_eq, own_new_eq, mp_newm_eq, s_cut_rooted, grV]
  generalize H.new 24 [i64 n, .slice a es.length c] = H0 at *
  refine vc_cut (fun e h => ∃ t bu bd bp, e.find 1 = some (.slice a' ks.length c') ∧ e.find 2 = some (ptr H.size) ∧ e.find 5 = some (ptr t) ∧ Fresh H h ∧ h.own H.size = some [i64 n, .slice a es.length c] ∧
    TreeAt h (H.size + 1) t bu bd bp n.toNat n (.slice a es.length c) (fun _ => 0) (fun _ => 0) (fun _ => 0)) ?_ ?_
  · refine InvV.intro (fun H' => H'.own H.size = some [i64 n, .slice a es.length c]) b0 ?_
    simp (disch := (first | omega | (simp only [size_new, size_newm, size_wr, size_wrm] <;> omega) | fail)) only [go_sem, Nat.reduceBEq, Nat.reduceAdd, Nat.reduceMul, Nat.reduceLeDiff, ↓reduceIte, rd_new_lt, own_new_lt, mp_new_lt, rd_newm_lt, own_newm_lt, mp_newm_lt, rd_wr_ne, own_wr_ne, mp_wr_ne, rd_wrm_ne, own_wrm_ne, mp_wrm_ne, rd_new_eq, own_new_eq, mp_newm_eq]
    refine StbV.intro (.agg #[i64 n, .slice a es.length c]) (fun H' hI => by simp (disch := (first | omega | (simp only [size_new, size_newm, size_wr, size_wrm] <;> omega) | fail)) only [go_sem, Nat.reduceBEq, Nat.reduceAdd, Nat.reduceMul, Nat.reduceLeDiff, ↓reduceIte, rd_new_lt, own_new_lt, mp_new_lt, rd_newm_lt, own_newm_lt, mp_newm_lt, rd_wr_ne, own_wr_ne, mp_wr_ne, rd_wrm_ne, own_wrm_ne, mp_wrm_ne, rd_new_eq, own_new_eq, mp_newm_eq, rd_of_own hI]; trivial) ?_
    simp (disch := (first | omega | (simp only [size_new, size_newm, size_wr, size_wrm] <;> omega) | fail)) only [go_sem, Nat.reduceBEq, Nat.reduceAdd, Nat.reduceMul, Nat.reduceLeDiff, ↓reduceIte, rd_new_lt, own_new_lt, mp_new_lt, rd_newm_lt, own_newm_lt, mp_newm_lt, rd_wr_ne, own_wr_ne, mp_wr_ne, rd_wrm_ne, own_wrm_ne, mp_wrm_ne, rd_new_eq, own_new_eq, mp_newm_eq]
    refine StbV.intro (i64 n) (fun H' hI => by simp (disch := (first | omega | (simp only [size_new, size_newm, size_wr, size_wrm] <;> omega) | fail)) only [go_sem, Nat.reduceBEq, Nat.reduceAdd, Nat.reduceMul, Nat.reduceLeDiff, ↓reduceIte, rd_new_lt, own_new_lt, mp_new_lt, rd_newm_lt, own_newm_lt, mp_newm_lt, rd_wr_ne, own_wr_ne, mp_wr_ne, rd_wrm_ne, own_wrm_ne, mp_wrm_ne, rd_new_eq, own_new_eq, mp_newm_eq, rd_of_own hI]; exact ⟨trivial, trivial⟩) ?_
    simp (disch := (first | omega | (simp only [size_new, size_newm, size_wr, size_wrm] <;> omega) | fail)) only [go_sem, Nat.reduceBEq, Nat.reduceAdd, Nat.reduceMul, Nat.reduceLeDiff, ↓reduceIte, rd_new_lt, own_new_lt, mp_new_lt, rd_newm_lt, own_newm_lt, mp_newm_lt, rd_wr_ne, own_wr_ne, mp_wr_ne, rd_wrm_ne, own_wrm_ne, mp_wrm_ne, rd_new_eq, own_new_eq, mp_newm_eq]
    refine StbV.intro (i64 n) (fun H' hI => by simp (disch := (first | omega | (simp only [size_new, size_newm, size_wr, size_wrm] <;> omega) | fail)) only [go_sem, Nat.reduceBEq, Nat.reduceAdd, Nat.reduceMul, Nat.reduceLeDiff, ↓reduceIte, rd_new_lt, own_new_lt, mp_new_lt, rd_newm_lt, own_newm_lt, mp_newm_lt, rd_wr_ne, own_wr_ne, mp_wr_ne, rd_wrm_ne, own_wrm_ne, mp_wrm_ne, rd_new_eq, own_new_eq, mp_newm_eq, rd_of_own hI]; exact ⟨trivial, trivial⟩) ?_
    simp (disch := (first | omega | (simp only [size_new, size_newm, size_wr, size_wrm] <;> omega) | fail)) only [go_sem, Nat.reduceBEq, Nat.reduceAdd, Nat.reduceMul, Nat.reduceLeDiff, ↓reduceIte, rd_new_lt, own_new_lt, mp_new_lt, rd_newm_lt, own_newm_lt, mp_newm_lt, rd_wr_ne, own_wr_ne, mp_wr_ne, rd_wrm_ne, own_wrm_ne, mp_wrm_ne, rd_new_eq, own_new_eq, mp_newm_eq]
    refine StbV.intro (i64 n) (fun H' hI => by simp (disch := (first | omega | (simp only [size_new, size_newm, size_wr, size_wrm] <;> omega) | fail)) only [go_sem, Nat.reduceBEq, Nat.reduceAdd, Nat.reduceMul, Nat.reduceLeDiff, ↓reduceIte, rd_new_lt, own_new_lt, mp_new_lt, rd_newm_lt, own_newm_lt, mp_newm_lt, rd_wr_ne, own_wr_ne, mp_wr_ne, rd_wrm_ne, own_wrm_ne, mp_wrm_ne, rd_new_eq, own_new_eq, mp_newm_eq, rd_of_own hI]; exact ⟨trivial, trivial⟩) ?_
    simp (disch := (first | omega | (simp only [size_new, size_newm, size_wr, size_wrm] <;> omega) | fail)) only [go_sem, Nat.reduceBEq, Nat.reduceAdd, Nat.reduceMul, Nat.reduceLeDiff, ↓reduceIte, rd_new_lt, own_new_lt, mp_new_lt, rd_newm_lt, own_newm_lt, mp_newm_lt, rd_wr_ne, own_wr_ne, mp_wr_ne, rd_wrm_ne, own_wrm_ne, mp_wrm_ne, rd_new_eq, own_new_eq, mp_newm_eq]
    have kp : ∀ {H' : Hp} (T : Nat) (l : List Value), H'.own H.size = some [i64 n, .slice a es.length c] → (H'.new T l).own H.size = some [i64 n, .slice a es.length c] := fun {H'} T l ho => ((Ext.refl _ _).new _ _ : Fresh H' (H'.new T l)).own ho (fun h => h)
    refine Two.intro ?_ (Two.intro ?_ ?_)
    all_goals
      simp (disch := (first | omega | (simp only [size_new, size_newm, size_wr, size_wrm] <;> omega) | fail)) only [go_sem, Nat.reduceBEq, Nat.reduceAdd, Nat.reduceMul, Nat.reduceLeDiff, ↓reduceIte, rd_new_lt, own_new_lt, mp_new_lt, rd_newm_lt, own_newm_lt, mp_newm_lt, rd_wr_ne, own_wr_ne, mp_wr_ne, rd_wrm_ne, own_wrm_ne, mp_wrm_ne, rd_new_eq, own_new_eq, mp_newm_eq]
      refine ⟨⟨by omega, by omega, by omega, by omega⟩, ?_⟩
      simp (disch := (first | omega | (simp only [size_new, size_newm, size_wr, size_wrm] <;> omega) | fail)) only [go_sem, Nat.reduceBEq, Nat.reduceAdd, Nat.reduceMul, Nat.reduceLeDiff, ↓reduceIte, rd_new_lt, own_new_lt, mp_new_lt, rd_newm_lt, own_newm_lt, mp_newm_lt, rd_wr_ne, own_wr_ne, mp_wr_ne, rd_wrm_ne, own_wrm_ne, mp_wrm_ne, rd_new_eq, own_new_eq, mp_newm_eq]
      refine And.intro b0 ?_
      simp (disch := (first | omega | (simp only [size_new, size_newm, size_wr, size_wrm] <;> omega) | fail)) only [go_sem, Nat.reduceBEq, Nat.reduceAdd, Nat.reduceMul, Nat.reduceLeDiff, ↓reduceIte, rd_new_lt, own_new_lt, mp_new_lt, rd_newm_lt, own_newm_lt, mp_newm_lt, rd_wr_ne, own_wr_ne, mp_wr_ne, rd_wrm_ne, own_wrm_ne, mp_wrm_ne, rd_new_eq, own_new_eq, mp_newm_eq]
      refine Two.intro ?_ ?_
      all_goals
        simp (disch := (first | omega | (simp only [size_new, size_newm, size_wr, size_wrm] <;> omega) | fail)) only [go_sem, Nat.reduceBEq, Nat.reduceAdd, Nat.reduceMul, Nat.reduceLeDiff, ↓reduceIte, rd_new_lt, own_new_lt, mp_new_lt, rd_newm_lt, own_newm_lt, mp_newm_lt, rd_wr_ne, own_wr_ne, mp_wr_ne, rd_wrm_ne, own_wrm_ne, mp_wrm_ne, rd_new_eq, own_new_eq, mp_newm_eq]
        refine ⟨⟨by omega, by omega, by omega, by omega⟩, ?_⟩
        simp (disch := (first | omega | (simp only [size_new, size_newm, size_wr, size_wrm] <;> omega) | fail)) only [go_sem, Nat.reduceBEq, Nat.reduceAdd, Nat.reduceMul, Nat.reduceLeDiff, ↓reduceIte, rd_new_lt, own_new_lt, mp_new_lt, rd_newm_lt, own_newm_lt, mp_newm_lt, rd_wr_ne, own_wr_ne, mp_wr_ne, rd_wrm_ne, own_wrm_ne, mp_wrm_ne, rd_new_eq, own_new_eq, mp_newm_eq]
        refine And.intro b0 ?_
        simp (disch := (first | omega | (simp only [size_new, size_newm, size_wr, size_wrm] <;> omega) | fail)) only [go_sem, Nat.reduceBEq, Nat.reduceAdd, Nat.reduceMul, Nat.reduceLeDiff, ↓reduceIte, rd_new_lt, own_new_lt, mp_new_lt, rd_newm_lt, own_newm_lt, mp_newm_lt, rd_wr_ne, own_wr_ne, mp_wr_ne, rd_wrm_ne, own_wrm_ne, mp_wrm_ne, rd_new_eq, own_new_eq, mp_newm_eq]
        refine ⟨⟨by omega, by omega, by omega, by omega⟩, ?_⟩
        simp (disch := (first | omega | (simp only [size_new, size_newm, size_wr, size_wrm] <;> omega) | fail)) only [go_sem, Nat.reduceBEq, Nat.reduceAdd, Nat.reduceMul, Nat.reduceLeDiff, ↓reduceIte, rd_new_lt, own_new_lt, mp_new_lt, rd_newm_lt, own_newm_lt, mp_newm_lt, rd_wr_ne, own_wr_ne, mp_wr_ne, rd_wrm_ne, own_wrm_ne, mp_wrm_ne, rd_new_eq, own_new_eq, mp_newm_eq]
        refine And.intro b0 ?_
        simp (disch := (first | omega | (simp only [size_new, size_newm, size_wr, size_wrm] <;> omega) | fail)) only [go_sem, Nat.reduceBEq, Nat.reduceAdd, Nat.reduceMul, Nat.reduceLeDiff, ↓reduceIte, rd_new_lt, own_new_lt, mp_new_lt, rd_newm_lt, own_newm_lt, mp_newm_lt, rd_wr_ne, own_wr_ne, mp_wr_ne, rd_wrm_ne, own_wrm_ne, mp_wrm_ne, rd_new_eq, own_new_eq, mp_newm_eq]
        refine And.intro b0 ?_
        simp (disch := (first | omega | (simp only [size_new, size_newm, size_wr, size_wrm] <;> omega) | fail)) only [go_sem, Nat.reduceBEq, Nat.reduceAdd, Nat.reduceMul, Nat.reduceLeDiff, ↓reduceIte, rd_new_lt, own_new_lt, mp_new_lt, rd_newm_lt, own_newm_lt, mp_newm_lt, rd_wr_ne, own_wr_ne, mp_wr_ne, rd_wrm_ne, own_wrm_ne, mp_wrm_ne, rd_new_eq, own_new_eq, mp_newm_eq]
        have tm := fun bu bd bp h1 h2 h3 h4 => tree_made H0 3 3 3 82 (H.size + 1) (Nat.le_of_eq hz0.symm) n.toNat n (.slice a es.length c) bu bd bp h1 h2 h3 h4
        refine ⟨H0.size + 3, _, _, _, trivial, trivial, rfl, f0.trans (tm _ _ _ ?_ ?_ ?_ ?_).2, b0, (tm _ _ _ ?_ ?_ ?_ ?_).1⟩ <;> omega
  rintro e H4 ⟨t, bu, bd, bp, e1, e2, e5, f4, g4, t4⟩
  have hlt4 := t4.lt
  have hlow4 := t4.low
  simp (disch := (first | omega | (simp only [size_new, size_newm, size_wr, size_wrm] <;> omega) | fail)) only [go_sem, Nat.reduceBEq, Nat.reduceAdd, Nat.reduceMul, Nat.reduceLeDiff, ↓reduceIte, rd_new_lt, own_new_lt, mp_new_lt, rd_newm_lt, own_newm_lt, mp_newm_lt, rd_wr_ne, own_wr_ne, mp_wr_ne, rd_wrm_ne, own_wrm_ne, mp_wrm_ne, rd_new_eq, own_new_eq, mp_newm_eq, e1, e2, e5, rd_of_own g4]
  refine ⟨⟨by omega, by omega, by omega, by omega⟩, ?_⟩
  have fo : Fresh H4 (H4.new 25 (padZ [.slice none 0 0] n.toNat)) := (Ext.refl _ _).new _ _
  have r0 := Sll.new (T := 25) (B := H4.size) (n := n.toNat) H4 (Nat.le_refl _) (padZ_slc n.toNat)
  have g5 := fo.own g4 (fun h => h)
  have t5 := t4.fresh fo
  have f5 := f4.trans fo
  have hz5 : (H4.new 25 (padZ [.slice none 0 0] n.toNat)).size = H4.size + 1 := by rw [size_new]
  simp (disch := (first | omega | (simp only [size_new, size_newm, size_wr, size_wrm] <;> omega) | fail)) only [go_sem, Nat.reduceBEq, Nat.reduceAdd, Nat.reduceMul, Nat.reduceLeDiff, ↓reduceIte, rd_new_lt, own_new_lt, mp_new_lt, rd_newm_lt, own_newm_lt, mp_newm_lt, rd_wr_ne, own_wr_ne, mp_wr_ne, rd_wrm_ne, own_wrm_ne, mp_wrm_ne, rd_new_eq, own_new_eq, mp_newm_eq, e1, e2, e5]
  generalize H4.new 25 (padZ [.slice none 0 0] n.toNat) = H5 at *
  refine LoopV.intro (fun m env H' => Fresh H H' ∧ H'.own H.size = some [i64 n, .slice a es.length c] ∧ TreeAt H' (H.size + 1) t bu bd bp n.toNat n (.slice a es.length c) (fun _ => 0) (fun _ => 0) (fun _ => 0) ∧ H5.size ≤ H'.size ∧
    ∃ (j : Nat) (xs : Nat → List Int) (fp : Nat → Option Nat), m = ks.length - j ∧ j ≤ ks.length ∧ Sll H' H4.size H4.size n.toNat xs fp ∧ TouchR n.toNat es (ks.take j) xs ∧ (∀ v, v < n.toNat → (xs v).length ≤ 2 * j) ∧
    env = [(2, ptr H.size), (5, ptr t), (6, .slice (some ⟨H4.size, 0, none⟩) n.toNat n.toNat), (32, .slice a' ks.length c'), (33, i64 ks.length), (34, i64 j)]) ks.length ⟨f5, g5, t5, Nat.le_refl _, 0, _, _, by omega, by omega, r0, fun v _ i => by simp, fun v _ => by simp, rfl⟩ ?_
  clear r0 g5 t5 f5 fo g4 t4 f4
  rintro m env H6 ⟨f6, g6, t6, z6, j, xs, fp, hm, hj, sl6, htr, hxl, rfl⟩
  have h6 := h.fresh f6
  have h6' := h'.fresh f6
  simp (disch := (first | omega | (simp only [size_new, size_newm, size_wr, size_wrm] <;> omega) | fail)) only [go_sem, Nat.reduceBEq, Nat.reduceAdd, Nat.reduceMul, Nat.reduceLeDiff, ↓reduceIte, rd_new_lt, own_new_lt, mp_new_lt, rd_newm_lt, own_newm_lt, mp_newm_lt, rd_wr_ne, own_wr_ne, mp_wr_ne, rd_wrm_ne, own_wrm_ne, mp_wrm_ne, rd_new_eq, own_new_eq, mp_newm_eq]
  refine Both.dec (fun hlt => ?_) (fun hlt => ?_) <;> simp (disch := (first | omega | (simp only [size_new, size_newm, size_wr, size_wrm] <;> omega) | fail)) only [go_sem, Nat.reduceBEq, Nat.reduceAdd, Nat.reduceMul, Nat.reduceLeDiff, ↓reduceIte, rd_new_lt, own_new_lt, mp_new_lt, rd_newm_lt, own_newm_lt, mp_newm_lt, rd_wr_ne, own_wr_ne, mp_wr_ne, rd_wrm_ne, own_wrm_ne, mp_wrm_ne, rd_new_eq, own_new_eq, mp_newm_eq]
  · obtain ⟨i, hi⟩ : ∃ x, ks[j]? = some x := ⟨_, List.getElem?_eq_getElem (by omega)⟩
    have hmem := List.mem_of_getElem? hi
    obtain ⟨ik, e, rfl, he, hik⟩ := (hin i hmem).get
    obtain ⟨ef0, ef1, et0, et1⟩ := hr.ends e (List.mem_of_getElem? he)
    obtain ⟨_, bx, o, lb, rfl, hrd, hcell⟩ := RdS.num h6' hi
    obtain ⟨_, be, oe, le, rfl, hrde, hle, hcells, hc0, hc1, hc2⟩ := RdS.edgeAt h6 he
    refine vc_cut (fun e H' => Fresh H H' ∧ H'.own H.size = some [i64 n, .slice (some ⟨be, oe, none⟩) es.length c] ∧ TreeAt H' (H.size + 1) t bu bd bp n.toNat n (.slice (some ⟨be, oe, none⟩) es.length c) (fun _ => 0) (fun _ => 0) (fun _ => 0) ∧ H5.size ≤ H'.size ∧
      (∃ (xs : Nat → List Int) (fp : Nat → Option Nat), Sll H' H4.size H4.size n.toNat xs fp ∧ TouchR n.toNat es (ks.take (j + 1)) xs ∧ ∀ v, v < n.toNat → (xs v).length ≤ 2 * (j + 1)) ∧
      e.find 2 = some (ptr H.size) ∧ e.find 5 = some (ptr t) ∧ e.find 6 = some (.slice (some ⟨H4.size, 0, none⟩) n.toNat n.toNat) ∧ e.find 32 = some (.slice (some ⟨bx, o, none⟩) ks.length c') ∧ e.find 33 = some (i64 ks.length) ∧ e.find 34 = some (i64 j)) ?_ ?_
    · simp (disch := (first | omega | (simp only [size_new, size_newm, size_wr, size_wrm] <;> omega) | fail)) only [go_sem, Nat.reduceBEq, Nat.reduceAdd, Nat.reduceMul, Nat.reduceLeDiff, ↓reduceIte, rd_new_lt, own_new_lt, mp_new_lt, rd_newm_lt, own_newm_lt, mp_newm_lt, rd_wr_ne, own_wr_ne, mp_wr_ne, rd_wrm_ne, own_wrm_ne, mp_wrm_ne, rd_new_eq, own_new_eq, mp_newm_eq]
      refine ⟨⟨by omega, by omega⟩, ?_⟩
      simp (disch := (first | omega | (simp only [size_new, size_newm, size_wr, size_wrm] <;> omega) | fail)) only [go_sem, Nat.reduceBEq, Nat.reduceAdd, Nat.reduceMul, Nat.reduceLeDiff, ↓reduceIte, rd_new_lt, own_new_lt, mp_new_lt, rd_newm_lt, own_newm_lt, mp_newm_lt, rd_wr_ne, own_wr_ne, mp_wr_ne, rd_wrm_ne, own_wrm_ne, mp_wrm_ne, rd_new_eq, own_new_eq, mp_newm_eq, hrd, Int.toNat_natCast, Nat.mul_one, hcell, rd_of_own g6]
      refine ⟨⟨by omega, by omega⟩, ?_⟩
      simp (disch := (first | omega | (simp only [size_new, size_newm, size_wr, size_wrm] <;> omega) | fail)) only [go_sem, Nat.reduceBEq, Nat.reduceAdd, Nat.reduceMul, Nat.reduceLeDiff, ↓reduceIte, rd_new_lt, own_new_lt, mp_new_lt, rd_newm_lt, own_newm_lt, mp_newm_lt, rd_wr_ne, own_wr_ne, mp_wr_ne, rd_wrm_ne, own_wrm_ne, mp_wrm_ne, rd_new_eq, own_new_eq, mp_newm_eq, hrde, Int.toNat_natCast, hcells, cellsE]
      refine ⟨by omega, ?_⟩
      have q6 := own_new H6 35 [i64 0, i64 0, i64 0]
      simp (disch := (first | omega | (simp only [size_new, size_newm, size_wr, size_wrm] <;> omega) | fail)) only [go_sem, Nat.reduceBEq, Nat.reduceAdd, Nat.reduceMul, Nat.reduceLeDiff, ↓reduceIte, rd_new_lt, own_new_lt, mp_new_lt, rd_newm_lt, own_newm_lt, mp_newm_lt, rd_wr_ne, own_wr_ne, mp_wr_ne, rd_wrm_ne, own_wrm_ne, mp_wrm_ne, rd_new_eq, own_new_eq, mp_newm_eq, hcells, cellsE, q6]
      have q7 := own_wr_same (l := [i64 e.f, i64 e.t, i64 e.w]) q6
      have ff7 : Fresh H6 ((H6.new 35 [i64 0, i64 0, i64 0]).wr H6.size [i64 e.f, i64 e.t, i64 e.w]) := ((Ext.refl _ _).new _ _ : Fresh H6 _).then ((Ext.refl (fun z => z = H6.size) _).wr (fun _ => rfl) _) (fun z hz => by omega)
      have hz7 : ((H6.new 35 [i64 0, i64 0, i64 0]).wr H6.size [i64 e.f, i64 e.t, i64 e.w]).size = H6.size + 1 := by rw [size_wr, size_new]
      generalize (H6.new 35 [i64 0, i64 0, i64 0]).wr H6.size [i64 e.f, i64 e.t, i64 e.w] = H7 at *
      have sl7 := sl6.fresh ff7
      have t7 := t6.fresh ff7
      have g7 := ff7.own g6 (fun h => h)
      have f7 := f6.trans ff7
      have hne : ∀ i q, i < n.toNat → fp i = some q → q ≠ H6.size := fun i q hi hq => by have := sl6.fpLt hi hq; omega
      have z7 : H5.size ≤ H7.size := by omega
      refine vc_cut (fun e' H' => Fresh H H' ∧ H'.own H.size = some [i64 n, .slice (some ⟨be, oe, none⟩) es.length c] ∧ TreeAt H' (H.size + 1) t bu bd bp n.toNat n (.slice (some ⟨be, oe, none⟩) es.length c) (fun _ => 0) (fun _ => 0) (fun _ => 0) ∧ H5.size ≤ H'.size ∧ H'.own H6.size = some [i64 e.f, i64 e.t, i64 e.w] ∧
        (∃ (xs' : Nat → List Int) (fp' : Nat → Option Nat), Sll H' H4.size H4.size n.toNat xs' fp' ∧ xs' = putL xs e.f.toNat (xs e.f.toNat ++ [(ik : Int)]) ∧ (∀ i q, i < n.toNat → fp' i = some q → q ≠ H6.size) ∧ H6.size < H'.size) ∧
        e'.find 2 = some (ptr H.size) ∧ e'.find 5 = some (ptr t) ∧ e'.find 6 = some (.slice (some ⟨H4.size, 0, none⟩) n.toNat n.toNat) ∧ e'.find 8 = some (i64 ik) ∧ e'.find 9 = some (ptr H6.size) ∧ e'.find 32 = some (.slice (some ⟨bx, o, none⟩) ks.length c') ∧ e'.find 33 = some (i64 ks.length) ∧ e'.find 34 = some (i64 j)) ?_ ?_
      · have hIf : e.f.toNat < n.toNat := by omega
        obtain ⟨svs, sv, ho3, hsl, hsv, srow⟩ := sl7.get hIf
        have hlr := hxl e.f.toNat hIf
        refine InvV.intro (fun H' => H'.own H6.size = some [i64 e.f, i64 e.t, i64 e.w]) q7 ?_
        simp (disch := (first | omega | (simp only [size_new, size_newm, size_wr, size_wrm] <;> omega) | fail)) only [go_sem, Nat.reduceBEq, Nat.reduceAdd, Nat.reduceMul, Nat.reduceLeDiff, ↓reduceIte, rd_new_lt, own_new_lt, mp_new_lt, rd_newm_lt, own_newm_lt, mp_newm_lt, rd_wr_ne, own_wr_ne, mp_wr_ne, rd_wrm_ne, own_wrm_ne, mp_wrm_ne, rd_new_eq, own_new_eq, mp_newm_eq]
        refine StbV.intro (i64 e.f) (fun H' hI => by simp (disch := (first | omega | (simp only [size_new, size_newm, size_wr, size_wrm] <;> omega) | fail)) only [go_sem, Nat.reduceBEq, Nat.reduceAdd, Nat.reduceMul, Nat.reduceLeDiff, ↓reduceIte, rd_new_lt, own_new_lt, mp_new_lt, rd_newm_lt, own_newm_lt, mp_newm_lt, rd_wr_ne, own_wr_ne, mp_wr_ne, rd_wrm_ne, own_wrm_ne, mp_wrm_ne, rd_new_eq, own_new_eq, mp_newm_eq, rd_of_own hI]; exact ⟨trivial, trivial⟩) ?_
        simp (disch := (first | omega | (simp only [size_new, size_newm, size_wr, size_wrm] <;> omega) | fail)) only [go_sem, Nat.reduceBEq, Nat.reduceAdd, Nat.reduceMul, Nat.reduceLeDiff, ↓reduceIte, rd_new_lt, own_new_lt, mp_new_lt, rd_newm_lt, own_newm_lt, mp_newm_lt, rd_wr_ne, own_wr_ne, mp_wr_ne, rd_wrm_ne, own_wrm_ne, mp_wrm_ne, rd_new_eq, own_new_eq, mp_newm_eq]
        refine StbV.intro (i64 e.f) (fun H' hI => by simp (disch := (first | omega | (simp only [size_new, size_newm, size_wr, size_wrm] <;> omega) | fail)) only [go_sem, Nat.reduceBEq, Nat.reduceAdd, Nat.reduceMul, Nat.reduceLeDiff, ↓reduceIte, rd_new_lt, own_new_lt, mp_new_lt, rd_newm_lt, own_newm_lt, mp_newm_lt, rd_wr_ne, own_wr_ne, mp_wr_ne, rd_wrm_ne, own_wrm_ne, mp_wrm_ne, rd_new_eq, own_new_eq, mp_newm_eq, rd_of_own hI]; exact ⟨trivial, trivial⟩) ?_
        simp (disch := (first | omega | (simp only [size_new, size_newm, size_wr, size_wrm] <;> omega) | fail)) only [go_sem, Nat.reduceBEq, Nat.reduceAdd, Nat.reduceMul, Nat.reduceLeDiff, ↓reduceIte, rd_new_lt, own_new_lt, mp_new_lt, rd_newm_lt, own_newm_lt, mp_newm_lt, rd_wr_ne, own_wr_ne, mp_wr_ne, rd_wrm_ne, own_wrm_ne, mp_wrm_ne, rd_new_eq, own_new_eq, mp_newm_eq]
        refine ⟨⟨by omega, by omega⟩, ?_⟩
        simp (disch := (first | omega | (simp only [size_new, size_newm, size_wr, size_wrm] <;> omega) | fail)) only [go_sem, Nat.reduceBEq, Nat.reduceAdd, Nat.reduceMul, Nat.reduceLeDiff, ↓reduceIte, rd_new_lt, own_new_lt, mp_new_lt, rd_newm_lt, own_newm_lt, mp_newm_lt, rd_wr_ne, own_wr_ne, mp_wr_ne, rd_wrm_ne, own_wrm_ne, mp_wrm_ne, rd_new_eq, own_new_eq, mp_newm_eq]
        have fl : Fresh H7 (H7.new 3 [i64 ik]) := (Ext.refl _ _).new _ _
        have ql := fl.own q7 (fun h => h)
        have hol3 := fl.own ho3 (fun h => h)
        have hzl : (H7.new 3 [i64 ik]).size = H7.size + 1 := by rw [size_new]
        have hqne := hne e.f.toNat
        have hlow := sl7.low e.f.toNat hIf
        have hlt7 := sl7.lt
        have hq7 := own_lt q7
        have fin : ∀ (v' : Value) (H9 : Hp) (fp' : Option Nat), Sl H9 1 v' ((xs e.f.toNat).length + 1) ((xs e.f.toNat).map i64 ++ [i64 ik]) fp' → Ext (fun z => fp e.f.toNat = some z) (H7.new 3 [i64 ik]) H9 →
            (fp' = fp e.f.toNat ∨ ∃ p, fp' = some p ∧ (H7.new 3 [i64 ik]).size ≤ p ∧ p < H9.size) →
            H9.own H4.size = some svs ∧ H9.own H6.size = some [i64 e.f, i64 e.t, i64 e.w] ∧ (H9.wr H4.size (svs.set e.f.toNat v')).own H6.size = some [i64 e.f, i64 e.t, i64 e.w] ∧ Fresh H (H9.wr H4.size (svs.set e.f.toNat v')) ∧
            (H9.wr H4.size (svs.set e.f.toNat v')).own H.size = some [i64 n, .slice (some ⟨be, oe, none⟩) es.length c] ∧
            TreeAt (H9.wr H4.size (svs.set e.f.toNat v')) (H.size + 1) t bu bd bp n.toNat n (.slice (some ⟨be, oe, none⟩) es.length c) (fun _ => 0) (fun _ => 0) (fun _ => 0) ∧ H5.size ≤ (H9.wr H4.size (svs.set e.f.toNat v')).size ∧
            Sll (H9.wr H4.size (svs.set e.f.toNat v')) H4.size H4.size n.toNat (putL xs e.f.toNat (xs e.f.toNat ++ [(ik : Int)])) (putO fp e.f.toNat fp') ∧ (∀ i q, i < n.toNat → putO fp e.f.toNat fp' i = some q → q ≠ H6.size) ∧ H6.size < (H9.wr H4.size (svs.set e.f.toNat v')).size ∧ H9.own H.size = some [i64 n, .slice (some ⟨be, oe, none⟩) es.length c] := by
          intro v' H9 fp' s9 e9 hfp
          obtain ⟨k1, k2, k3, k4⟩ := sl7.push hIf ho3 fl s9 e9 hfp
          have a1 := k2.own q7 (fun hh => hqne _ hIf hh rfl)
          have a2 := k3.own q7 (fun hh => hh.elim (fun hh => hqne _ hIf hh rfl) (fun hh => by omega))
          refine ⟨k1, a1, a2, f7.then k3 (fun z hz => hz.elim (fun hz => by have := (hlow z hz).1; omega) (fun hz => by omega)), k3.own g7 (fun hh => hh.elim (fun hz => by have := (hlow _ hz).1; omega) (fun hz => by omega)), t7.ext k3 ⟨?_, ?_, ?_, ?_⟩, Nat.le_trans (by omega) k3.size, k4, fun i q hi hq => ?_, own_lt a2, k2.own g7 (fun hz => by have := (hlow _ hz).1; omega)⟩
          · exact fun hh => hh.elim (fun hz => by have := (hlow _ hz).1; omega) (fun hz => by omega)
          · exact fun hh => hh.elim (fun hz => by have := (hlow _ hz).1; omega) (fun hz => by omega)
          · exact fun hh => hh.elim (fun hz => by have := (hlow _ hz).1; omega) (fun hz => by omega)
          · exact fun hh => hh.elim (fun hz => by have := (hlow _ hz).1; omega) (fun hz => by omega)
          · unfold putO at hq
            split at hq
            · rcases hfp with h | ⟨p, h, h1, _⟩
              · rw [h] at hq; exact hqne _ hIf hq
              · rw [h] at hq; injection hq with hq; omega
            · exact hne i q hi hq
        obtain ⟨ra, rc, rfl, hrc⟩ := slv_val srow
        refine Two.intro ?_ ?_
        · simp (disch := (first | omega | (simp only [size_new, size_newm, size_wr, size_wrm] <;> omega) | fail)) only [go_sem, Nat.reduceBEq, Nat.reduceAdd, Nat.reduceMul, Nat.reduceLeDiff, ↓reduceIte, rd_new_lt, own_new_lt, mp_new_lt, rd_newm_lt, own_newm_lt, mp_newm_lt, rd_wr_ne, own_wr_ne, mp_wr_ne, rd_wrm_ne, own_wrm_ne, mp_wrm_ne, rd_new_eq, own_new_eq, mp_newm_eq, rd_of_own ho3, Nat.mul_one, Nat.zero_add, hsv]
          refine And.intro q7 ?_
          simp (disch := (first | omega | (simp only [size_new, size_newm, size_wr, size_wrm] <;> omega) | fail)) only [go_sem, Nat.reduceBEq, Nat.reduceAdd, Nat.reduceMul, Nat.reduceLeDiff, ↓reduceIte, rd_new_lt, own_new_lt, mp_new_lt, rd_newm_lt, own_newm_lt, mp_newm_lt, rd_wr_ne, own_wr_ne, mp_wr_ne, rd_wrm_ne, own_wrm_ne, mp_wrm_ne, rd_new_eq, own_new_eq, mp_newm_eq]
          refine And.intro (by first | exact ql | exact q7) ?_
          simp (disch := (first | omega | (simp only [size_new, size_newm, size_wr, size_wrm] <;> omega) | fail)) only [go_sem, Nat.reduceBEq, Nat.reduceAdd, Nat.reduceMul, Nat.reduceLeDiff, ↓reduceIte, rd_new_lt, own_new_lt, mp_new_lt, rd_newm_lt, own_newm_lt, mp_newm_lt, rd_wr_ne, own_wr_ne, mp_wr_ne, rd_wrm_ne, own_wrm_ne, mp_wrm_ne, rd_new_eq, own_new_eq, mp_newm_eq]
          refine Sl.append (srow.ext fl (fun _ _ h => h)) (Sl.lit_at (size := 1) (n := 1) (xs := [i64 ik]) rfl rfl).rd rfl (ones_nums [(ik : Int)]) (by omega) ?_
          intro v' H9 fp' s9 e9 hfp
          obtain ⟨k1, k2, k3, k4, k5, k6, k7, k8, k9, k10, k11⟩ := fin v' H9 fp' s9 e9 hfp
          obtain ⟨va, vc', rfl, _⟩ := slv_val s9
          refine And.intro k2 ?_
          simp (disch := (first | omega | (simp only [size_new, size_newm, size_wr, size_wrm] <;> omega) | fail)) only [go_sem, Nat.reduceBEq, Nat.reduceAdd, Nat.reduceMul, Nat.reduceLeDiff, ↓reduceIte, rd_new_lt, own_new_lt, mp_new_lt, rd_newm_lt, own_newm_lt, mp_newm_lt, rd_wr_ne, own_wr_ne, mp_wr_ne, rd_wrm_ne, own_wrm_ne, mp_wrm_ne, rd_new_eq, own_new_eq, mp_newm_eq]
          refine ⟨⟨by omega, by omega⟩, ?_⟩
          simp (disch := (first | omega | (simp only [size_new, size_newm, size_wr, size_wrm] <;> omega) | fail)) only [go_sem, Nat.reduceBEq, Nat.reduceAdd, Nat.reduceMul, Nat.reduceLeDiff, ↓reduceIte, rd_new_lt, own_new_lt, mp_new_lt, rd_newm_lt, own_newm_lt, mp_newm_lt, rd_wr_ne, own_wr_ne, mp_wr_ne, rd_wrm_ne, own_wrm_ne, mp_wrm_ne, rd_new_eq, own_new_eq, mp_newm_eq, k1, Nat.mul_one, Nat.zero_add]
          refine ⟨by omega, ?_⟩
          simp (disch := (first | omega | (simp only [size_new, size_newm, size_wr, size_wrm] <;> omega) | fail)) only [go_sem, Nat.reduceBEq, Nat.reduceAdd, Nat.reduceMul, Nat.reduceLeDiff, ↓reduceIte, rd_new_lt, own_new_lt, mp_new_lt, rd_newm_lt, own_newm_lt, mp_newm_lt, rd_wr_ne, own_wr_ne, mp_wr_ne, rd_wrm_ne, own_wrm_ne, mp_wrm_ne, rd_new_eq, own_new_eq, mp_newm_eq]
          refine And.intro (by first | exact k3 | exact k2) ?_
          simp (disch := (first | omega | (simp only [size_new, size_newm, size_wr, size_wrm] <;> omega) | fail)) only [go_sem, Nat.reduceBEq, Nat.reduceAdd, Nat.reduceMul, Nat.reduceLeDiff, ↓reduceIte, rd_new_lt, own_new_lt, mp_new_lt, rd_newm_lt, own_newm_lt, mp_newm_lt, rd_wr_ne, own_wr_ne, mp_wr_ne, rd_wrm_ne, own_wrm_ne, mp_wrm_ne, rd_new_eq, own_new_eq, mp_newm_eq]
          rw [size_wr] at k7
          exact ⟨k4, (by first | exact k5 | exact k11), k6, k7, (by first | exact k3 | exact k2), ⟨_, _, k8, rfl, k9, own_lt k2⟩, trivial, trivial, trivial, trivial, trivial, trivial, trivial, trivial⟩
        · simp (disch := (first | omega | (simp only [size_new, size_newm, size_wr, size_wrm] <;> omega) | fail)) only [go_sem, Nat.reduceBEq, Nat.reduceAdd, Nat.reduceMul, Nat.reduceLeDiff, ↓reduceIte, rd_new_lt, own_new_lt, mp_new_lt, rd_newm_lt, own_newm_lt, mp_newm_lt, rd_wr_ne, own_wr_ne, mp_wr_ne, rd_wrm_ne, own_wrm_ne, mp_wrm_ne, rd_new_eq, own_new_eq, mp_newm_eq]
          refine And.intro (by first | exact ql | exact q7) ?_
          simp (disch := (first | omega | (simp only [size_new, size_newm, size_wr, size_wrm] <;> omega) | fail)) only [go_sem, Nat.reduceBEq, Nat.reduceAdd, Nat.reduceMul, Nat.reduceLeDiff, ↓reduceIte, rd_new_lt, own_new_lt, mp_new_lt, rd_newm_lt, own_newm_lt, mp_newm_lt, rd_wr_ne, own_wr_ne, mp_wr_ne, rd_wrm_ne, own_wrm_ne, mp_wrm_ne, rd_new_eq, own_new_eq, mp_newm_eq, rd_of_own hol3, Nat.mul_one, Nat.zero_add, hsv]
          refine And.intro (by first | exact ql | exact q7) ?_
          simp (disch := (first | omega | (simp only [size_new, size_newm, size_wr, size_wrm] <;> omega) | fail)) only [go_sem, Nat.reduceBEq, Nat.reduceAdd, Nat.reduceMul, Nat.reduceLeDiff, ↓reduceIte, rd_new_lt, own_new_lt, mp_new_lt, rd_newm_lt, own_newm_lt, mp_newm_lt, rd_wr_ne, own_wr_ne, mp_wr_ne, rd_wrm_ne, own_wrm_ne, mp_wrm_ne, rd_new_eq, own_new_eq, mp_newm_eq]
          refine Sl.append (srow.ext fl (fun _ _ h => h)) (Sl.lit_at (size := 1) (n := 1) (xs := [i64 ik]) rfl rfl).rd rfl (ones_nums [(ik : Int)]) (by omega) ?_
          intro v' H9 fp' s9 e9 hfp
          obtain ⟨k1, k2, k3, k4, k5, k6, k7, k8, k9, k10, k11⟩ := fin v' H9 fp' s9 e9 hfp
          obtain ⟨va, vc', rfl, _⟩ := slv_val s9
          refine And.intro k2 ?_
          simp (disch := (first | omega | (simp only [size_new, size_newm, size_wr, size_wrm] <;> omega) | fail)) only [go_sem, Nat.reduceBEq, Nat.reduceAdd, Nat.reduceMul, Nat.reduceLeDiff, ↓reduceIte, rd_new_lt, own_new_lt, mp_new_lt, rd_newm_lt, own_newm_lt, mp_newm_lt, rd_wr_ne, own_wr_ne, mp_wr_ne, rd_wrm_ne, own_wrm_ne, mp_wrm_ne, rd_new_eq, own_new_eq, mp_newm_eq]
          refine ⟨⟨by omega, by omega⟩, ?_⟩
          simp (disch := (first | omega | (simp only [size_new, size_newm, size_wr, size_wrm] <;> omega) | fail)) only [go_sem, Nat.reduceBEq, Nat.reduceAdd, Nat.reduceMul, Nat.reduceLeDiff, ↓reduceIte, rd_new_lt, own_new_lt, mp_new_lt, rd_newm_lt, own_newm_lt, mp_newm_lt, rd_wr_ne, own_wr_ne, mp_wr_ne, rd_wrm_ne, own_wrm_ne, mp_wrm_ne, rd_new_eq, own_new_eq, mp_newm_eq, k1, Nat.mul_one, Nat.zero_add]
          refine ⟨by omega, ?_⟩
          simp (disch := (first | omega | (simp only [size_new, size_newm, size_wr, size_wrm] <;> omega) | fail)) only [go_sem, Nat.reduceBEq, Nat.reduceAdd, Nat.reduceMul, Nat.reduceLeDiff, ↓reduceIte, rd_new_lt, own_new_lt, mp_new_lt, rd_newm_lt, own_newm_lt, mp_newm_lt, rd_wr_ne, own_wr_ne, mp_wr_ne, rd_wrm_ne, own_wrm_ne, mp_wrm_ne, rd_new_eq, own_new_eq, mp_newm_eq]
          refine And.intro (by first | exact k3 | exact k2) ?_
          simp (disch := (first | omega | (simp only [size_new, size_newm, size_wr, size_wrm] <;> omega) | fail)) only [go_sem, Nat.reduceBEq, Nat.reduceAdd, Nat.reduceMul, Nat.reduceLeDiff, ↓reduceIte, rd_new_lt, own_new_lt, mp_new_lt, rd_newm_lt, own_newm_lt, mp_newm_lt, rd_wr_ne, own_wr_ne, mp_wr_ne, rd_wrm_ne, own_wrm_ne, mp_wrm_ne, rd_new_eq, own_new_eq, mp_newm_eq]
          rw [size_wr] at k7
          exact ⟨k4, (by first | exact k5 | exact k11), k6, k7, (by first | exact k3 | exact k2), ⟨_, _, k8, rfl, k9, own_lt k2⟩, trivial, trivial, trivial, trivial, trivial, trivial, trivial, trivial⟩
      · rintro e' H8 ⟨f8, g8, t8, z8, q8, ⟨_, fp8, sl8, rfl, hne8, _⟩, e2, e5, e6, e8, e9, e32, e33, e34⟩
        have hxl8 : ∀ v, v < n.toNat → ((putL xs e.f.toNat (xs e.f.toNat ++ [(ik : Int)])) v).length ≤ 2 * j + 1 := fun v hv => by
          have := hxl v hv
          unfold putL
          split
          · rename_i hh; subst hh; rw [List.length_append, List.length_singleton]; omega
          · omega
        simp (disch := (first | omega | (simp only [size_new, size_newm, size_wr, size_wrm] <;> omega) | fail)) only [go_sem, Nat.reduceBEq, Nat.reduceAdd, Nat.reduceMul, Nat.reduceLeDiff, ↓reduceIte, rd_new_lt, own_new_lt, mp_new_lt, rd_newm_lt, own_newm_lt, mp_newm_lt, rd_wr_ne, own_wr_ne, mp_wr_ne, rd_wrm_ne, own_wrm_ne, mp_wrm_ne, rd_new_eq, own_new_eq, mp_newm_eq, e2, e5, e6, e8, e9, e32, e33, e34]
        have hIt : e.t.toNat < n.toNat := by omega
        obtain ⟨svs, sv, ho3, hsl, hsv, srow⟩ := sl8.get hIt
        have hlr := hxl8 e.t.toNat hIt
        refine InvV.intro (fun H' => H'.own H6.size = some [i64 e.f, i64 e.t, i64 e.w]) q8 ?_
        simp (disch := (first | omega | (simp only [size_new, size_newm, size_wr, size_wrm] <;> omega) | fail)) only [go_sem, Nat.reduceBEq, Nat.reduceAdd, Nat.reduceMul, Nat.reduceLeDiff, ↓reduceIte, rd_new_lt, own_new_lt, mp_new_lt, rd_newm_lt, own_newm_lt, mp_newm_lt, rd_wr_ne, own_wr_ne, mp_wr_ne, rd_wrm_ne, own_wrm_ne, mp_wrm_ne, rd_new_eq, own_new_eq, mp_newm_eq, e2, e5, e6, e8, e9, e32, e33, e34]
        refine StbV.intro (i64 e.t) (fun H' hI => by simp (disch := (first | omega | (simp only [size_new, size_newm, size_wr, size_wrm] <;> omega) | fail)) only [go_sem, Nat.reduceBEq, Nat.reduceAdd, Nat.reduceMul, Nat.reduceLeDiff, ↓reduceIte, rd_new_lt, own_new_lt, mp_new_lt, rd_newm_lt, own_newm_lt, mp_newm_lt, rd_wr_ne, own_wr_ne, mp_wr_ne, rd_wrm_ne, own_wrm_ne, mp_wrm_ne, rd_new_eq, own_new_eq, mp_newm_eq, e2, e5, e6, e8, e9, e32, e33, e34, rd_of_own hI]; exact ⟨trivial, trivial⟩) ?_
        simp (disch := (first | omega | (simp only [size_new, size_newm, size_wr, size_wrm] <;> omega) | fail)) only [go_sem, Nat.reduceBEq, Nat.reduceAdd, Nat.reduceMul, Nat.reduceLeDiff, ↓reduceIte, rd_new_lt, own_new_lt, mp_new_lt, rd_newm_lt, own_newm_lt, mp_newm_lt, rd_wr_ne, own_wr_ne, mp_wr_ne, rd_wrm_ne, own_wrm_ne, mp_wrm_ne, rd_new_eq, own_new_eq, mp_newm_eq, e2, e5, e6, e8, e9, e32, e33, e34]
        refine StbV.intro (i64 e.t) (fun H' hI => by simp (disch := (first | omega | (simp only [size_new, size_newm, size_wr, size_wrm] <;> omega) | fail)) only [go_sem, Nat.reduceBEq, Nat.reduceAdd, Nat.reduceMul, Nat.reduceLeDiff, ↓reduceIte, rd_new_lt, own_new_lt, mp_new_lt, rd_newm_lt, own_newm_lt, mp_newm_lt, rd_wr_ne, own_wr_ne, mp_wr_ne, rd_wrm_ne, own_wrm_ne, mp_wrm_ne, rd_new_eq, own_new_eq, mp_newm_eq, e2, e5, e6, e8, e9, e32, e33, e34, rd_of_own hI]; exact ⟨trivial, trivial⟩) ?_
        simp (disch := (first | omega | (simp only [size_new, size_newm, size_wr, size_wrm] <;> omega) | fail)) only [go_sem, Nat.reduceBEq, Nat.reduceAdd, Nat.reduceMul, Nat.reduceLeDiff, ↓reduceIte, rd_new_lt, own_new_lt, mp_new_lt, rd_newm_lt, own_newm_lt, mp_newm_lt, rd_wr_ne, own_wr_ne, mp_wr_ne, rd_wrm_ne, own_wrm_ne, mp_wrm_ne, rd_new_eq, own_new_eq, mp_newm_eq, e2, e5, e6, e8, e9, e32, e33, e34]
        refine ⟨⟨by omega, by omega⟩, ?_⟩
        simp (disch := (first | omega | (simp only [size_new, size_newm, size_wr, size_wrm] <;> omega) | fail)) only [go_sem, Nat.reduceBEq, Nat.reduceAdd, Nat.reduceMul, Nat.reduceLeDiff, ↓reduceIte, rd_new_lt, own_new_lt, mp_new_lt, rd_newm_lt, own_newm_lt, mp_newm_lt, rd_wr_ne, own_wr_ne, mp_wr_ne, rd_wrm_ne, own_wrm_ne, mp_wrm_ne, rd_new_eq, own_new_eq, mp_newm_eq, e2, e5, e6, e8, e9, e32, e33, e34]
        have fl : Fresh H8 (H8.new 3 [i64 ik]) := (Ext.refl _ _).new _ _
        have ql := fl.own q8 (fun h => h)
        have hol3 := fl.own ho3 (fun h => h)
        have hzl : (H8.new 3 [i64 ik]).size = H8.size + 1 := by rw [size_new]
        have hqne := hne8 e.t.toNat
        have hlow := sl8.low e.t.toNat hIt
        have hlt7 := sl8.lt
        have hq7 := own_lt q8
        have fin : ∀ (v' : Value) (H9 : Hp) (fp' : Option Nat), Sl H9 1 v' (((putL xs e.f.toNat (xs e.f.toNat ++ [(ik : Int)])) e.t.toNat).length + 1) (((putL xs e.f.toNat (xs e.f.toNat ++ [(ik : Int)])) e.t.toNat).map i64 ++ [i64 ik]) fp' → Ext (fun z => fp8 e.t.toNat = some z) (H8.new 3 [i64 ik]) H9 →
            (fp' = fp8 e.t.toNat ∨ ∃ p, fp' = some p ∧ (H8.new 3 [i64 ik]).size ≤ p ∧ p < H9.size) →
            H9.own H4.size = some svs ∧ H9.own H6.size = some [i64 e.f, i64 e.t, i64 e.w] ∧ (H9.wr H4.size (svs.set e.t.toNat v')).own H6.size = some [i64 e.f, i64 e.t, i64 e.w] ∧ Fresh H (H9.wr H4.size (svs.set e.t.toNat v')) ∧
            (H9.wr H4.size (svs.set e.t.toNat v')).own H.size = some [i64 n, .slice (some ⟨be, oe, none⟩) es.length c] ∧
            TreeAt (H9.wr H4.size (svs.set e.t.toNat v')) (H.size + 1) t bu bd bp n.toNat n (.slice (some ⟨be, oe, none⟩) es.length c) (fun _ => 0) (fun _ => 0) (fun _ => 0) ∧ H5.size ≤ (H9.wr H4.size (svs.set e.t.toNat v')).size ∧
            Sll (H9.wr H4.size (svs.set e.t.toNat v')) H4.size H4.size n.toNat (putL (putL xs e.f.toNat (xs e.f.toNat ++ [(ik : Int)])) e.t.toNat ((putL xs e.f.toNat (xs e.f.toNat ++ [(ik : Int)])) e.t.toNat ++ [(ik : Int)])) (putO fp8 e.t.toNat fp') ∧ (∀ i q, i < n.toNat → putO fp8 e.t.toNat fp' i = some q → q ≠ H6.size) ∧ H6.size < (H9.wr H4.size (svs.set e.t.toNat v')).size ∧ H9.own H.size = some [i64 n, .slice (some ⟨be, oe, none⟩) es.length c] := by
          intro v' H9 fp' s9 e9 hfp
          obtain ⟨k1, k2, k3, k4⟩ := sl8.push hIt ho3 fl s9 e9 hfp
          have a1 := k2.own q8 (fun hh => hqne _ hIt hh rfl)
          have a2 := k3.own q8 (fun hh => hh.elim (fun hh => hqne _ hIt hh rfl) (fun hh => by omega))
          refine ⟨k1, a1, a2, f8.then k3 (fun z hz => hz.elim (fun hz => by have := (hlow z hz).1; omega) (fun hz => by omega)), k3.own g8 (fun hh => hh.elim (fun hz => by have := (hlow _ hz).1; omega) (fun hz => by omega)), t8.ext k3 ⟨?_, ?_, ?_, ?_⟩, Nat.le_trans (by omega) k3.size, k4, fun i q hi hq => ?_, own_lt a2, k2.own g8 (fun hz => by have := (hlow _ hz).1; omega)⟩
          · exact fun hh => hh.elim (fun hz => by have := (hlow _ hz).1; omega) (fun hz => by omega)
          · exact fun hh => hh.elim (fun hz => by have := (hlow _ hz).1; omega) (fun hz => by omega)
          · exact fun hh => hh.elim (fun hz => by have := (hlow _ hz).1; omega) (fun hz => by omega)
          · exact fun hh => hh.elim (fun hz => by have := (hlow _ hz).1; omega) (fun hz => by omega)
          · unfold putO at hq
            split at hq
            · rcases hfp with h | ⟨p, h, h1, _⟩
              · rw [h] at hq; exact hqne _ hIt hq
              · rw [h] at hq; injection hq with hq; omega
            · exact hne8 i q hi hq
        obtain ⟨ra, rc, rfl, hrc⟩ := slv_val srow
        refine Two.intro ?_ ?_
        · simp (disch := (first | omega | (simp only [size_new, size_newm, size_wr, size_wrm] <;> omega) | fail)) only [go_sem, Nat.reduceBEq, Nat.reduceAdd, Nat.reduceMul, Nat.reduceLeDiff, ↓reduceIte, rd_new_lt, own_new_lt, mp_new_lt, rd_newm_lt, own_newm_lt, mp_newm_lt, rd_wr_ne, own_wr_ne, mp_wr_ne, rd_wrm_ne, own_wrm_ne, mp_wrm_ne, rd_new_eq, own_new_eq, mp_newm_eq, e2, e5, e6, e8, e9, e32, e33, e34, rd_of_own ho3, Nat.mul_one, Nat.zero_add, hsv]
          refine And.intro q8 ?_
          simp (disch := (first | omega | (simp only [size_new, size_newm, size_wr, size_wrm] <;> omega) | fail)) only [go_sem, Nat.reduceBEq, Nat.reduceAdd, Nat.reduceMul, Nat.reduceLeDiff, ↓reduceIte, rd_new_lt, own_new_lt, mp_new_lt, rd_newm_lt, own_newm_lt, mp_newm_lt, rd_wr_ne, own_wr_ne, mp_wr_ne, rd_wrm_ne, own_wrm_ne, mp_wrm_ne, rd_new_eq, own_new_eq, mp_newm_eq, e2, e5, e6, e8, e9, e32, e33, e34]
          refine And.intro (by first | exact ql | exact q8) ?_
          simp (disch := (first | omega | (simp only [size_new, size_newm, size_wr, size_wrm] <;> omega) | fail)) only [go_sem, Nat.reduceBEq, Nat.reduceAdd, Nat.reduceMul, Nat.reduceLeDiff, ↓reduceIte, rd_new_lt, own_new_lt, mp_new_lt, rd_newm_lt, own_newm_lt, mp_newm_lt, rd_wr_ne, own_wr_ne, mp_wr_ne, rd_wrm_ne, own_wrm_ne, mp_wrm_ne, rd_new_eq, own_new_eq, mp_newm_eq, e2, e5, e6, e8, e9, e32, e33, e34]
          refine Sl.append (srow.ext fl (fun _ _ h => h)) (Sl.lit_at (size := 1) (n := 1) (xs := [i64 ik]) rfl rfl).rd rfl (ones_nums [(ik : Int)]) (by omega) ?_
          intro v' H9 fp' s9 e9 hfp
          obtain ⟨k1, k2, k3, k4, k5, k6, k7, k8, k9, k10, k11⟩ := fin v' H9 fp' s9 e9 hfp
          obtain ⟨va, vc', rfl, _⟩ := slv_val s9
          refine And.intro k2 ?_
          simp (disch := (first | omega | (simp only [size_new, size_newm, size_wr, size_wrm] <;> omega) | fail)) only [go_sem, Nat.reduceBEq, Nat.reduceAdd, Nat.reduceMul, Nat.reduceLeDiff, ↓reduceIte, rd_new_lt, own_new_lt, mp_new_lt, rd_newm_lt, own_newm_lt, mp_newm_lt, rd_wr_ne, own_wr_ne, mp_wr_ne, rd_wrm_ne, own_wrm_ne, mp_wrm_ne, rd_new_eq, own_new_eq, mp_newm_eq, e2, e5, e6, e8, e9, e32, e33, e34]
          refine ⟨⟨by omega, by omega⟩, ?_⟩
          simp (disch := (first | omega | (simp only [size_new, size_newm, size_wr, size_wrm] <;> omega) | fail)) only [go_sem, Nat.reduceBEq, Nat.reduceAdd, Nat.reduceMul, Nat.reduceLeDiff, ↓reduceIte, rd_new_lt, own_new_lt, mp_new_lt, rd_newm_lt, own_newm_lt, mp_newm_lt, rd_wr_ne, own_wr_ne, mp_wr_ne, rd_wrm_ne, own_wrm_ne, mp_wrm_ne, rd_new_eq, own_new_eq, mp_newm_eq, e2, e5, e6, e8, e9, e32, e33, e34, k1, Nat.mul_one, Nat.zero_add]
          refine ⟨by omega, ?_⟩
          simp (disch := (first | omega | (simp only [size_new, size_newm, size_wr, size_wrm] <;> omega) | fail)) only [go_sem, Nat.reduceBEq, Nat.reduceAdd, Nat.reduceMul, Nat.reduceLeDiff, ↓reduceIte, rd_new_lt, own_new_lt, mp_new_lt, rd_newm_lt, own_newm_lt, mp_newm_lt, rd_wr_ne, own_wr_ne, mp_wr_ne, rd_wrm_ne, own_wrm_ne, mp_wrm_ne, rd_new_eq, own_new_eq, mp_newm_eq, e2, e5, e6, e8, e9, e32, e33, e34]
          refine And.intro (by first | exact k3 | exact k2) ?_
          simp (disch := (first | omega | (simp only [size_new, size_newm, size_wr, size_wrm] <;> omega) | fail)) only [go_sem, Nat.reduceBEq, Nat.reduceAdd, Nat.reduceMul, Nat.reduceLeDiff, ↓reduceIte, rd_new_lt, own_new_lt, mp_new_lt, rd_newm_lt, own_newm_lt, mp_newm_lt, rd_wr_ne, own_wr_ne, mp_wr_ne, rd_wrm_ne, own_wrm_ne, mp_wrm_ne, rd_new_eq, own_new_eq, mp_newm_eq, e2, e5, e6, e8, e9, e32, e33, e34]
          rw [size_wr] at k7
          exact ⟨k4, (by first | exact k5 | exact k11), k6, k7, ⟨_, _, k8, touch_two htr (by rw [List.take_add_one, hi]; rfl) (fE_at he), putL2_len hxl⟩, trivial, trivial, trivial, trivial, trivial, trivial⟩
        · simp (disch := (first | omega | (simp only [size_new, size_newm, size_wr, size_wrm] <;> omega) | fail)) only [go_sem, Nat.reduceBEq, Nat.reduceAdd, Nat.reduceMul, Nat.reduceLeDiff, ↓reduceIte, rd_new_lt, own_new_lt, mp_new_lt, rd_newm_lt, own_newm_lt, mp_newm_lt, rd_wr_ne, own_wr_ne, mp_wr_ne, rd_wrm_ne, own_wrm_ne, mp_wrm_ne, rd_new_eq, own_new_eq, mp_newm_eq, e2, e5, e6, e8, e9, e32, e33, e34]
          refine And.intro (by first | exact ql | exact q8) ?_
          simp (disch := (first | omega | (simp only [size_new, size_newm, size_wr, size_wrm] <;> omega) | fail)) only [go_sem, Nat.reduceBEq, Nat.reduceAdd, Nat.reduceMul, Nat.reduceLeDiff, ↓reduceIte, rd_new_lt, own_new_lt, mp_new_lt, rd_newm_lt, own_newm_lt, mp_newm_lt, rd_wr_ne, own_wr_ne, mp_wr_ne, rd_wrm_ne, own_wrm_ne, mp_wrm_ne, rd_new_eq, own_new_eq, mp_newm_eq, e2, e5, e6, e8, e9, e32, e33, e34, rd_of_own hol3, Nat.mul_one, Nat.zero_add, hsv]
          refine And.intro (by first | exact ql | exact q8) ?_
          simp (disch := (first | omega | (simp only [size_new, size_newm, size_wr, size_wrm] <;> omega) | fail)) only [go_sem, Nat.reduceBEq, Nat.reduceAdd, Nat.reduceMul, Nat.reduceLeDiff, ↓reduceIte, rd_new_lt, own_new_lt, mp_new_lt, rd_newm_lt, own_newm_lt, mp_newm_lt, rd_wr_ne, own_wr_ne, mp_wr_ne, rd_wrm_ne, own_wrm_ne, mp_wrm_ne, rd_new_eq, own_new_eq, mp_newm_eq, e2, e5, e6, e8, e9, e32, e33, e34]
          refine Sl.append (srow.ext fl (fun _ _ h => h)) (Sl.lit_at (size := 1) (n := 1) (xs := [i64 ik]) rfl rfl).rd rfl (ones_nums [(ik : Int)]) (by omega) ?_
          intro v' H9 fp' s9 e9 hfp
          obtain ⟨k1, k2, k3, k4, k5, k6, k7, k8, k9, k10, k11⟩ := fin v' H9 fp' s9 e9 hfp
          obtain ⟨va, vc', rfl, _⟩ := slv_val s9
          refine And.intro k2 ?_
          simp (disch := (first | omega | (simp only [size_new, size_newm, size_wr, size_wrm] <;> omega) | fail)) only [go_sem, Nat.reduceBEq, Nat.reduceAdd, Nat.reduceMul, Nat.reduceLeDiff, ↓reduceIte, rd_new_lt, own_new_lt, mp_new_lt, rd_newm_lt, own_newm_lt, mp_newm_lt, rd_wr_ne, own_wr_ne, mp_wr_ne, rd_wrm_ne, own_wrm_ne, mp_wrm_ne, rd_new_eq, own_new_eq, mp_newm_eq, e2, e5, e6, e8, e9, e32, e33, e34]
          refine ⟨⟨by omega, by omega⟩, ?_⟩
          simp (disch := (first | omega | (simp only [size_new, size_newm, size_wr, size_wrm] <;> omega) | fail)) only [go_sem, Nat.reduceBEq, Nat.reduceAdd, Nat.reduceMul, Nat.reduceLeDiff, ↓reduceIte, rd_new_lt, own_new_lt, mp_new_lt, rd_newm_lt, own_newm_lt, mp_newm_lt, rd_wr_ne, own_wr_ne, mp_wr_ne, rd_wrm_ne, own_wrm_ne, mp_wrm_ne, rd_new_eq, own_new_eq, mp_newm_eq, e2, e5, e6, e8, e9, e32, e33, e34, k1, Nat.mul_one, Nat.zero_add]
          refine ⟨by omega, ?_⟩
          simp (disch := (first | omega | (simp only [size_new, size_newm, size_wr, size_wrm] <;> omega) | fail)) only [go_sem, Nat.reduceBEq, Nat.reduceAdd, Nat.reduceMul, Nat.reduceLeDiff, ↓reduceIte, rd_new_lt, own_new_lt, mp_new_lt, rd_newm_lt, own_newm_lt, mp_newm_lt, rd_wr_ne, own_wr_ne, mp_wr_ne, rd_wrm_ne, own_wrm_ne, mp_wrm_ne, rd_new_eq, own_new_eq, mp_newm_eq, e2, e5, e6, e8, e9, e32, e33, e34]
          refine And.intro (by first | exact k3 | exact k2) ?_
          simp (disch := (first | omega | (simp only [size_new, size_newm, size_wr, size_wrm] <;> omega) | fail)) only [go_sem, Nat.reduceBEq, Nat.reduceAdd, Nat.reduceMul, Nat.reduceLeDiff, ↓reduceIte, rd_new_lt, own_new_lt, mp_new_lt, rd_newm_lt, own_newm_lt, mp_newm_lt, rd_wr_ne, own_wr_ne, mp_wr_ne, rd_wrm_ne, own_wrm_ne, mp_wrm_ne, rd_new_eq, own_new_eq, mp_newm_eq, e2, e5, e6, e8, e9, e32, e33, e34]
          rw [size_wr] at k7
          exact ⟨k4, (by first | exact k5 | exact k11), k6, k7, ⟨_, _, k8, touch_two htr (by rw [List.take_add_one, hi]; rfl) (fE_at he), putL2_len hxl⟩, trivial, trivial, trivial, trivial, trivial, trivial⟩
    · rintro e H7 ⟨f7, g7, t7, z7, ⟨xs7, fp7, sl7, tr7, hx7⟩, e2, e5, e6, e32, e33, e34⟩
      simp (disch := (first | omega | (simp only [size_new, size_newm, size_wr, size_wrm] <;> omega) | fail)) only [go_sem, Nat.reduceBEq, Nat.reduceAdd, Nat.reduceMul, Nat.reduceLeDiff, ↓reduceIte, rd_new_lt, own_new_lt, mp_new_lt, rd_newm_lt, own_newm_lt, mp_newm_lt, rd_wr_ne, own_wr_ne, mp_wr_ne, rd_wrm_ne, own_wrm_ne, mp_wrm_ne, rd_new_eq, own_new_eq, mp_newm_eq, e2, e5, e6, e32, e33, e34]
      rw [wrap64 (n := (j : Int) + 1) (by omega) (by omega)]
      exact ⟨ks.length - (j + 1), by omega, f7, g7, t7, z7, j + 1, xs7, fp7, rfl, by omega, sl7, tr7, hx7, rfl⟩
  · have hj2 : j = ks.length := by omega
    subst hj2
    rw [List.take_length] at htr
    have hlt6 := sl6.lt
    have st6 : St H H6 H4.size H6.size t bu bd bp H4.size n.toNat n (.slice a es.length c) xs fp (fun _ => 0) (fun _ => 0) (fun v => if v < 0 then -1 else 0) := ⟨f6, g6, sl6, t6, ⟨hlt4.1, hlt4.2.1, hlt4.2.2.1, hlt4.2.2.2⟩, ⟨Nat.le_refl _, by omega, fun i q hi hq => sl6.fpLt hi hq⟩, Nat.le_refl _, by omega⟩
    generalize H6.size = B1 at *
    have hb1 : H4.size < B1 := hlt6
    simp (disch := (first | omega | (simp only [size_new, size_newm, size_wr, size_wrm] <;> omega) | fail)) only [go_sem, Nat.reduceBEq, Nat.reduceAdd, Nat.reduceMul, Nat.reduceLeDiff, ↓reduceIte, rd_new_lt, own_new_lt, mp_new_lt, rd_newm_lt, own_newm_lt, mp_newm_lt, rd_wr_ne, own_wr_ne, mp_wr_ne, rd_wrm_ne, own_wrm_ne, mp_wrm_ne, rd_new_eq, own_new_eq, mp_newm_eq, rd_of_own t6.box]
    clear t6 g6 f6 sl6 h6 h6' z6
    refine LoopV.intro (fun m env H' => ∃ k, m = n.toNat - k ∧ k ≤ n.toNat ∧ St H H' H4.size B1 t bu bd bp H4.size n.toNat n (.slice a es.length c) xs fp (fun _ => 0) (fun _ => 0) (fun v => if v < k then -1 else 0) ∧
      env = [(2, ptr H.size), (5, ptr t), (6, .slice (some ⟨H4.size, 0, none⟩) n.toNat n.toNat), (72, i64 n.toNat), (73, i64 k)]) n.toNat ⟨0, by omega, by omega, st6, rfl⟩ ?_
    clear st6
    rintro m env H7 ⟨k, hmk, hk, st7, rfl⟩
    simp (disch := (first | omega | (simp only [size_new, size_newm, size_wr, size_wrm] <;> omega) | fail)) only [go_sem, Nat.reduceBEq, Nat.reduceAdd, Nat.reduceMul, Nat.reduceLeDiff, ↓reduceIte, rd_new_lt, own_new_lt, mp_new_lt, rd_newm_lt, own_newm_lt, mp_newm_lt, rd_wr_ne, own_wr_ne, mp_wr_ne, rd_wrm_ne, own_wrm_ne, mp_wrm_ne, rd_new_eq, own_new_eq, mp_newm_eq]
    refine Both.dec (fun hlt => ?_) (fun hlt => ?_) <;> simp (disch := (first | omega | (simp only [size_new, size_newm, size_wr, size_wrm] <;> omega) | fail)) only [go_sem, Nat.reduceBEq, Nat.reduceAdd, Nat.reduceMul, Nat.reduceLeDiff, ↓reduceIte, rd_new_lt, own_new_lt, mp_new_lt, rd_newm_lt, own_newm_lt, mp_newm_lt, rd_wr_ne, own_wr_ne, mp_wr_ne, rd_wrm_ne, own_wrm_ne, mp_wrm_ne, rd_new_eq, own_new_eq, mp_newm_eq, rd_of_own st7.tree.box]
    · refine ⟨⟨by omega, by omega⟩, ?_⟩
      simp (disch := (first | omega | (simp only [size_new, size_newm, size_wr, size_wrm] <;> omega) | fail)) only [go_sem, Nat.reduceBEq, Nat.reduceAdd, Nat.reduceMul, Nat.reduceLeDiff, ↓reduceIte, rd_new_lt, own_new_lt, mp_new_lt, rd_newm_lt, own_newm_lt, mp_newm_lt, rd_wr_ne, own_wr_ne, mp_wr_ne, rd_wrm_ne, own_wrm_ne, mp_wrm_ne, rd_new_eq, own_new_eq, mp_newm_eq, st7.tree.parts, Int.toNat_natCast, Nat.mul_one, Nat.zero_add]
      refine ⟨by rw [List.length_map, ofF_len]; omega, ?_⟩
      simp (disch := (first | omega | (simp only [size_new, size_newm, size_wr, size_wrm] <;> omega) | fail)) only [go_sem, Nat.reduceBEq, Nat.reduceAdd, Nat.reduceMul, Nat.reduceLeDiff, ↓reduceIte, rd_new_lt, own_new_lt, mp_new_lt, rd_newm_lt, own_newm_lt, mp_newm_lt, rd_wr_ne, own_wr_ne, mp_wr_ne, rd_wrm_ne, own_wrm_ne, mp_wrm_ne, rd_new_eq, own_new_eq, mp_newm_eq]
      rw [wrap64 (n := (k : Int) + 1) (by omega) (by omega)]
      refine ⟨n.toNat - (k + 1), by omega, k + 1, rfl, by omega, ?_, rfl⟩
      have st8 := st7.setPart (i := k) (by omega) (-1)
      have e : upd (fun v => if v < k then (-1 : Int) else 0) k (-1) = fun v => if v < k + 1 then -1 else 0 := by
        funext v
        show (if v = k then (-1 : Int) else if v < k then -1 else 0) = if v < k + 1 then -1 else 0
        by_cases h1 : v = k
        · rw [if_pos h1, if_pos (by omega)]
        · rw [if_neg h1]
          by_cases h2 : v < k
          · rw [if_pos h2, if_pos (by omega)]
          · rw [if_neg h2, if_neg (by omega)]
      rw [e] at st8
      exact st8
    have hkn : k = n.toNat := by omega
    subst hkn
    have hT : ∀ v, v < n.toNat → ∀ i, i ∈ xs v ↔ i ∈ ks ∧ Touch (fE es i) v := htr
    have hbnd : ∀ i ∈ ks, (fE es i).1 < n.toNat ∧ (fE es i).2 < n.toNat := fun i hi => by
      obtain ⟨ik, e, rfl, he, hik⟩ := (hin i hi).get
      obtain ⟨ef0, ef1, et0, et1⟩ := hr.ends e (List.mem_of_getElem? he)
      rw [fE_at he]
      exact ⟨by show e.f.toNat < _; omega, by show e.t.toNat < _; omega⟩
    have st8 : St H H7 H4.size B1 t bu bd bp H4.size n.toNat n (.slice a es.length c) xs fp (fun _ => 0) (fun v => (((fun _ => 0 : Nat → Nat) v : Nat) : Int)) (fun _ => -1) := by
      obtain ⟨q1, q2, q3, q4, q5, q6, q7⟩ := st7
      refine ⟨q1, q2, q3, ⟨q4.box, q4.ups, q4.deeps, ?_, q4.low, q4.ap⟩, q5, q6, q7⟩
      rw [q4.parts]
      congr 2
      exact ofF_congr fun v hv => if_pos hv
    have d8 := Dfs.begin n.toNat (fE es) ks (fun _ => 0)
    have hfree : free n.toNat (fun _ => -1) = n.toNat := by
      have : ∀ m, free m (fun _ => -1) = m := fun m => by
        induction m with
        | zero => rfl
        | succ m ih => unfold free; rw [ih, if_pos rfl]
      exact this _
    clear st7 htr
    refine LoopV.intro (fun m env H' => ∃ (k : Nat) (up : Nat → Int) (deep : Nat → Nat) (p : Nat → Int) (root : Int), m = n.toNat - k ∧ k ≤ n.toNat ∧ St H H' H4.size B1 t bu bd bp H4.size n.toNat n (.slice a es.length c) xs fp up (fun v => ((deep v : Nat) : Int)) p ∧
      Dfs n.toNat (fE es) ks p up deep root [] none ∧ (∀ v, v < k → p v ≠ -1) ∧ (∀ v, v < n.toNat → deep v + free n.toNat p ≤ n.toNat) ∧
      env = [(2, ptr H.size), (5, ptr t), (6, .slice (some ⟨H4.size, 0, none⟩) n.toNat n.toNat), (87, i64 n.toNat), (88, i64 k)]) n.toNat ⟨0, _, _, _, _, by omega, by omega, st8, d8, fun v hv => absurd hv (by omega), fun v _ => by rw [hfree]; exact Nat.le_of_eq (Nat.zero_add _), rfl⟩ ?_
    clear st8 d8 hfree
    rintro m env H8 ⟨k, up, deep, p, root, hmk, hk, st8, d8, hpk, hdp, rfl⟩
    simp (disch := (first | omega | (simp only [size_new, size_newm, size_wr, size_wrm] <;> omega) | fail)) only [go_sem, Nat.reduceBEq, Nat.reduceAdd, Nat.reduceMul, Nat.reduceLeDiff, ↓reduceIte, rd_new_lt, own_new_lt, mp_new_lt, rd_newm_lt, own_newm_lt, mp_newm_lt, rd_wr_ne, own_wr_ne, mp_wr_ne, rd_wrm_ne, own_wrm_ne, mp_wrm_ne, rd_new_eq, own_new_eq, mp_newm_eq]
    refine Both.dec (fun hlt => ?_) (fun hlt => ?_) <;> simp (disch := (first | omega | (simp only [size_new, size_newm, size_wr, size_wrm] <;> omega) | fail)) only [go_sem, Nat.reduceBEq, Nat.reduceAdd, Nat.reduceMul, Nat.reduceLeDiff, ↓reduceIte, rd_new_lt, own_new_lt, mp_new_lt, rd_newm_lt, own_newm_lt, mp_newm_lt, rd_wr_ne, own_wr_ne, mp_wr_ne, rd_wrm_ne, own_wrm_ne, mp_wrm_ne, rd_new_eq, own_new_eq, mp_newm_eq]
    rotate_left
    · have hkn : k = n.toNat := by omega
      subst hkn
      refine ⟨st8.fr, t, bu, bd, bp, up, deep, fun v => (p v).toNat, rfl, ?_, d8.rooted hbnd hpk, fun v hv => by have := hdp v hv; omega⟩
      obtain ⟨q1, q2, q3, q4, q5, q6, q7⟩ := st8
      refine ⟨q4.box, q4.ups, q4.deeps, ?_, q4.low, q4.ap⟩
      rw [q4.parts]
      congr 2
      exact ofF_congr fun v hv => by
        have := (d8.low v hv (hpk v hv)).1
        show p v = (((p v).toNat : Nat) : Int)
        omega
    have hkn : k < n.toNat := by omega
    refine vc_cut (fun e H' => (∃ (up : Nat → Int) (deep : Nat → Nat) (p : Nat → Int) (root : Int), St H H' H4.size B1 t bu bd bp H4.size n.toNat n (.slice a es.length c) xs fp up (fun v => ((deep v : Nat) : Int)) p ∧
      Dfs n.toNat (fE es) ks p up deep root [] none ∧ (∀ v, v < k + 1 → p v ≠ -1) ∧ (∀ v, v < n.toNat → deep v + free n.toNat p ≤ n.toNat)) ∧
      e.find 2 = some (ptr H.size) ∧ e.find 5 = some (ptr t) ∧ e.find 6 = some (.slice (some ⟨H4.size, 0, none⟩) n.toNat n.toNat) ∧ e.find 87 = some (i64 n.toNat) ∧ e.find 88 = some (i64 k)) ?_ ?_
    rotate_left
    · rintro e H9 ⟨⟨up', deep', p', root', st9, d9, hpk9, hdp9⟩, e2, e5, e6, e87, e88⟩
      simp (disch := (first | omega | (simp only [size_new, size_newm, size_wr, size_wrm] <;> omega) | fail)) only [go_sem, Nat.reduceBEq, Nat.reduceAdd, Nat.reduceMul, Nat.reduceLeDiff, ↓reduceIte, rd_new_lt, own_new_lt, mp_new_lt, rd_newm_lt, own_newm_lt, mp_newm_lt, rd_wr_ne, own_wr_ne, mp_wr_ne, rd_wrm_ne, own_wrm_ne, mp_wrm_ne, rd_new_eq, own_new_eq, mp_newm_eq, e2, e5, e6, e87, e88]
      rw [wrap64 (n := (k : Int) + 1) (by omega) (by omega)]
      exact ⟨n.toNat - (k + 1), by omega, k + 1, up', deep', p', root', rfl, by omega, st9, d9, hpk9, hdp9, rfl⟩
    simp (disch := (first | omega | (simp only [size_new, size_newm, size_wr, size_wrm] <;> omega) | fail)) only [go_sem, Nat.reduceBEq, Nat.reduceAdd, Nat.reduceMul, Nat.reduceLeDiff, ↓reduceIte, rd_new_lt, own_new_lt, mp_new_lt, rd_newm_lt, own_newm_lt, mp_newm_lt, rd_wr_ne, own_wr_ne, mp_wr_ne, rd_wrm_ne, own_wrm_ne, mp_wrm_ne, rd_new_eq, own_new_eq, mp_newm_eq, rd_of_own st8.tree.box]
    refine ⟨⟨by omega, by omega⟩, ?_⟩
    simp (disch := (first | omega | (simp only [size_new, size_newm, size_wr, size_wrm] <;> omega) | fail)) only [go_sem, Nat.reduceBEq, Nat.reduceAdd, Nat.reduceMul, Nat.reduceLeDiff, ↓reduceIte, rd_new_lt, own_new_lt, mp_new_lt, rd_newm_lt, own_newm_lt, mp_newm_lt, rd_wr_ne, own_wr_ne, mp_wr_ne, rd_wrm_ne, own_wrm_ne, mp_wrm_ne, rd_new_eq, own_new_eq, mp_newm_eq, rd_of_own st8.tree.parts, Int.toNat_natCast, Nat.mul_one, Nat.zero_add, ofF_cell p hkn]
    refine Both.dec (fun hp => ?_) (fun hp => ?_) <;> simp (disch := (first | omega | (simp only [size_new, size_newm, size_wr, size_wrm] <;> omega) | fail)) only [go_sem, Nat.reduceBEq, Nat.reduceAdd, Nat.reduceMul, Nat.reduceLeDiff, ↓reduceIte, rd_new_lt, own_new_lt, mp_new_lt, rd_newm_lt, own_newm_lt, mp_newm_lt, rd_wr_ne, own_wr_ne, mp_wr_ne, rd_wrm_ne, own_wrm_ne, mp_wrm_ne, rd_new_eq, own_new_eq, mp_newm_eq, rd_of_own st8.tree.box]
    rotate_left
    · refine ⟨⟨up, deep, p, root, st8, d8, fun v hv => ?_, hdp⟩, trivial, trivial, trivial, trivial, trivial⟩
      by_cases h1 : v < k
      · exact hpk v h1
      · rw [show v = k by omega]; exact hp
    refine ⟨⟨by omega, by omega⟩, ?_⟩
    simp (disch := (first | omega | (simp only [size_new, size_newm, size_wr, size_wrm] <;> omega) | fail)) only [go_sem, Nat.reduceBEq, Nat.reduceAdd, Nat.reduceMul, Nat.reduceLeDiff, ↓reduceIte, rd_new_lt, own_new_lt, mp_new_lt, rd_newm_lt, own_newm_lt, mp_newm_lt, rd_wr_ne, own_wr_ne, mp_wr_ne, rd_wrm_ne, own_wrm_ne, mp_wrm_ne, rd_new_eq, own_new_eq, mp_newm_eq, st8.tree.ups, Int.toNat_natCast, Nat.mul_one, Nat.zero_add]
    refine ⟨by rw [List.length_map, ofF_len]; omega, ?_⟩
    have st9 := st8.setUp hkn (-1)
    simp (disch := (first | omega | (simp only [size_new, size_newm, size_wr, size_wrm] <;> omega) | fail)) only [go_sem, Nat.reduceBEq, Nat.reduceAdd, Nat.reduceMul, Nat.reduceLeDiff, ↓reduceIte, rd_new_lt, own_new_lt, mp_new_lt, rd_newm_lt, own_newm_lt, mp_newm_lt, rd_wr_ne, own_wr_ne, mp_wr_ne, rd_wrm_ne, own_wrm_ne, mp_wrm_ne, rd_new_eq, own_new_eq, mp_newm_eq]
    generalize H8.wr bu (((ofF n.toNat up).map i64).set k (i64 (-1))) = H9 at *
    refine ⟨⟨by omega, by omega⟩, ?_⟩
    simp (disch := (first | omega | (simp only [size_new, size_newm, size_wr, size_wrm] <;> omega) | fail)) only [go_sem, Nat.reduceBEq, Nat.reduceAdd, Nat.reduceMul, Nat.reduceLeDiff, ↓reduceIte, rd_new_lt, own_new_lt, mp_new_lt, rd_newm_lt, own_newm_lt, mp_newm_lt, rd_wr_ne, own_wr_ne, mp_wr_ne, rd_wrm_ne, own_wrm_ne, mp_wrm_ne, rd_new_eq, own_new_eq, mp_newm_eq, st9.tree.parts, Int.toNat_natCast, Nat.mul_one, Nat.zero_add]
    refine ⟨by rw [List.length_map, ofF_len]; omega, ?_⟩
    have st10 := st9.setPart hkn k
    simp (disch := (first | omega | (simp only [size_new, size_newm, size_wr, size_wrm] <;> omega) | fail)) only [go_sem, Nat.reduceBEq, Nat.reduceAdd, Nat.reduceMul, Nat.reduceLeDiff, ↓reduceIte, rd_new_lt, own_new_lt, mp_new_lt, rd_newm_lt, own_newm_lt, mp_newm_lt, rd_wr_ne, own_wr_ne, mp_wr_ne, rd_wrm_ne, own_wrm_ne, mp_wrm_ne, rd_new_eq, own_new_eq, mp_newm_eq]
    have hz10 : (H9.wr bp (((ofF n.toNat p).map i64).set k (i64 k))).size = H9.size := size_wr ..
    generalize H9.wr bp (((ofF n.toNat p).map i64).set k (i64 k)) = H10 at *
    have st11 := st10.ext (((Ext.refl _ _).new _ _ : Fresh H10 (H10.new 3 [i64 k])).mono fun _ _ h => h.elim)
    have so11 : Sl (H10.new 3 [i64 k]) 1 (.slice (some ⟨H9.size, 0, none⟩) [k].length 1) (tI [k]).length ((tI [k]).map i64) (some H9.size) := Sl.lit_at (size := 1) (n := 1) (xs := [i64 k]) rfl hz10.symm
    have hb11 := st9.sz.1
    have d11 := d8.top hkn hp
    have hf11 := free_upd n.toNat p k k hkn hp (by omega)
    have hp11 : ∀ v, v < k + 1 → upd p k (k : Int) v ≠ -1 := fun v hv => by
      unfold upd
      by_cases h1 : v = k
      · rw [if_pos h1]; omega
      · rw [if_neg h1]; exact hpk v (by omega)
    have hdp11 : ∀ v, v < n.toNat → deep v + free n.toNat (upd p k (k : Int)) ≤ n.toNat := fun v hv => by have := hdp v hv; omega
    have hfl := free_le n.toNat p
    clear st8 st9 st10 hpk hdp d8
    generalize H10.new 3 [i64 k] = H11 at *
    generalize H9.size = b11 at *
    refine LoopV.intro (fun m env H' => ∃ (up : Nat → Int) (deep : Nat → Nat) (p : Nat → Int) (todo : List Nat) (ta : Option Addr) (tc bt : Nat), m = 2 * free n.toNat p + todo.length ∧ St H H' H4.size B1 t bu bd bp H4.size n.toNat n (.slice a es.length c) xs fp up (fun v => ((deep v : Nat) : Int)) p ∧
      Dfs n.toNat (fE es) ks p up deep k todo none ∧ (∀ v, v < k + 1 → p v ≠ -1) ∧ (∀ v, v < n.toNat → deep v + free n.toNat p ≤ n.toNat) ∧
      Sl H' 1 (.slice ta todo.length tc) (tI todo).length ((tI todo).map i64) (some bt) ∧ B1 ≤ bt ∧ todo.length + free n.toNat p ≤ n.toNat ∧
      env = [(2, ptr H.size), (5, ptr t), (6, .slice (some ⟨H4.size, 0, none⟩) n.toNat n.toNat), (11, i64 k), (12, .slice ta todo.length tc), (87, i64 n.toNat), (88, i64 k)]) _ ⟨_, deep, _, [k], _, _, _, rfl, st11, d11, hp11, hdp11, so11, hb11, by simp only [List.length_singleton]; omega, rfl⟩ ?_
    clear st11 d11 hp11 hdp11 so11 hb11 hf11 hp hlt hmk hfl hz10
    clear up deep p root b11 H8 H9 H10 H11 m
    rintro m env H12 ⟨up, deep, p, todo, ta, tc, bt, hm, st12, d12, hp12, hdp12, so12, hbt, hto, rfl⟩
    simp (disch := (first | omega | (simp only [size_new, size_newm, size_wr, size_wrm] <;> omega) | fail)) only [go_sem, Nat.reduceBEq, Nat.reduceAdd, Nat.reduceMul, Nat.reduceLeDiff, ↓reduceIte, rd_new_lt, own_new_lt, mp_new_lt, rd_newm_lt, own_newm_lt, mp_newm_lt, rd_wr_ne, own_wr_ne, mp_wr_ne, rd_wrm_ne, own_wrm_ne, mp_wrm_ne, rd_new_eq, own_new_eq, mp_newm_eq]
    refine Both.dec (fun hlt => ?_) (fun hlt => ?_) <;> simp (disch := (first | omega | (simp only [size_new, size_newm, size_wr, size_wrm] <;> omega) | fail)) only [go_sem, Nat.reduceBEq, Nat.reduceAdd, Nat.reduceMul, Nat.reduceLeDiff, ↓reduceIte, rd_new_lt, own_new_lt, mp_new_lt, rd_newm_lt, own_newm_lt, mp_newm_lt, rd_wr_ne, own_wr_ne, mp_wr_ne, rd_wrm_ne, own_wrm_ne, mp_wrm_ne, rd_new_eq, own_new_eq, mp_newm_eq]
    rotate_left
    · have : todo = [] := List.length_eq_zero_iff.1 (by omega)
      subst this
      exact ⟨⟨up, deep, p, k, st12, d12, hp12, hdp12⟩, trivial, trivial, trivial, trivial, trivial⟩
    obtain ⟨todo, u, rfl⟩ : ∃ l x, todo = l ++ [x] := by
      rcases List.eq_nil_or_concat todo with h | ⟨l, x, h⟩
      · subst h; exact absurd hlt (by simp)
      · exact ⟨l, x, by rw [h, List.concat_eq_append]⟩
    have hlen : (todo ++ [u]).length = todo.length + 1 := by simp
    rw [hlen] at so12 hto hm
    rw [hlen]
    obtain ⟨hu, hpu⟩ := d12.wait u (by simp)
    have htn : todo.length ≤ 4096 := by omega
    rw [wrap64 (n := ((todo.length + 1 : Nat) : Int) - 1) (by omega) (by omega), show ((todo.length + 1 : Nat) : Int) - 1 = (todo.length : Int) by omega]
    rw [tI_len, hlen] at so12
    obtain ⟨hnn, rfl, lt, hto1, hto2⟩ := Sl.num so12 (i := todo.length) (x := (u : Int)) (by rw [tI_snoc, List.getElem?_append_right (by rw [tI_len]; omega), tI_len]; simp)
    refine ⟨⟨by omega, by omega⟩, ?_⟩
    simp (disch := (first | omega | (simp only [size_new, size_newm, size_wr, size_wrm] <;> omega) | fail)) only [go_sem, Nat.reduceBEq, Nat.reduceAdd, Nat.reduceMul, Nat.reduceLeDiff, ↓reduceIte, rd_new_lt, own_new_lt, mp_new_lt, rd_newm_lt, own_newm_lt, mp_newm_lt, rd_wr_ne, own_wr_ne, mp_wr_ne, rd_wrm_ne, own_wrm_ne, mp_wrm_ne, rd_new_eq, own_new_eq, mp_newm_eq, rd_of_own hto1, Int.toNat_natCast, Nat.mul_one, Nat.zero_add, hto2]
    rw [wrap64 (n := ((todo.length + 1 : Nat) : Int) - 1) (by omega) (by omega), show ((todo.length + 1 : Nat) : Int) - 1 = (todo.length : Int) by omega]
    have so13 : Sl H12 1 (.slice (some ⟨bt, 0, none⟩) todo.length tc) todo.length ((tI todo).map i64) (some bt) := Sl.less (x := i64 u) (by rw [tI_snoc, List.map_append] at so12; exact so12)
    have hcx : todo.length + 1 ≤ tc := by
      obtain ⟨_, lx, tc', hsx, _, hcx, _, _⟩ := so12
      injection hsx with _ _ hsx3
      omega
    refine ⟨⟨by omega, by omega, by omega, by omega⟩, ?_⟩
    simp (disch := (first | omega | (simp only [size_new, size_newm, size_wr, size_wrm] <;> omega) | fail)) only [go_sem, Nat.reduceBEq, Nat.reduceAdd, Nat.reduceMul, Nat.reduceLeDiff, ↓reduceIte, rd_new_lt, own_new_lt, mp_new_lt, rd_newm_lt, own_newm_lt, mp_newm_lt, rd_wr_ne, own_wr_ne, mp_wr_ne, rd_wrm_ne, own_wrm_ne, mp_wrm_ne, rd_new_eq, own_new_eq, mp_newm_eq]
    simp only [Option.map_some, ite_self, Int.toNat_natCast, Nat.sub_zero]
    obtain ⟨svs, sv, ho3, hsl, hsv, srow⟩ := st12.rows.get hu
    obtain ⟨ra, rc, rfl, hrc⟩ := slv_val srow
    refine ⟨⟨by omega, by omega⟩, ?_⟩
    simp (disch := (first | omega | (simp only [size_new, size_newm, size_wr, size_wrm] <;> omega) | fail)) only [go_sem, Nat.reduceBEq, Nat.reduceAdd, Nat.reduceMul, Nat.reduceLeDiff, ↓reduceIte, rd_new_lt, own_new_lt, mp_new_lt, rd_newm_lt, own_newm_lt, mp_newm_lt, rd_wr_ne, own_wr_ne, mp_wr_ne, rd_wrm_ne, own_wrm_ne, mp_wrm_ne, rd_new_eq, own_new_eq, mp_newm_eq, rd_of_own ho3, Int.toNat_natCast, Nat.mul_one, Nat.zero_add, hsv]
    have d13 := d12.pop (r := xs u) fun i hi ht => (hT u hu i).2 ⟨hi, ht⟩
    have hM : m = 2 * free n.toNat p + todo.length + 1 := by omega
    rw [← tI_len todo] at so13
    refine LoopV.intro (fun m' env H' => ∃ (j : Nat) (up : Nat → Int) (deep : Nat → Nat) (p : Nat → Int) (todo : List Nat) (ta : Option Addr) (tc bt : Nat), m' = (xs u).length - j ∧ j ≤ (xs u).length ∧ St H H' H4.size B1 t bu bd bp H4.size n.toNat n (.slice a es.length c) xs fp up (fun v => ((deep v : Nat) : Int)) p ∧
      Dfs n.toNat (fE es) ks p up deep k todo (some (u, (xs u).drop j)) ∧ (∀ v, v < k + 1 → p v ≠ -1) ∧ (∀ v, v < n.toNat → deep v + free n.toNat p ≤ n.toNat) ∧
      Sl H' 1 (.slice ta (tI todo).length tc) (tI todo).length ((tI todo).map i64) (some bt) ∧ B1 ≤ bt ∧ todo.length + free n.toNat p ≤ n.toNat ∧ 2 * free n.toNat p + todo.length + 1 ≤ m ∧ Sl H' 1 (.slice ra (xs u).length rc) (xs u).length ((xs u).map i64) (fp u) ∧
      env = [(2, ptr H.size), (5, ptr t), (6, .slice (some ⟨H4.size, 0, none⟩) n.toNat n.toNat), (11, i64 k), (12, .slice ta todo.length tc), (13, i64 u), (87, i64 n.toNat), (88, i64 k), (131, .slice ra (xs u).length rc), (132, i64 (xs u).length), (133, i64 j)]) _ ⟨0, up, deep, p, todo, _, _, _, rfl, by omega, st12, d13, hp12, hdp12, so13, hbt, by omega, by omega, srow, by split <;> rfl⟩ ?_
    clear st12 d13 hp12 hdp12 so12 so13 hbt hto hlt hpu d12 hM hlen hto1 hto2 ho3 hsl hsv hcx srow htn hm hnn
    clear up deep p todo tc bt lt svs H12
    rintro m' env H12 ⟨j, up, deep, p, todo, ta, tc, bt, hm', hj, st12, d12, hp12, hdp12, so12, hbt, hto, hfm, srow, rfl⟩
    simp (disch := (first | omega | (simp only [size_new, size_newm, size_wr, size_wrm] <;> omega) | fail)) only [go_sem, Nat.reduceBEq, Nat.reduceAdd, Nat.reduceMul, Nat.reduceLeDiff, ↓reduceIte, rd_new_lt, own_new_lt, mp_new_lt, rd_newm_lt, own_newm_lt, mp_newm_lt, rd_wr_ne, own_wr_ne, mp_wr_ne, rd_wrm_ne, own_wrm_ne, mp_wrm_ne, rd_new_eq, own_new_eq, mp_newm_eq]
    refine Both.dec (fun hlt => ?_) (fun hlt => ?_) <;> simp (disch := (first | omega | (simp only [size_new, size_newm, size_wr, size_wrm] <;> omega) | fail)) only [go_sem, Nat.reduceBEq, Nat.reduceAdd, Nat.reduceMul, Nat.reduceLeDiff, ↓reduceIte, rd_new_lt, own_new_lt, mp_new_lt, rd_newm_lt, own_newm_lt, mp_newm_lt, rd_wr_ne, own_wr_ne, mp_wr_ne, rd_wrm_ne, own_wrm_ne, mp_wrm_ne, rd_new_eq, own_new_eq, mp_newm_eq]
    rotate_left
    · have hj2 : j = (xs u).length := by omega
      subst hj2
      rw [List.drop_length] at d12
      refine ⟨2 * free n.toNat p + todo.length, by omega, up, deep, p, todo, ta, tc, bt, rfl, st12, d12.over, hp12, hdp12, ?_, hbt, hto, rfl⟩
      rw [← tI_len todo]
      exact so12
    obtain ⟨i, hi⟩ : ∃ x, (xs u)[j]? = some x := ⟨_, List.getElem?_eq_getElem (by omega)⟩
    obtain ⟨hik, htu⟩ := (hT u hu i).1 (List.mem_of_getElem? hi)
    have hdrop : (xs u).drop j = i :: (xs u).drop (j + 1) := by
      obtain ⟨h1, h2⟩ := List.getElem?_eq_some_iff.1 hi
      rw [List.drop_eq_getElem_cons h1, h2]
    rw [hdrop] at d12
    obtain ⟨ik, e, rfl, he, hike⟩ := (hin i hik).get
    obtain ⟨ef0, ef1, et0, et1⟩ := hr.ends e (List.mem_of_getElem? he)
    have h12 := h.fresh st12.fr
    obtain ⟨_, bx, o, lb, rfl, hrd, hcell⟩ := RdS.num srow.rd hi
    obtain ⟨_, be, oe, le, rfl, hrde, hle, hcells, hc0, hc1, hc2⟩ := RdS.edgeAt h12 he
    have hfE := fE_at he
    have hw := other_lt hbnd hik htu
    have hwv : e.f + e.t - (u : Int) = ((other (fE es (ik : Int)) u : Nat) : Int) := by
      rw [hfE] at htu ⊢
      unfold other
      rcases htu with h1 | h1
      · have h1 : e.f.toNat = u := h1
        show e.f + e.t - (u : Int) = ((e.f.toNat + e.t.toNat - u : Nat) : Int)
        omega
      · have h1 : e.t.toNat = u := h1
        show e.f + e.t - (u : Int) = ((e.f.toNat + e.t.toNat - u : Nat) : Int)
        omega
    refine vc_cut (fun e H' => (∃ (up : Nat → Int) (deep : Nat → Nat) (p : Nat → Int) (todo : List Nat) (ta : Option Addr) (tc bt : Nat), St H H' H4.size B1 t bu bd bp H4.size n.toNat n (.slice (some ⟨be, oe, none⟩) es.length c) xs fp up (fun v => ((deep v : Nat) : Int)) p ∧
      Dfs n.toNat (fE es) ks p up deep k todo (some (u, (xs u).drop (j + 1))) ∧ (∀ v, v < k + 1 → p v ≠ -1) ∧ (∀ v, v < n.toNat → deep v + free n.toNat p ≤ n.toNat) ∧
      Sl H' 1 (.slice ta (tI todo).length tc) (tI todo).length ((tI todo).map i64) (some bt) ∧ B1 ≤ bt ∧ todo.length + free n.toNat p ≤ n.toNat ∧ 2 * free n.toNat p + todo.length + 1 ≤ m ∧ Sl H' 1 (.slice (some ⟨bx, o, none⟩) (xs u).length rc) (xs u).length ((xs u).map i64) (fp u) ∧
      e.find 12 = some (.slice ta todo.length tc)) ∧
      e.find 2 = some (ptr H.size) ∧ e.find 5 = some (ptr t) ∧ e.find 6 = some (.slice (some ⟨H4.size, 0, none⟩) n.toNat n.toNat) ∧ e.find 11 = some (i64 k) ∧ e.find 13 = some (i64 u) ∧ e.find 87 = some (i64 n.toNat) ∧ e.find 88 = some (i64 k) ∧
      e.find 131 = some (.slice (some ⟨bx, o, none⟩) (xs u).length rc) ∧ e.find 132 = some (i64 (xs u).length) ∧ e.find 133 = some (i64 j)) ?_ ?_
    rotate_left
    · rintro e H9 ⟨⟨up, deep, p, todo, ta, tc, bt, st12, d12, hp12, hdp12, so12, hbt, hto, hfm, srow, e12⟩, e2, e5, e6, e11, e13, e87, e88, e131, e132, e133⟩
      simp (disch := (first | omega | (simp only [size_new, size_newm, size_wr, size_wrm] <;> omega) | fail)) only [go_sem, Nat.reduceBEq, Nat.reduceAdd, Nat.reduceMul, Nat.reduceLeDiff, ↓reduceIte, rd_new_lt, own_new_lt, mp_new_lt, rd_newm_lt, own_newm_lt, mp_newm_lt, rd_wr_ne, own_wr_ne, mp_wr_ne, rd_wrm_ne, own_wrm_ne, mp_wrm_ne, rd_new_eq, own_new_eq, mp_newm_eq, e2, e5, e6, e11, e12, e13, e87, e88, e131, e132, e133]
      have hxl := hxl u hu
      rw [wrap64 (n := (j : Int) + 1) (by omega) (by omega)]
      exact ⟨(xs u).length - (j + 1), by omega, j + 1, up, deep, p, todo, ta, tc, bt, rfl, by omega, st12, d12, hp12, hdp12, so12, hbt, hto, hfm, srow, rfl⟩
    simp (disch := (first | omega | (simp only [size_new, size_newm, size_wr, size_wrm] <;> omega) | fail)) only [go_sem, Nat.reduceBEq, Nat.reduceAdd, Nat.reduceMul, Nat.reduceLeDiff, ↓reduceIte, rd_new_lt, own_new_lt, mp_new_lt, rd_newm_lt, own_newm_lt, mp_newm_lt, rd_wr_ne, own_wr_ne, mp_wr_ne, rd_wrm_ne, own_wrm_ne, mp_wrm_ne, rd_new_eq, own_new_eq, mp_newm_eq]
    refine ⟨⟨by omega, by omega⟩, ?_⟩
    simp (disch := (first | omega | (simp only [size_new, size_newm, size_wr, size_wrm] <;> omega) | fail)) only [go_sem, Nat.reduceBEq, Nat.reduceAdd, Nat.reduceMul, Nat.reduceLeDiff, ↓reduceIte, rd_new_lt, own_new_lt, mp_new_lt, rd_newm_lt, own_newm_lt, mp_newm_lt, rd_wr_ne, own_wr_ne, mp_wr_ne, rd_wrm_ne, own_wrm_ne, mp_wrm_ne, rd_new_eq, own_new_eq, mp_newm_eq, hrd, Int.toNat_natCast, Nat.mul_one, hcell, rd_of_own st12.g]
    refine ⟨⟨by omega, by omega⟩, ?_⟩
    simp (disch := (first | omega | (simp only [size_new, size_newm, size_wr, size_wrm] <;> omega) | fail)) only [go_sem, Nat.reduceBEq, Nat.reduceAdd, Nat.reduceMul, Nat.reduceLeDiff, ↓reduceIte, rd_new_lt, own_new_lt, mp_new_lt, rd_newm_lt, own_newm_lt, mp_newm_lt, rd_wr_ne, own_wr_ne, mp_wr_ne, rd_wrm_ne, own_wrm_ne, mp_wrm_ne, rd_new_eq, own_new_eq, mp_newm_eq, hrde, Int.toNat_natCast, Nat.add_zero, hc0, hc1, rd_of_own st12.g]
    refine ⟨⟨by omega, by omega⟩, ?_⟩
    simp (disch := (first | omega | (simp only [size_new, size_newm, size_wr, size_wrm] <;> omega) | fail)) only [go_sem, Nat.reduceBEq, Nat.reduceAdd, Nat.reduceMul, Nat.reduceLeDiff, ↓reduceIte, rd_new_lt, own_new_lt, mp_new_lt, rd_newm_lt, own_newm_lt, mp_newm_lt, rd_wr_ne, own_wr_ne, mp_wr_ne, rd_wrm_ne, own_wrm_ne, mp_wrm_ne, rd_new_eq, own_new_eq, mp_newm_eq, hrde, Int.toNat_natCast, Nat.add_zero, hc0, hc1, rd_of_own st12.tree.box]
    rw [wrap64 (n := e.f + e.t) (by omega) (by omega), wrap64 (n := e.f + e.t - u) (by omega) (by omega), hwv]
    refine ⟨⟨by omega, by omega⟩, ?_⟩
    simp (disch := (first | omega | (simp only [size_new, size_newm, size_wr, size_wrm] <;> omega) | fail)) only [go_sem, Nat.reduceBEq, Nat.reduceAdd, Nat.reduceMul, Nat.reduceLeDiff, ↓reduceIte, rd_new_lt, own_new_lt, mp_new_lt, rd_newm_lt, own_newm_lt, mp_newm_lt, rd_wr_ne, own_wr_ne, mp_wr_ne, rd_wrm_ne, own_wrm_ne, mp_wrm_ne, rd_new_eq, own_new_eq, mp_newm_eq, rd_of_own st12.tree.parts, Int.toNat_natCast, Nat.mul_one, Nat.zero_add, ofF_cell p hw]
    refine Both.dec (fun hp => ?_) (fun hp => ?_) <;> simp (disch := (first | omega | (simp only [size_new, size_newm, size_wr, size_wrm] <;> omega) | fail)) only [go_sem, Nat.reduceBEq, Nat.reduceAdd, Nat.reduceMul, Nat.reduceLeDiff, ↓reduceIte, rd_new_lt, own_new_lt, mp_new_lt, rd_newm_lt, own_newm_lt, mp_newm_lt, rd_wr_ne, own_wr_ne, mp_wr_ne, rd_wrm_ne, own_wrm_ne, mp_wrm_ne, rd_new_eq, own_new_eq, mp_newm_eq, rd_of_own st12.tree.box]
    rotate_left
    · exact ⟨⟨up, deep, p, todo, ta, tc, bt, st12, d12.skip hbnd hik htu hp, hp12, hdp12, so12, hbt, hto, hfm, srow, rfl⟩, trivial, trivial, trivial, trivial, trivial, trivial, trivial, trivial, trivial, trivial⟩
    have dE := d12.edge hbnd hik htu hp
    have hf := free_upd n.toNat p _ k hw hp (by omega)
    have hdu := hdp12 u hu
    have hfp : ∀ z, fp u = some z → H4.size ≤ z ∧ z < B1 := fun z hz => ⟨(st12.rows.low u hu z hz).1, st12.hi.2.2 u z hu hz⟩
    have hlo := st12.lo
    have hbb := st12.sz.2
    generalize other (fE es (ik : Int)) u = w at *
    refine ⟨⟨by omega, by omega⟩, ?_⟩
    simp (disch := (first | omega | (simp only [size_new, size_newm, size_wr, size_wrm] <;> omega) | fail)) only [go_sem, Nat.reduceBEq, Nat.reduceAdd, Nat.reduceMul, Nat.reduceLeDiff, ↓reduceIte, rd_new_lt, own_new_lt, mp_new_lt, rd_newm_lt, own_newm_lt, mp_newm_lt, rd_wr_ne, own_wr_ne, mp_wr_ne, rd_wrm_ne, own_wrm_ne, mp_wrm_ne, rd_new_eq, own_new_eq, mp_newm_eq, rd_of_own st12.tree.deeps, Int.toNat_natCast, Nat.mul_one, Nat.zero_add, ofF_cell (fun v => ((deep v : Nat) : Int)) hu]
    rw [wrap64 (n := ((deep u : Nat) : Int) + 1) (by omega) (by omega)]
    refine ⟨⟨by omega, by omega⟩, ?_⟩
    simp (disch := (first | omega | (simp only [size_new, size_newm, size_wr, size_wrm] <;> omega) | fail)) only [go_sem, Nat.reduceBEq, Nat.reduceAdd, Nat.reduceMul, Nat.reduceLeDiff, ↓reduceIte, rd_new_lt, own_new_lt, mp_new_lt, rd_newm_lt, own_newm_lt, mp_newm_lt, rd_wr_ne, own_wr_ne, mp_wr_ne, rd_wrm_ne, own_wrm_ne, mp_wrm_ne, rd_new_eq, own_new_eq, mp_newm_eq, st12.tree.parts, Int.toNat_natCast, Nat.mul_one, Nat.zero_add]
    refine ⟨by rw [List.length_map, ofF_len]; omega, ?_⟩
    have st13 := st12.setPart hw k
    have w13 : ∀ z, (z = bu ∨ z = bd ∨ z = bp) → ∀ (A : Hp) (l : List Value), Sl A 1 (.slice ta (tI todo).length tc) (tI todo).length ((tI todo).map i64) (some bt) → Sl A 1 (.slice (some ⟨bx, o, none⟩) (xs u).length rc) (xs u).length ((xs u).map i64) (fp u) →
        Sl (A.wr z l) 1 (.slice ta (tI todo).length tc) (tI todo).length ((tI todo).map i64) (some bt) ∧ Sl (A.wr z l) 1 (.slice (some ⟨bx, o, none⟩) (xs u).length rc) (xs u).length ((xs u).map i64) (fp u) := by
      intro z hz A l s1 s2
      have e : Ext (fun y => y = z) A (A.wr z l) := (Ext.refl (fun y => y = z) _).wr (fun _ => rfl) _
      exact ⟨s1.ext e (fun b hb h => by injection hb with hb; omega), s2.ext e (fun b hb h => by have := hfp b hb; omega)⟩
    obtain ⟨so13, sr13⟩ := w13 bp (.inr (.inr rfl)) H12 (((ofF n.toNat p).map i64).set w (i64 k)) so12 srow
    simp (disch := (first | omega | (simp only [size_new, size_newm, size_wr, size_wrm] <;> omega) | fail)) only [go_sem, Nat.reduceBEq, Nat.reduceAdd, Nat.reduceMul, Nat.reduceLeDiff, ↓reduceIte, rd_new_lt, own_new_lt, mp_new_lt, rd_newm_lt, own_newm_lt, mp_newm_lt, rd_wr_ne, own_wr_ne, mp_wr_ne, rd_wrm_ne, own_wrm_ne, mp_wrm_ne, rd_new_eq, own_new_eq, mp_newm_eq]
    generalize H12.wr bp (((ofF n.toNat p).map i64).set w (i64 k)) = H13 at *
    refine ⟨⟨by omega, by omega⟩, ?_⟩
    simp (disch := (first | omega | (simp only [size_new, size_newm, size_wr, size_wrm] <;> omega) | fail)) only [go_sem, Nat.reduceBEq, Nat.reduceAdd, Nat.reduceMul, Nat.reduceLeDiff, ↓reduceIte, rd_new_lt, own_new_lt, mp_new_lt, rd_newm_lt, own_newm_lt, mp_newm_lt, rd_wr_ne, own_wr_ne, mp_wr_ne, rd_wrm_ne, own_wrm_ne, mp_wrm_ne, rd_new_eq, own_new_eq, mp_newm_eq, st13.tree.ups, Int.toNat_natCast, Nat.mul_one, Nat.zero_add]
    refine ⟨by rw [List.length_map, ofF_len]; omega, ?_⟩
    have st14 := st13.setUp hw ik
    obtain ⟨so14, sr14⟩ := w13 bu (.inl rfl) H13 (((ofF n.toNat up).map i64).set w (i64 ik)) so13 sr13
    simp (disch := (first | omega | (simp only [size_new, size_newm, size_wr, size_wrm] <;> omega) | fail)) only [go_sem, Nat.reduceBEq, Nat.reduceAdd, Nat.reduceMul, Nat.reduceLeDiff, ↓reduceIte, rd_new_lt, own_new_lt, mp_new_lt, rd_newm_lt, own_newm_lt, mp_newm_lt, rd_wr_ne, own_wr_ne, mp_wr_ne, rd_wrm_ne, own_wrm_ne, mp_wrm_ne, rd_new_eq, own_new_eq, mp_newm_eq]
    generalize H13.wr bu (((ofF n.toNat up).map i64).set w (i64 ik)) = H14 at *
    refine ⟨⟨by omega, by omega⟩, ?_⟩
    simp (disch := (first | omega | (simp only [size_new, size_newm, size_wr, size_wrm] <;> omega) | fail)) only [go_sem, Nat.reduceBEq, Nat.reduceAdd, Nat.reduceMul, Nat.reduceLeDiff, ↓reduceIte, rd_new_lt, own_new_lt, mp_new_lt, rd_newm_lt, own_newm_lt, mp_newm_lt, rd_wr_ne, own_wr_ne, mp_wr_ne, rd_wrm_ne, own_wrm_ne, mp_wrm_ne, rd_new_eq, own_new_eq, mp_newm_eq, st14.tree.deeps, Int.toNat_natCast, Nat.mul_one, Nat.zero_add]
    refine ⟨by rw [List.length_map, ofF_len]; omega, ?_⟩
    have st15 := st14.setDeep hw (((deep u : Nat) : Int) + 1)
    obtain ⟨so15, sr15⟩ := w13 bd (.inr (.inl rfl)) H14 (((ofF n.toNat (fun v => ((deep v : Nat) : Int))).map i64).set w (i64 (((deep u : Nat) : Int) + 1))) so14 sr14
    have hz15 : (H14.wr bd (((ofF n.toNat (fun v => ((deep v : Nat) : Int))).map i64).set w (i64 (((deep u : Nat) : Int) + 1)))).size = H14.size := size_wr ..
    rw [show ((deep u : Nat) : Int) + 1 = ((deep u + 1 : Nat) : Int) by omega, upd_nat] at st15
    simp (disch := (first | omega | (simp only [size_new, size_newm, size_wr, size_wrm] <;> omega) | fail)) only [go_sem, Nat.reduceBEq, Nat.reduceAdd, Nat.reduceMul, Nat.reduceLeDiff, ↓reduceIte, rd_new_lt, own_new_lt, mp_new_lt, rd_newm_lt, own_newm_lt, mp_newm_lt, rd_wr_ne, own_wr_ne, mp_wr_ne, rd_wrm_ne, own_wrm_ne, mp_wrm_ne, rd_new_eq, own_new_eq, mp_newm_eq]
    rw [show ((deep u : Nat) : Int) + 1 = ((deep u + 1 : Nat) : Int) by omega] at so15 sr15 hz15 ⊢
    generalize H14.wr bd (((ofF n.toNat (fun v => ((deep v : Nat) : Int))).map i64).set w (i64 ((deep u + 1 : Nat) : Int))) = H15 at *
    rw [← hz15, ← tI_len todo]
    refine pushS (B := B1) hbt st15.sz.1 so15 w (by rw [tI_len]; omega) fun w' H16 b' hb' s16 e16 => ?_
    rw [← tI_snoc] at s16
    obtain ⟨wa, wc, rfl, _⟩ := slv_val s16
    have sr16 := sr15.ext e16 (fun z hz h => by have := hfp z hz; omega)
    have st16 := st15.ext e16
    simp (disch := (first | omega | (simp only [size_new, size_newm, size_wr, size_wrm] <;> omega) | fail)) only [go_sem, Nat.reduceBEq, Nat.reduceAdd, Nat.reduceMul, Nat.reduceLeDiff, ↓reduceIte, rd_new_lt, own_new_lt, mp_new_lt, rd_newm_lt, own_newm_lt, mp_newm_lt, rd_wr_ne, own_wr_ne, mp_wr_ne, rd_wrm_ne, own_wrm_ne, mp_wrm_ne, rd_new_eq, own_new_eq, mp_newm_eq]
    refine ⟨⟨_, _, _, todo ++ [w], wa, wc, b', st16, dE, fun v hv => ?_, fun v hv => ?_, s16, hb', by simp only [List.length_append, List.length_singleton]; omega, by simp only [List.length_append, List.length_singleton]; omega, sr16, by rw [tI_len]⟩, trivial, trivial, trivial, trivial, trivial, trivial, trivial, trivial, trivial, trivial⟩
    · unfold upd
      split
      · omega
      · exact hp12 v hv
    · have := hdp12 v hv
      rw [show upd deep w (deep u + 1) v = if v = w then deep u + 1 else deep v from rfl]
      split <;> omega

end Go.Proofs.Ytbnaicgmnadkgaa
