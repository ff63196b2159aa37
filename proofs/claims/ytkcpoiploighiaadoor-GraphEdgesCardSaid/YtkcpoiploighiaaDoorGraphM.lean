/-
  The edges that touch each vertex.
-/
import Derived.Test.YtkcpoiploighiaaDoorGraphL
import Derived.Test.YtkcpoiploighiaaDoorSortI
import Derived.Test.YtkcpoiploighiaaDoorMeet
set_option linter.unusedVariables false
set_option linter.unusedSimpArgs false
namespace Go.Proofs.YtkcpoiploighiaaDoor
open Go Go.Vc

def qM (v : Nat) (e : Ed) : Bool := decide (e.f ≠ e.t) && decide (e.t = (v : Int))

theorem putL_idx2 {es : List Ed} {j k : Nat} {e : Ed} (X : Nat → List Int) (he : es[j]? = some e) (hq : ∀ v, qM v e = decide (v = k)) :
    putL (fun v => X v ++ idxA (qM v) 0 (es.take j)) k (X k ++ idxA (qM k) 0 (es.take j) ++ [(j : Int)]) = fun v => X v ++ idxA (qM v) 0 (es.take (j + 1)) := by
  funext v
  unfold putL
  rw [idxA_take _ he, hq]
  by_cases h : v = k
  · subst h; simp
  · simp [h]
theorem same_idx2 {es : List Ed} {j : Nat} {e : Ed} (X : Nat → List Int) (he : es[j]? = some e) (hq : e.f = e.t) :
    (fun v => X v ++ idxA (qM v) 0 (es.take j)) = fun v => X v ++ idxA (qM v) 0 (es.take (j + 1)) := by
  funext v
  rw [idxA_take _ he]
  simp [qM, hq]

theorem qT_sort (es : List Ed) (v : Nat) : sortI (idxA (qL v) 0 es ++ idxA (qM v) 0 es) = idxA (qT v) 0 es := by
  have h := idxA_or (qL v) (qM v) es 0 (fun e _ h => by
    simp only [qL, qM, decide_eq_true_eq, Bool.and_eq_true] at h
    omega)
  have hq : (fun e => qL v e || qM v e) = qT v := by
    funext e
    unfold qL qM qT
    by_cases h1 : e.f = v <;> by_cases h2 : e.t = v <;> by_cases h3 : e.f = e.t <;> simp [h1, h2, h3] <;> omega
  rw [hq] at h
  exact h

set_option maxHeartbeats 8000000 in
theorem graph_Touching_spec {H : Hp} {n : Int} {a : Option Addr} {c : Nat} {es : List Ed} (h : RdS H 3 (.slice a es.length c) es.length (flatE es)) (hm : es.length ≤ 1000000000) :
    CallH Tryd.prog n_graph_Touching [grV n (.slice a es.length c)] H fun v H' => Post (Fresh H H' ∧ ((rightG n es = false ∧ v = .slice none 0 0) ∨
      (rightG n es = true ∧ ∃ b fp, v = .slice (some ⟨b, 0, none⟩) n.toNat n.toNat ∧ Sll H' H.size b n.toNat (fun v => idxA (qT v) 0 es) fp))) := by
  refine c_graph_Touching ⟨rfl, ?_⟩
  have f0 : Fresh H (H.new 35 [i64 n, .slice a es.length c]) := (Ext.refl _ _).new _ _
  have b0 := own_new H 35 [i64 n, .slice a es.length c]
  simp (disch := (first | omega | (simp only [size_new, size_newm, size_wr, size_wrm] <;> omega) | fail)) only [go_sem, Nat.reduceBEq, Nat.reduceAdd, Nat.reduceMul, Nat.reduceLeDiff, ↓reduceIte, rd_new_lt, own_new_lt, mp_new_lt, rd_newm_lt, own_newm_lt, mp_newm_lt, rd_wr_ne, own_wr_ne, mp_wr_ne, rd_wrm_ne, own_wrm_ne, mp_wrm_ne, rd_new_eq, own_new_eq, mp_newm_eq, s_graph_Touching, grV]
  generalize H.new 35 [i64 n, .slice a es.length c] = H0 at *
  have h0 := h.fresh f0
  refine (graph_Leaving_spec (n := n) h0 hm).mono ?_
  rintro _ H1 ⟨f1, ⟨hR, rfl⟩ | ⟨hR, b0', fp0, rfl, sl1⟩⟩
  · simp (disch := (first | omega | (simp only [size_new, size_newm, size_wr, size_wrm] <;> omega) | fail)) only [go_sem, Nat.reduceBEq, Nat.reduceAdd, Nat.reduceMul, Nat.reduceLeDiff, ↓reduceIte, rd_new_lt, own_new_lt, mp_new_lt, rd_newm_lt, own_newm_lt, mp_newm_lt, rd_wr_ne, own_wr_ne, mp_wr_ne, rd_wrm_ne, own_wrm_ne, mp_wrm_ne, rd_new_eq, own_new_eq, mp_newm_eq]
    exact ⟨f0.trans f1, .inl ⟨hR, rfl⟩⟩
  have b1 := f1.own b0 (fun h => h)
  have f01 := f0.trans f1
  have hzz := own_lt b0
  have hbb := sl1.base
  obtain ⟨hn0, hn1, hel, hends⟩ := (rightG_iff n es).1 hR
  simp (disch := (first | omega | (simp only [size_new, size_newm, size_wr, size_wrm] <;> omega) | fail)) only [go_sem, Nat.reduceBEq, Nat.reduceAdd, Nat.reduceMul, Nat.reduceLeDiff, ↓reduceIte, rd_new_lt, own_new_lt, mp_new_lt, rd_newm_lt, own_newm_lt, mp_newm_lt, rd_wr_ne, own_wr_ne, mp_wr_ne, rd_wrm_ne, own_wrm_ne, mp_wrm_ne, rd_new_eq, own_new_eq, mp_newm_eq, rd_of_own b1, Option.isNone_some]
  have hz0 : (fun v => idxA (qL v) 0 es) = fun v => idxA (qL v) 0 es ++ idxA (qM v) 0 (es.take 0) := by funext v; simp [idxA]
  rw [hz0] at sl1
  refine LoopV.intro (fun m env H' => Fresh H H' ∧ ∃ (j : Nat) (fp : Nat → Option Nat), m = es.length - j ∧ j ≤ es.length ∧ Sll H' H0.size b0' n.toNat (fun v => idxA (qL v) 0 es ++ idxA (qM v) 0 (es.take j)) fp ∧
    env = [(3, .slice (some ⟨b0', 0, none⟩) n.toNat n.toNat), (13, .slice a es.length c), (14, i64 es.length), (15, i64 j)]) es.length ⟨f01, 0, _, by omega, by omega, sl1, rfl⟩ ?_
  rintro m env H2 ⟨f2, j, fp, hmj, hj, sl2, rfl⟩
  have h2 := h.fresh f2
  simp (disch := (first | omega | (simp only [size_new, size_newm, size_wr, size_wrm] <;> omega) | fail)) only [go_sem, Nat.reduceBEq, Nat.reduceAdd, Nat.reduceMul, Nat.reduceLeDiff, ↓reduceIte, rd_new_lt, own_new_lt, mp_new_lt, rd_newm_lt, own_newm_lt, mp_newm_lt, rd_wr_ne, own_wr_ne, mp_wr_ne, rd_wrm_ne, own_wrm_ne, mp_wrm_ne, rd_new_eq, own_new_eq, mp_newm_eq]
  refine Both.dec (fun hlt => ?_) (fun hlt => ?_) <;> simp (disch := (first | omega | (simp only [size_new, size_newm, size_wr, size_wrm] <;> omega) | fail)) only [go_sem, Nat.reduceBEq, Nat.reduceAdd, Nat.reduceMul, Nat.reduceLeDiff, ↓reduceIte, rd_new_lt, own_new_lt, mp_new_lt, rd_newm_lt, own_newm_lt, mp_newm_lt, rd_wr_ne, own_wr_ne, mp_wr_ne, rd_wrm_ne, own_wrm_ne, mp_wrm_ne, rd_new_eq, own_new_eq, mp_newm_eq]
  · have hj2 : j < es.length := by omega
    obtain ⟨e, he⟩ : ∃ e, es[j]? = some e := ⟨_, List.getElem?_eq_getElem hj2⟩
    obtain ⟨_, b, o, lb, rfl, hrd, hle, hcells⟩ := RdS.edge h2 he
    refine ⟨⟨by omega, by omega⟩, ?_⟩
    have hmem := List.mem_of_getElem? he
    obtain ⟨ef0, ef1, et0, et1⟩ := hends e hmem
    simp (disch := (first | omega | (simp only [size_new, size_newm, size_wr, size_wrm] <;> omega) | fail)) only [go_sem, Nat.reduceBEq, Nat.reduceAdd, Nat.reduceMul, Nat.reduceLeDiff, ↓reduceIte, rd_new_lt, own_new_lt, mp_new_lt, rd_newm_lt, own_newm_lt, mp_newm_lt, rd_wr_ne, own_wr_ne, mp_wr_ne, rd_wrm_ne, own_wrm_ne, mp_wrm_ne, rd_new_eq, own_new_eq, mp_newm_eq, hrd, Int.toNat_natCast, hcells, cellsE]
    refine ⟨by omega, ?_⟩
    have q2 := own_new H2 51 [i64 0, i64 0, i64 0]
    simp (disch := (first | omega | (simp only [size_new, size_newm, size_wr, size_wrm] <;> omega) | fail)) only [go_sem, Nat.reduceBEq, Nat.reduceAdd, Nat.reduceMul, Nat.reduceLeDiff, ↓reduceIte, rd_new_lt, own_new_lt, mp_new_lt, rd_newm_lt, own_newm_lt, mp_newm_lt, rd_wr_ne, own_wr_ne, mp_wr_ne, rd_wrm_ne, own_wrm_ne, mp_wrm_ne, rd_new_eq, own_new_eq, mp_newm_eq, hcells, cellsE, q2]
    have q3 := own_wr_same (l := [i64 e.f, i64 e.t, i64 e.w]) q2
    have f3 : Fresh H2 ((H2.new 51 [i64 0, i64 0, i64 0]).wr H2.size [i64 e.f, i64 e.t, i64 e.w]) := ((Ext.refl _ _).new _ _ : Fresh H2 _).then ((Ext.refl (fun z => z = H2.size) _).wr (fun _ => rfl) _) (fun z hz => by omega)
    have hz3 : ((H2.new 51 [i64 0, i64 0, i64 0]).wr H2.size [i64 e.f, i64 e.t, i64 e.w]).size = H2.size + 1 := by rw [size_wr, size_new]
    have hol := sl2.lt
    generalize (H2.new 51 [i64 0, i64 0, i64 0]).wr H2.size [i64 e.f, i64 e.t, i64 e.w] = H3 at *
    have sl3 := sl2.fresh f3
    have hef : e.t.toNat < n.toNat := by omega
    obtain ⟨svs, sv, ho3, hsl, hsv, srow⟩ := sl3.get hef
    have hlr1 := idxA_len (qL e.t.toNat) es 0
    have hlr2 := idxA_len (qM e.t.toNat) (es.take j) 0
    have hlr : (idxA (qL e.t.toNat) 0 es ++ idxA (qM e.t.toNat) 0 (es.take j)).length ≤ 2 * es.length := by rw [List.length_append]; rw [List.length_take] at hlr2; omega
    have f13 : Fresh H H3 := f2.trans f3
    simp (disch := (first | omega | (simp only [size_new, size_newm, size_wr, size_wrm] <;> omega) | fail)) only [go_sem, Nat.reduceBEq, Nat.reduceAdd, Nat.reduceMul, Nat.reduceLeDiff, ↓reduceIte, rd_new_lt, own_new_lt, mp_new_lt, rd_newm_lt, own_newm_lt, mp_newm_lt, rd_wr_ne, own_wr_ne, mp_wr_ne, rd_wrm_ne, own_wrm_ne, mp_wrm_ne, rd_new_eq, own_new_eq, mp_newm_eq, rd_of_own q3]
    refine Both.dec (fun hft => ?_) (fun hft => ?_) <;> simp (disch := (first | omega | (simp only [size_new, size_newm, size_wr, size_wrm] <;> omega) | fail)) only [go_sem, Nat.reduceBEq, Nat.reduceAdd, Nat.reduceMul, Nat.reduceLeDiff, ↓reduceIte, rd_new_lt, own_new_lt, mp_new_lt, rd_newm_lt, own_newm_lt, mp_newm_lt, rd_wr_ne, own_wr_ne, mp_wr_ne, rd_wrm_ne, own_wrm_ne, mp_wrm_ne, rd_new_eq, own_new_eq, mp_newm_eq]
    · rw [wrap64 (n := (j : Int) + 1) (by omega) (by omega)]
      rw [same_idx2 _ he hft] at sl3
      exact ⟨es.length - (j + 1), by omega, f13, j + 1, fp, rfl, by omega, sl3, rfl⟩
    have hq : ∀ v, qM v e = decide (v = e.t.toNat) := fun v => by unfold qM; rw [decide_eq_true hft, Bool.true_and, decide_eq_decide]; omega
    have fin : ∀ (H4 : Hp) (v' : Value) (H5 : Hp) (fp' : Option Nat), Fresh H3 H4 → Sl H5 1 v' (((idxA (qL e.t.toNat) 0 es ++ idxA (qM e.t.toNat) 0 (es.take j))).length + 1) (((idxA (qL e.t.toNat) 0 es ++ idxA (qM e.t.toNat) 0 (es.take j))).map i64 ++ [i64 j]) fp' → Ext (fun z => fp e.t.toNat = some z) H4 H5 →
        (fp' = fp e.t.toNat ∨ ∃ p, fp' = some p ∧ H4.size ≤ p ∧ p < H5.size) →
        H5.own b0' = some svs ∧ H5.own H2.size = some [i64 e.f, i64 e.t, i64 e.w] ∧ (H5.wr b0' (svs.set e.t.toNat v')).own H2.size = some [i64 e.f, i64 e.t, i64 e.w] ∧ Fresh H (H5.wr b0' (svs.set e.t.toNat v')) ∧
        Sll (H5.wr b0' (svs.set e.t.toNat v')) H0.size b0' n.toNat (fun v => idxA (qL v) 0 es ++ idxA (qM v) 0 (es.take (j + 1))) (putO fp e.t.toNat fp') := by
      intro H4 v' H5 fp' f4 s5 e5 hfp'
      have sl4 := sl3.fresh f4
      have hlow := sl3.low e.t.toNat hef
      have hltf : ∀ z, fp e.t.toNat = some z → z < H2.size := fun z hz => by
        obtain ⟨_, _, _, _, _, s0⟩ := sl2.get hef
        rw [hz] at s0
        exact Sl.lt s0
      have ho4 := f4.own ho3 (fun h => h)
      have q4 := f4.own q3 (fun h => h)
      have q5 : H5.own H2.size = some [i64 e.f, i64 e.t, i64 e.w] := e5.own q4 (fun hh => by have := hltf _ hh; omega)
      obtain ⟨k1, k2⟩ := sl4.put hef (l := (idxA (qL e.t.toNat) 0 es ++ idxA (qM e.t.toNat) 0 (es.take j)) ++ [(j : Int)]) e5 (by rw [List.length_append, List.map_append]; exact s5) hfp' ho4
      rw [putL_idx2 _ he hq] at k2
      refine ⟨k1, q5, by rw [own_wr_ne (by omega)]; exact q5, ?_, k2⟩
      exact ((f13.trans f4).then e5 (fun z hz => by have := (hlow z hz).1; omega)).then ((Ext.refl (fun z => z = b0') _).wr (fun _ => rfl) _) (fun z hz => by omega)
    refine InvV.intro (fun H' => H'.own H2.size = some [i64 e.f, i64 e.t, i64 e.w]) q3 ?_
    simp (disch := (first | omega | (simp only [size_new, size_newm, size_wr, size_wrm] <;> omega) | fail)) only [go_sem, Nat.reduceBEq, Nat.reduceAdd, Nat.reduceMul, Nat.reduceLeDiff, ↓reduceIte, rd_new_lt, own_new_lt, mp_new_lt, rd_newm_lt, own_newm_lt, mp_newm_lt, rd_wr_ne, own_wr_ne, mp_wr_ne, rd_wrm_ne, own_wrm_ne, mp_wrm_ne, rd_new_eq, own_new_eq, mp_newm_eq]
    refine StbV.intro (i64 e.t) (fun H' hI => by simp (disch := (first | omega | (simp only [size_new, size_newm, size_wr, size_wrm] <;> omega) | fail)) only [go_sem, Nat.reduceBEq, Nat.reduceAdd, Nat.reduceMul, Nat.reduceLeDiff, ↓reduceIte, rd_new_lt, own_new_lt, mp_new_lt, rd_newm_lt, own_newm_lt, mp_newm_lt, rd_wr_ne, own_wr_ne, mp_wr_ne, rd_wrm_ne, own_wrm_ne, mp_wrm_ne, rd_new_eq, own_new_eq, mp_newm_eq, rd_of_own hI]; exact ⟨trivial, trivial⟩) ?_
    simp (disch := (first | omega | (simp only [size_new, size_newm, size_wr, size_wrm] <;> omega) | fail)) only [go_sem, Nat.reduceBEq, Nat.reduceAdd, Nat.reduceMul, Nat.reduceLeDiff, ↓reduceIte, rd_new_lt, own_new_lt, mp_new_lt, rd_newm_lt, own_newm_lt, mp_newm_lt, rd_wr_ne, own_wr_ne, mp_wr_ne, rd_wrm_ne, own_wrm_ne, mp_wrm_ne, rd_new_eq, own_new_eq, mp_newm_eq]
    refine StbV.intro (i64 e.t) (fun H' hI => by simp (disch := (first | omega | (simp only [size_new, size_newm, size_wr, size_wrm] <;> omega) | fail)) only [go_sem, Nat.reduceBEq, Nat.reduceAdd, Nat.reduceMul, Nat.reduceLeDiff, ↓reduceIte, rd_new_lt, own_new_lt, mp_new_lt, rd_newm_lt, own_newm_lt, mp_newm_lt, rd_wr_ne, own_wr_ne, mp_wr_ne, rd_wrm_ne, own_wrm_ne, mp_wrm_ne, rd_new_eq, own_new_eq, mp_newm_eq, rd_of_own hI]; exact ⟨trivial, trivial⟩) ?_
    simp (disch := (first | omega | (simp only [size_new, size_newm, size_wr, size_wrm] <;> omega) | fail)) only [go_sem, Nat.reduceBEq, Nat.reduceAdd, Nat.reduceMul, Nat.reduceLeDiff, ↓reduceIte, rd_new_lt, own_new_lt, mp_new_lt, rd_newm_lt, own_newm_lt, mp_newm_lt, rd_wr_ne, own_wr_ne, mp_wr_ne, rd_wrm_ne, own_wrm_ne, mp_wrm_ne, rd_new_eq, own_new_eq, mp_newm_eq]
    refine ⟨⟨by omega, by omega⟩, ?_⟩
    simp (disch := (first | omega | (simp only [size_new, size_newm, size_wr, size_wrm] <;> omega) | fail)) only [go_sem, Nat.reduceBEq, Nat.reduceAdd, Nat.reduceMul, Nat.reduceLeDiff, ↓reduceIte, rd_new_lt, own_new_lt, mp_new_lt, rd_newm_lt, own_newm_lt, mp_newm_lt, rd_wr_ne, own_wr_ne, mp_wr_ne, rd_wrm_ne, own_wrm_ne, mp_wrm_ne, rd_new_eq, own_new_eq, mp_newm_eq]
    have fl : Fresh H3 (H3.new 3 [i64 j]) := (Ext.refl _ _).new _ _
    have ql := fl.own q3 (fun h => h)
    have hol3 := fl.own ho3 (fun h => h)
    obtain ⟨ra, rc, rfl, hrc⟩ := slv_val srow
    refine Two.intro ?_ ?_
    · simp (disch := (first | omega | (simp only [size_new, size_newm, size_wr, size_wrm] <;> omega) | fail)) only [go_sem, Nat.reduceBEq, Nat.reduceAdd, Nat.reduceMul, Nat.reduceLeDiff, ↓reduceIte, rd_new_lt, own_new_lt, mp_new_lt, rd_newm_lt, own_newm_lt, mp_newm_lt, rd_wr_ne, own_wr_ne, mp_wr_ne, rd_wrm_ne, own_wrm_ne, mp_wrm_ne, rd_new_eq, own_new_eq, mp_newm_eq, rd_of_own ho3, Nat.mul_one, Nat.zero_add, hsv]
      refine And.intro q3 ?_
      simp (disch := (first | omega | (simp only [size_new, size_newm, size_wr, size_wrm] <;> omega) | fail)) only [go_sem, Nat.reduceBEq, Nat.reduceAdd, Nat.reduceMul, Nat.reduceLeDiff, ↓reduceIte, rd_new_lt, own_new_lt, mp_new_lt, rd_newm_lt, own_newm_lt, mp_newm_lt, rd_wr_ne, own_wr_ne, mp_wr_ne, rd_wrm_ne, own_wrm_ne, mp_wrm_ne, rd_new_eq, own_new_eq, mp_newm_eq]
      refine And.intro (by first | exact ql | exact q3) ?_
      simp (disch := (first | omega | (simp only [size_new, size_newm, size_wr, size_wrm] <;> omega) | fail)) only [go_sem, Nat.reduceBEq, Nat.reduceAdd, Nat.reduceMul, Nat.reduceLeDiff, ↓reduceIte, rd_new_lt, own_new_lt, mp_new_lt, rd_newm_lt, own_newm_lt, mp_newm_lt, rd_wr_ne, own_wr_ne, mp_wr_ne, rd_wrm_ne, own_wrm_ne, mp_wrm_ne, rd_new_eq, own_new_eq, mp_newm_eq]
      refine Sl.append (srow.ext fl (fun _ _ h => h)) (Sl.lit_at (size := 1) (n := 1) (xs := [i64 j]) rfl rfl).rd rfl (ones_nums [(j : Int)]) (by omega) ?_
      intro v' H5 fp' s5 e5 hfp
      obtain ⟨k1, k2, k3, k4, k5⟩ := fin _ v' H5 fp' fl s5 e5 hfp
      obtain ⟨va, vc', rfl, _⟩ := slv_val s5
      refine And.intro k2 ?_
      simp (disch := (first | omega | (simp only [size_new, size_newm, size_wr, size_wrm] <;> omega) | fail)) only [go_sem, Nat.reduceBEq, Nat.reduceAdd, Nat.reduceMul, Nat.reduceLeDiff, ↓reduceIte, rd_new_lt, own_new_lt, mp_new_lt, rd_newm_lt, own_newm_lt, mp_newm_lt, rd_wr_ne, own_wr_ne, mp_wr_ne, rd_wrm_ne, own_wrm_ne, mp_wrm_ne, rd_new_eq, own_new_eq, mp_newm_eq]
      refine ⟨⟨by omega, by omega⟩, ?_⟩
      simp (disch := (first | omega | (simp only [size_new, size_newm, size_wr, size_wrm] <;> omega) | fail)) only [go_sem, Nat.reduceBEq, Nat.reduceAdd, Nat.reduceMul, Nat.reduceLeDiff, ↓reduceIte, rd_new_lt, own_new_lt, mp_new_lt, rd_newm_lt, own_newm_lt, mp_newm_lt, rd_wr_ne, own_wr_ne, mp_wr_ne, rd_wrm_ne, own_wrm_ne, mp_wrm_ne, rd_new_eq, own_new_eq, mp_newm_eq, k1, Nat.mul_one, Nat.zero_add]
      refine ⟨by omega, ?_⟩
      simp (disch := (first | omega | (simp only [size_new, size_newm, size_wr, size_wrm] <;> omega) | fail)) only [go_sem, Nat.reduceBEq, Nat.reduceAdd, Nat.reduceMul, Nat.reduceLeDiff, ↓reduceIte, rd_new_lt, own_new_lt, mp_new_lt, rd_newm_lt, own_newm_lt, mp_newm_lt, rd_wr_ne, own_wr_ne, mp_wr_ne, rd_wrm_ne, own_wrm_ne, mp_wrm_ne, rd_new_eq, own_new_eq, mp_newm_eq]
      refine And.intro (by first | exact k3 | exact k2) ?_
      simp (disch := (first | omega | (simp only [size_new, size_newm, size_wr, size_wrm] <;> omega) | fail)) only [go_sem, Nat.reduceBEq, Nat.reduceAdd, Nat.reduceMul, Nat.reduceLeDiff, ↓reduceIte, rd_new_lt, own_new_lt, mp_new_lt, rd_newm_lt, own_newm_lt, mp_newm_lt, rd_wr_ne, own_wr_ne, mp_wr_ne, rd_wrm_ne, own_wrm_ne, mp_wrm_ne, rd_new_eq, own_new_eq, mp_newm_eq]
      rw [wrap64 (n := (j : Int) + 1) (by omega) (by omega)]
      exact ⟨es.length - (j + 1), by omega, k4, j + 1, _, rfl, by omega, k5, rfl⟩
    · simp (disch := (first | omega | (simp only [size_new, size_newm, size_wr, size_wrm] <;> omega) | fail)) only [go_sem, Nat.reduceBEq, Nat.reduceAdd, Nat.reduceMul, Nat.reduceLeDiff, ↓reduceIte, rd_new_lt, own_new_lt, mp_new_lt, rd_newm_lt, own_newm_lt, mp_newm_lt, rd_wr_ne, own_wr_ne, mp_wr_ne, rd_wrm_ne, own_wrm_ne, mp_wrm_ne, rd_new_eq, own_new_eq, mp_newm_eq]
      refine And.intro (by first | exact ql | exact q3) ?_
      simp (disch := (first | omega | (simp only [size_new, size_newm, size_wr, size_wrm] <;> omega) | fail)) only [go_sem, Nat.reduceBEq, Nat.reduceAdd, Nat.reduceMul, Nat.reduceLeDiff, ↓reduceIte, rd_new_lt, own_new_lt, mp_new_lt, rd_newm_lt, own_newm_lt, mp_newm_lt, rd_wr_ne, own_wr_ne, mp_wr_ne, rd_wrm_ne, own_wrm_ne, mp_wrm_ne, rd_new_eq, own_new_eq, mp_newm_eq, rd_of_own hol3, Nat.mul_one, Nat.zero_add, hsv]
      refine And.intro (by first | exact ql | exact q3) ?_
      simp (disch := (first | omega | (simp only [size_new, size_newm, size_wr, size_wrm] <;> omega) | fail)) only [go_sem, Nat.reduceBEq, Nat.reduceAdd, Nat.reduceMul, Nat.reduceLeDiff, ↓reduceIte, rd_new_lt, own_new_lt, mp_new_lt, rd_newm_lt, own_newm_lt, mp_newm_lt, rd_wr_ne, own_wr_ne, mp_wr_ne, rd_wrm_ne, own_wrm_ne, mp_wrm_ne, rd_new_eq, own_new_eq, mp_newm_eq]
      refine Sl.append (srow.ext fl (fun _ _ h => h)) (Sl.lit_at (size := 1) (n := 1) (xs := [i64 j]) rfl rfl).rd rfl (ones_nums [(j : Int)]) (by omega) ?_
      intro v' H5 fp' s5 e5 hfp
      obtain ⟨k1, k2, k3, k4, k5⟩ := fin _ v' H5 fp' fl s5 e5 hfp
      obtain ⟨va, vc', rfl, _⟩ := slv_val s5
      refine And.intro k2 ?_
      simp (disch := (first | omega | (simp only [size_new, size_newm, size_wr, size_wrm] <;> omega) | fail)) only [go_sem, Nat.reduceBEq, Nat.reduceAdd, Nat.reduceMul, Nat.reduceLeDiff, ↓reduceIte, rd_new_lt, own_new_lt, mp_new_lt, rd_newm_lt, own_newm_lt, mp_newm_lt, rd_wr_ne, own_wr_ne, mp_wr_ne, rd_wrm_ne, own_wrm_ne, mp_wrm_ne, rd_new_eq, own_new_eq, mp_newm_eq]
      refine ⟨⟨by omega, by omega⟩, ?_⟩
      simp (disch := (first | omega | (simp only [size_new, size_newm, size_wr, size_wrm] <;> omega) | fail)) only [go_sem, Nat.reduceBEq, Nat.reduceAdd, Nat.reduceMul, Nat.reduceLeDiff, ↓reduceIte, rd_new_lt, own_new_lt, mp_new_lt, rd_newm_lt, own_newm_lt, mp_newm_lt, rd_wr_ne, own_wr_ne, mp_wr_ne, rd_wrm_ne, own_wrm_ne, mp_wrm_ne, rd_new_eq, own_new_eq, mp_newm_eq, k1, Nat.mul_one, Nat.zero_add]
      refine ⟨by omega, ?_⟩
      simp (disch := (first | omega | (simp only [size_new, size_newm, size_wr, size_wrm] <;> omega) | fail)) only [go_sem, Nat.reduceBEq, Nat.reduceAdd, Nat.reduceMul, Nat.reduceLeDiff, ↓reduceIte, rd_new_lt, own_new_lt, mp_new_lt, rd_newm_lt, own_newm_lt, mp_newm_lt, rd_wr_ne, own_wr_ne, mp_wr_ne, rd_wrm_ne, own_wrm_ne, mp_wrm_ne, rd_new_eq, own_new_eq, mp_newm_eq]
      refine And.intro (by first | exact k3 | exact k2) ?_
      simp (disch := (first | omega | (simp only [size_new, size_newm, size_wr, size_wrm] <;> omega) | fail)) only [go_sem, Nat.reduceBEq, Nat.reduceAdd, Nat.reduceMul, Nat.reduceLeDiff, ↓reduceIte, rd_new_lt, own_new_lt, mp_new_lt, rd_newm_lt, own_newm_lt, mp_newm_lt, rd_wr_ne, own_wr_ne, mp_wr_ne, rd_wrm_ne, own_wrm_ne, mp_wrm_ne, rd_new_eq, own_new_eq, mp_newm_eq]
      rw [wrap64 (n := (j : Int) + 1) (by omega) (by omega)]
      exact ⟨es.length - (j + 1), by omega, k4, j + 1, _, rfl, by omega, k5, rfl⟩
  · have hj2 : j = es.length := by omega
    subst hj2
    rw [List.take_length] at sl2
    clear sl1 h2
    have hz1 : (fun v => idxA (qL v) 0 es ++ idxA (qM v) 0 es) = fun v => if v < 0 then idxA (qT v) 0 es else idxA (qL v) 0 es ++ idxA (qM v) 0 es := by funext v; simp
    rw [hz1] at sl2
    refine LoopV.intro (fun m env H' => Fresh H H' ∧ ∃ (k : Nat) (fp : Nat → Option Nat), m = n.toNat - k ∧ k ≤ n.toNat ∧ Sll H' H0.size b0' n.toNat (fun v => if v < k then idxA (qT v) 0 es else idxA (qL v) 0 es ++ idxA (qM v) 0 es) fp ∧
      env = [(3, .slice (some ⟨b0', 0, none⟩) n.toNat n.toNat), (38, .slice (some ⟨b0', 0, none⟩) n.toNat n.toNat), (39, i64 n.toNat), (40, i64 k)]) n.toNat ⟨f2, 0, _, by omega, by omega, sl2, rfl⟩ ?_
    clear sl2 hz1
    rintro m env H3 ⟨f3, k, fp3, hmk, hk, sl3, rfl⟩
    simp (disch := (first | omega | (simp only [size_new, size_newm, size_wr, size_wrm] <;> omega) | fail)) only [go_sem, Nat.reduceBEq, Nat.reduceAdd, Nat.reduceMul, Nat.reduceLeDiff, ↓reduceIte, rd_new_lt, own_new_lt, mp_new_lt, rd_newm_lt, own_newm_lt, mp_newm_lt, rd_wr_ne, own_wr_ne, mp_wr_ne, rd_wrm_ne, own_wrm_ne, mp_wrm_ne, rd_new_eq, own_new_eq, mp_newm_eq]
    refine Both.dec (fun hlt => ?_) (fun hlt => ?_) <;> simp (disch := (first | omega | (simp only [size_new, size_newm, size_wr, size_wrm] <;> omega) | fail)) only [go_sem, Nat.reduceBEq, Nat.reduceAdd, Nat.reduceMul, Nat.reduceLeDiff, ↓reduceIte, rd_new_lt, own_new_lt, mp_new_lt, rd_newm_lt, own_newm_lt, mp_newm_lt, rd_wr_ne, own_wr_ne, mp_wr_ne, rd_wrm_ne, own_wrm_ne, mp_wrm_ne, rd_new_eq, own_new_eq, mp_newm_eq]
    · have hk2 : k < n.toNat := by omega
      obtain ⟨svs, sv, ho3, hsl, hsv, srow⟩ := sl3.get hk2
      simp only [Nat.lt_irrefl, if_false] at srow
      have hlr1 := idxA_len (qL k) es 0
      have hlr2 := idxA_len (qM k) es 0
      refine ⟨⟨by omega, by omega⟩, ?_⟩
      simp (disch := (first | omega | (simp only [size_new, size_newm, size_wr, size_wrm] <;> omega) | fail)) only [go_sem, Nat.reduceBEq, Nat.reduceAdd, Nat.reduceMul, Nat.reduceLeDiff, ↓reduceIte, rd_new_lt, own_new_lt, mp_new_lt, rd_newm_lt, own_newm_lt, mp_newm_lt, rd_wr_ne, own_wr_ne, mp_wr_ne, rd_wrm_ne, own_wrm_ne, mp_wrm_ne, rd_new_eq, own_new_eq, mp_newm_eq, rd_of_own ho3, Int.toNat_natCast, Nat.mul_one, Nat.zero_add, hsv]
      refine (slices_Sort_spec srow (by rw [List.length_append]; omega)).mono ?_
      rintro _ H4 ⟨rfl, s4, e4⟩
      rw [qT_sort] at s4
      have hlen : (idxA (qT k) 0 es).length = (idxA (qL k) 0 es ++ idxA (qM k) 0 es).length := by rw [← qT_sort, sortI_len]
      rw [← hlen] at s4
      have sl4 := sl3.turn hk2 ho3 hsv e4 s4
      have hput : putL (fun v => if v < k then idxA (qT v) 0 es else idxA (qL v) 0 es ++ idxA (qM v) 0 es) k (idxA (qT k) 0 es) = fun v => if v < k + 1 then idxA (qT v) 0 es else idxA (qL v) 0 es ++ idxA (qM v) 0 es := by
        funext v
        unfold putL
        by_cases h1 : v = k
        · subst h1; rw [if_pos rfl, if_pos (by omega)]
        · rw [if_neg h1]
          show (if v < k then idxA (qT v) 0 es else idxA (qL v) 0 es ++ idxA (qM v) 0 es) = _
          by_cases h2 : v < k
          · rw [if_pos h2, if_pos (by omega)]
          · rw [if_neg h2, if_neg (by omega)]
      rw [hput] at sl4
      simp (disch := (first | omega | (simp only [size_new, size_newm, size_wr, size_wrm] <;> omega) | fail)) only [go_sem, Nat.reduceBEq, Nat.reduceAdd, Nat.reduceMul, Nat.reduceLeDiff, ↓reduceIte, rd_new_lt, own_new_lt, mp_new_lt, rd_newm_lt, own_newm_lt, mp_newm_lt, rd_wr_ne, own_wr_ne, mp_wr_ne, rd_wrm_ne, own_wrm_ne, mp_wrm_ne, rd_new_eq, own_new_eq, mp_newm_eq]
      rw [wrap64 (n := (k : Int) + 1) (by omega) (by omega)]
      exact ⟨n.toNat - (k + 1), by omega, f3.then e4 (fun z hz => by have := (sl3.low k hk2 z hz).1; omega), k + 1, fp3, rfl, by omega, sl4, rfl⟩
    · have hk2 : k = n.toNat := by omega
      subst hk2
      obtain ⟨svs, g1, g2, g3⟩ := sl3.rep
      refine ⟨f3, .inr ⟨hR, b0', fp3, rfl, ⟨⟨svs, g1, g2, fun i hi => ?_⟩, by omega, fun i hi p hp => ⟨by have := (sl3.low i hi p hp).1; omega, (sl3.low i hi p hp).2⟩, sl3.apart⟩⟩⟩
      obtain ⟨sv, g4, g5⟩ := g3 i hi
      rw [if_pos hi] at g5
      exact ⟨sv, g4, g5⟩

end Go.Proofs.YtkcpoiploighiaaDoor
