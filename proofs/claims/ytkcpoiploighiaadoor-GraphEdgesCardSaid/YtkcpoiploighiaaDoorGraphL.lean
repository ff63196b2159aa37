/-
  The edges that leave each vertex.
-/
import Derived.Test.YtkcpoiploighiaaDoorGraphC2
import Derived.Test.YtkcpoiploighiaaDoorSll
import Derived.Test.YtkcpoiploighiaaDoorIdx
set_option linter.unusedVariables false
set_option linter.unusedSimpArgs false
namespace Go.Proofs.YtkcpoiploighiaaDoor
open Go Go.Vc

def qL (v : Nat) (e : Ed) : Bool := decide (e.f = (v : Int))

/-- A number more in one of the rows. -/
theorem putL_idx {q : Nat → Ed → Bool} {es : List Ed} {j k : Nat} {e : Ed} (he : es[j]? = some e) (hq : ∀ v, q v e = decide (v = k)) :
    putL (fun v => idxA (q v) 0 (es.take j)) k (idxA (q k) 0 (es.take j) ++ [(j : Int)]) = fun v => idxA (q v) 0 (es.take (j + 1)) := by
  funext v
  unfold putL
  rw [idxA_take _ he, hq]
  by_cases h : v = k
  · subst h; simp
  · simp [h]

theorem padZ_slc (n : Nat) : padZ [.slice none 0 0] n = List.replicate n (.slice none 0 0) := by
  unfold padZ
  induction n with
  | zero => rfl
  | succ n ih => rw [List.replicate_succ, List.flatten_cons, ih, List.replicate_succ]; rfl

set_option maxHeartbeats 4000000 in
theorem graph_Leaving_spec {H : Hp} {n : Int} {a : Option Addr} {c : Nat} {es : List Ed} (h : RdS H 3 (.slice a es.length c) es.length (flatE es)) (hm : es.length ≤ 1000000000) :
    CallH Tryd.prog n_graph_Leaving [grV n (.slice a es.length c)] H fun v H' => Post (Fresh H H' ∧ ((rightG n es = false ∧ v = .slice none 0 0) ∨
      (rightG n es = true ∧ ∃ b fp, v = .slice (some ⟨b, 0, none⟩) n.toNat n.toNat ∧ Sll H' H.size b n.toNat (fun v => idxA (qL v) 0 es) fp))) := by
  refine c_graph_Leaving ⟨rfl, ?_⟩
  have f0 : Fresh H (H.new 35 [i64 n, .slice a es.length c]) := (Ext.refl _ _).new _ _
  have b0 := own_new H 35 [i64 n, .slice a es.length c]
  simp (disch := (first | omega | (simp only [size_new, size_newm, size_wr, size_wrm] <;> omega) | fail)) only [go_sem, Nat.reduceBEq, Nat.reduceAdd, Nat.reduceMul, Nat.reduceLeDiff, ↓reduceIte, rd_new_lt, own_new_lt, mp_new_lt, rd_newm_lt, own_newm_lt, mp_newm_lt, rd_wr_ne, own_wr_ne, mp_wr_ne, rd_wrm_ne, own_wrm_ne, mp_wrm_ne, rd_new_eq, own_new_eq, mp_newm_eq, s_graph_Leaving, grV]
  generalize H.new 35 [i64 n, .slice a es.length c] = H0 at *
  have h0 := h.fresh f0
  refine (graph_Check_spec (n := n) h0 hm).mono ?_
  rintro _ Hr ⟨rfl, fr⟩
  have br := fr.own b0 (fun h => h)
  by_cases hR : rightG n es = true
  rotate_left
  · rw [if_neg hR]
    simp (disch := (first | omega | (simp only [size_new, size_newm, size_wr, size_wrm] <;> omega) | fail)) only [go_sem, Nat.reduceBEq, Nat.reduceAdd, Nat.reduceMul, Nat.reduceLeDiff, ↓reduceIte, rd_new_lt, own_new_lt, mp_new_lt, rd_newm_lt, own_newm_lt, mp_newm_lt, rd_wr_ne, own_wr_ne, mp_wr_ne, rd_wrm_ne, own_wrm_ne, mp_wrm_ne, rd_new_eq, own_new_eq, mp_newm_eq]
    exact ⟨f0.trans fr, .inl ⟨by simpa using hR, rfl⟩⟩
  rw [if_pos hR]
  have hr0 := h0.fresh fr
  have f02 := f0.trans fr
  obtain ⟨hn0, hn1, hel, hends⟩ := (rightG_iff n es).1 hR
  simp (disch := (first | omega | (simp only [size_new, size_newm, size_wr, size_wrm] <;> omega) | fail)) only [go_sem, Nat.reduceBEq, Nat.reduceAdd, Nat.reduceMul, Nat.reduceLeDiff, ↓reduceIte, rd_new_lt, own_new_lt, mp_new_lt, rd_newm_lt, own_newm_lt, mp_newm_lt, rd_wr_ne, own_wr_ne, mp_wr_ne, rd_wrm_ne, own_wrm_ne, mp_wrm_ne, rd_new_eq, own_new_eq, mp_newm_eq]
  refine Both.of_true (by simp) ?_
  simp (disch := (first | omega | (simp only [size_new, size_newm, size_wr, size_wrm] <;> omega) | fail)) only [go_sem, Nat.reduceBEq, Nat.reduceAdd, Nat.reduceMul, Nat.reduceLeDiff, ↓reduceIte, rd_new_lt, own_new_lt, mp_new_lt, rd_newm_lt, own_newm_lt, mp_newm_lt, rd_wr_ne, own_wr_ne, mp_wr_ne, rd_wrm_ne, own_wrm_ne, mp_wrm_ne, rd_new_eq, own_new_eq, mp_newm_eq, rd_of_own br]
  refine ⟨⟨by omega, by omega, by omega, by omega⟩, ?_⟩
  have hl0 := Sll.new (T := 48) (B := H.size) (n := n.toNat) Hr f02.size (padZ_slc n.toNat)
  have fo : Fresh Hr (Hr.new 48 (padZ [.slice none 0 0] n.toNat)) := (Ext.refl _ _).new _ _
  have b1 := fo.own br (fun h => h)
  have hr1 := hr0.fresh fo
  have hz1 : (Hr.new 48 (padZ [.slice none 0 0] n.toNat)).size = Hr.size + 1 := by rw [size_new]
  generalize Hr.new 48 (padZ [.slice none 0 0] n.toNat) = H1 at *
  have hbz := own_lt br
  simp (disch := (first | omega | (simp only [size_new, size_newm, size_wr, size_wrm] <;> omega) | fail)) only [go_sem, Nat.reduceBEq, Nat.reduceAdd, Nat.reduceMul, Nat.reduceLeDiff, ↓reduceIte, rd_new_lt, own_new_lt, mp_new_lt, rd_newm_lt, own_newm_lt, mp_newm_lt, rd_wr_ne, own_wr_ne, mp_wr_ne, rd_wrm_ne, own_wrm_ne, mp_wrm_ne, rd_new_eq, own_new_eq, mp_newm_eq, rd_of_own b1]
  refine LoopV.intro (fun m env H' => Fresh H H' ∧ ∃ (j : Nat) (fp : Nat → Option Nat), m = es.length - j ∧ j ≤ es.length ∧ Sll H' H.size Hr.size n.toNat (fun v => idxA (qL v) 0 (es.take j)) fp ∧
    env = [(3, .slice (some ⟨Hr.size, 0, none⟩) n.toNat n.toNat), (13, .slice a es.length c), (14, i64 es.length), (15, i64 j)]) es.length ⟨f02.trans fo, 0, _, by omega, by omega, hl0, rfl⟩ ?_
  rintro m env H2 ⟨f2, j, fp, hmj, hj, sl2, rfl⟩
  have h2 := h.fresh f2
  simp (disch := (first | omega | (simp only [size_new, size_newm, size_wr, size_wrm] <;> omega) | fail)) only [go_sem, Nat.reduceBEq, Nat.reduceAdd, Nat.reduceMul, Nat.reduceLeDiff, ↓reduceIte, rd_new_lt, own_new_lt, mp_new_lt, rd_newm_lt, own_newm_lt, mp_newm_lt, rd_wr_ne, own_wr_ne, mp_wr_ne, rd_wrm_ne, own_wrm_ne, mp_wrm_ne, rd_new_eq, own_new_eq, mp_newm_eq]
  refine Both.dec (fun hlt => ?_) (fun hlt => ?_) <;> simp (disch := (first | omega | (simp only [size_new, size_newm, size_wr, size_wrm] <;> omega) | fail)) only [go_sem, Nat.reduceBEq, Nat.reduceAdd, Nat.reduceMul, Nat.reduceLeDiff, ↓reduceIte, rd_new_lt, own_new_lt, mp_new_lt, rd_newm_lt, own_newm_lt, mp_newm_lt, rd_wr_ne, own_wr_ne, mp_wr_ne, rd_wrm_ne, own_wrm_ne, mp_wrm_ne, rd_new_eq, own_new_eq, mp_newm_eq]
  · have hj2 : j < es.length := by omega
    obtain ⟨e, he⟩ : ∃ e, es[j]? = some e := ⟨_, List.getElem?_eq_getElem hj2⟩
    obtain ⟨_, b, o, lb, rfl, hrd, hle, hcells⟩ := RdS.edge h2 he
    refine ⟨⟨by omega, by omega⟩, ?_⟩
    have hmem := List.mem_of_getElem? he
    obtain ⟨ef0, ef1, et0, et1⟩ := hends e hmem
    simp (disch := (first | omega | (simp only [size_new, size_newm, size_wr, size_wrm] <;> omega) | fail)) only [go_sem, Nat.reduceBEq, Nat.reduceAdd, Nat.reduceMul, Nat.reduceLeDiff, ↓reduceIte, rd_new_lt, own_new_lt, mp_new_lt, rd_newm_lt, own_newm_lt, mp_newm_lt, rd_wr_ne, own_wr_ne, mp_wr_ne, rd_wrm_ne, own_wrm_ne, mp_wrm_ne, rd_new_eq, own_new_eq, mp_newm_eq, hrd, Int.toNat_natCast, hcells, cellsE]
    refine ⟨by omega, ?_⟩
    have q2 := own_new H2 51 [i64 0, i64 0, i64 0]
    simp (disch := (first | omega | (simp only [size_new, size_newm, size_wr, size_wrm] <;> omega) | fail)) only [go_sem, Nat.reduceBEq, Nat.reduceAdd, Nat.reduceMul, Nat.reduceLeDiff, ↓reduceIte, rd_new_lt, own_new_lt, mp_new_lt, rd_newm_lt, own_newm_lt, mp_newm_lt, rd_wr_ne, own_wr_ne, mp_wr_ne, rd_wrm_ne, own_wrm_ne, mp_wrm_ne, rd_new_eq, own_new_eq, mp_newm_eq, hcells, cellsE, q2]
    have q3 := own_wr_same (l := [i64 e.f, i64 e.t, i64 e.w]) q2
    have f3 : Fresh H2 ((H2.new 51 [i64 0, i64 0, i64 0]).wr H2.size [i64 e.f, i64 e.t, i64 e.w]) := ((Ext.refl _ _).new _ _ : Fresh H2 _).then ((Ext.refl (fun z => z = H2.size) _).wr (fun _ => rfl) _) (fun z hz => by omega)
    have hz3 : ((H2.new 51 [i64 0, i64 0, i64 0]).wr H2.size [i64 e.f, i64 e.t, i64 e.w]).size = H2.size + 1 := by rw [size_wr, size_new]
    have hol := sl2.lt
    generalize (H2.new 51 [i64 0, i64 0, i64 0]).wr H2.size [i64 e.f, i64 e.t, i64 e.w] = H3 at *
    have sl3 := sl2.fresh f3
    have hef : e.f.toNat < n.toNat := by omega
    obtain ⟨svs, sv, ho3, hsl, hsv, srow⟩ := sl3.get hef
    have hlr := idxA_len (qL e.f.toNat) (es.take j) 0
    rw [List.length_take] at hlr
    have f13 : Fresh H H3 := f2.trans f3
    have hq : ∀ v, qL v e = decide (v = e.f.toNat) := fun v => by unfold qL; rw [decide_eq_decide]; omega
    have fin : ∀ (H4 : Hp) (v' : Value) (H5 : Hp) (fp' : Option Nat), Fresh H3 H4 → Sl H5 1 v' ((idxA (qL e.f.toNat) 0 (es.take j)).length + 1) ((idxA (qL e.f.toNat) 0 (es.take j)).map i64 ++ [i64 j]) fp' → Ext (fun z => fp e.f.toNat = some z) H4 H5 →
        (fp' = fp e.f.toNat ∨ ∃ p, fp' = some p ∧ H4.size ≤ p ∧ p < H5.size) →
        H5.own Hr.size = some svs ∧ H5.own H2.size = some [i64 e.f, i64 e.t, i64 e.w] ∧ (H5.wr Hr.size (svs.set e.f.toNat v')).own H2.size = some [i64 e.f, i64 e.t, i64 e.w] ∧ Fresh H (H5.wr Hr.size (svs.set e.f.toNat v')) ∧
        Sll (H5.wr Hr.size (svs.set e.f.toNat v')) H.size Hr.size n.toNat (fun v => idxA (qL v) 0 (es.take (j + 1))) (putO fp e.f.toNat fp') := by
      intro H4 v' H5 fp' f4 s5 e5 hfp'
      have sl4 := sl3.fresh f4
      have hlow := sl3.low e.f.toNat hef
      have hltf : ∀ z, fp e.f.toNat = some z → z < H2.size := fun z hz => by
        obtain ⟨_, _, _, _, _, s0⟩ := sl2.get hef
        rw [hz] at s0
        exact Sl.lt s0
      have ho4 := f4.own ho3 (fun h => h)
      have q4 := f4.own q3 (fun h => h)
      have q5 : H5.own H2.size = some [i64 e.f, i64 e.t, i64 e.w] := e5.own q4 (fun hh => by have := hltf _ hh; omega)
      obtain ⟨k1, k2⟩ := sl4.put hef (l := idxA (qL e.f.toNat) 0 (es.take j) ++ [(j : Int)]) e5 (by rw [List.length_append, List.map_append]; exact s5) hfp' ho4
      rw [putL_idx he hq] at k2
      refine ⟨k1, q5, by rw [own_wr_ne (by omega)]; exact q5, ?_, k2⟩
      exact ((f13.trans f4).then e5 (fun z hz => (hlow z hz).1)).then ((Ext.refl (fun z => z = Hr.size) _).wr (fun _ => rfl) _) (fun z hz => by have := f02.size; omega)
    refine InvV.intro (fun H' => H'.own H2.size = some [i64 e.f, i64 e.t, i64 e.w]) q3 ?_
    simp (disch := (first | omega | (simp only [size_new, size_newm, size_wr, size_wrm] <;> omega) | fail)) only [go_sem, Nat.reduceBEq, Nat.reduceAdd, Nat.reduceMul, Nat.reduceLeDiff, ↓reduceIte, rd_new_lt, own_new_lt, mp_new_lt, rd_newm_lt, own_newm_lt, mp_newm_lt, rd_wr_ne, own_wr_ne, mp_wr_ne, rd_wrm_ne, own_wrm_ne, mp_wrm_ne, rd_new_eq, own_new_eq, mp_newm_eq]
    refine StbV.intro (i64 e.f) (fun H' hI => by simp (disch := (first | omega | (simp only [size_new, size_newm, size_wr, size_wrm] <;> omega) | fail)) only [go_sem, Nat.reduceBEq, Nat.reduceAdd, Nat.reduceMul, Nat.reduceLeDiff, ↓reduceIte, rd_new_lt, own_new_lt, mp_new_lt, rd_newm_lt, own_newm_lt, mp_newm_lt, rd_wr_ne, own_wr_ne, mp_wr_ne, rd_wrm_ne, own_wrm_ne, mp_wrm_ne, rd_new_eq, own_new_eq, mp_newm_eq, rd_of_own hI]; exact ⟨trivial, trivial⟩) ?_
    simp (disch := (first | omega | (simp only [size_new, size_newm, size_wr, size_wrm] <;> omega) | fail)) only [go_sem, Nat.reduceBEq, Nat.reduceAdd, Nat.reduceMul, Nat.reduceLeDiff, ↓reduceIte, rd_new_lt, own_new_lt, mp_new_lt, rd_newm_lt, own_newm_lt, mp_newm_lt, rd_wr_ne, own_wr_ne, mp_wr_ne, rd_wrm_ne, own_wrm_ne, mp_wrm_ne, rd_new_eq, own_new_eq, mp_newm_eq]
    refine StbV.intro (i64 e.f) (fun H' hI => by simp (disch := (first | omega | (simp only [size_new, size_newm, size_wr, size_wrm] <;> omega) | fail)) only [go_sem, Nat.reduceBEq, Nat.reduceAdd, Nat.reduceMul, Nat.reduceLeDiff, ↓reduceIte, rd_new_lt, own_new_lt, mp_new_lt, rd_newm_lt, own_newm_lt, mp_newm_lt, rd_wr_ne, own_wr_ne, mp_wr_ne, rd_wrm_ne, own_wrm_ne, mp_wrm_ne, rd_new_eq, own_new_eq, mp_newm_eq, rd_of_own hI]; exact ⟨trivial, trivial⟩) ?_
    simp (disch := (first | omega | (simp only [size_new, size_newm, size_wr, size_wrm] <;> omega) | fail)) only [go_sem, Nat.reduceBEq, Nat.reduceAdd, Nat.reduceMul, Nat.reduceLeDiff, ↓reduceIte, rd_new_lt, own_new_lt, mp_new_lt, rd_newm_lt, own_newm_lt, mp_newm_lt, rd_wr_ne, own_wr_ne, mp_wr_ne, rd_wrm_ne, own_wrm_ne, mp_wrm_ne, rd_new_eq, own_new_eq, mp_newm_eq]
    refine ⟨⟨by omega, by omega⟩, ?_⟩
    simp (disch := (first | omega | (simp only [size_new, size_newm, size_wr, size_wrm] <;> omega) | fail)) only [go_sem, Nat.reduceBEq, Nat.reduceAdd, Nat.reduceMul, Nat.reduceLeDiff, ↓reduceIte, rd_new_lt, own_new_lt, mp_new_lt, rd_newm_lt, own_newm_lt, mp_newm_lt, rd_wr_ne, own_wr_ne, mp_wr_ne, rd_wrm_ne, own_wrm_ne, mp_wrm_ne, rd_new_eq, own_new_eq, mp_newm_eq]
    have fl : Fresh H3 (H3.new 3 [i64 j]) := (Ext.refl _ _).new _ _
    have ql := fl.own q3 (fun h => h)
    have hol3 := fl.own ho3 (fun h => h)
    obtain ⟨ra, rc, rfl, hrc⟩ := slv_val srow
    refine Two.intro ?_ ?_
    · simp (disch := (first | omega | (simp only [size_new, size_newm, size_wr, size_wrm] <;> omega) | fail)) only [go_sem, Nat.reduceBEq, Nat.reduceAdd, Nat.reduceMul, Nat.reduceLeDiff, ↓reduceIte, rd_new_lt, own_new_lt, mp_new_lt, rd_newm_lt, own_newm_lt, mp_newm_lt, rd_wr_ne, own_wr_ne, mp_wr_ne, rd_wrm_ne, own_wrm_ne, mp_wrm_ne, rd_new_eq, own_new_eq, mp_newm_eq, rd_of_own ho3, Nat.mul_one, Nat.zero_add, hsv]
      refine And.intro q3 ?_
      simp (disch := (first | omega | (simp only [size_new, size_newm, size_wr, size_wrm] <;> omega) | fail)) only [go_sem, Nat.reduceBEq, Nat.reduceAdd, Nat.reduceMul, Nat.reduceLeDiff, ↓reduceIte, rd_new_lt, own_new_lt, mp_new_lt, rd_newm_lt, own_newm_lt, mp_newm_lt, rd_wr_ne, own_wr_ne, mp_wr_ne, rd_wrm_ne, own_wrm_ne, mp_wrm_ne, rd_new_eq, own_new_eq, mp_newm_eq]
      refine And.intro (by first | exact ql | exact q3) ?_
      simp (disch := (first | omega | (simp only [size_new, size_newm, size_wr, size_wrm] <;> omega) | fail)) only [go_sem, Nat.reduceBEq, Nat.reduceAdd, Nat.reduceMul, Nat.reduceLeDiff, ↓reduceIte, rd_new_lt, own_new_lt, mp_new_lt, rd_newm_lt, own_newm_lt, mp_newm_lt, rd_wr_ne, own_wr_ne, mp_wr_ne, rd_wrm_ne, own_wrm_ne, mp_wrm_ne, rd_new_eq, own_new_eq, mp_newm_eq]
      refine Sl.append (srow.ext fl (fun _ _ h => h)) (Sl.lit_at (size := 1) (n := 1) (xs := [i64 j]) rfl rfl).rd rfl (ones_nums [(j : Int)]) (by omega) ?_
      intro v' H5 fp' s5 e5 hfp
      obtain ⟨k1, k2, k3, k4, k5⟩ := fin _ v' H5 fp' fl s5 e5 hfp
      obtain ⟨va, vc', rfl, _⟩ := slv_val s5
      refine And.intro k2 ?_
      simp (disch := (first | omega | (simp only [size_new, size_newm, size_wr, size_wrm] <;> omega) | fail)) only [go_sem, Nat.reduceBEq, Nat.reduceAdd, Nat.reduceMul, Nat.reduceLeDiff, ↓reduceIte, rd_new_lt, own_new_lt, mp_new_lt, rd_newm_lt, own_newm_lt, mp_newm_lt, rd_wr_ne, own_wr_ne, mp_wr_ne, rd_wrm_ne, own_wrm_ne, mp_wrm_ne, rd_new_eq, own_new_eq, mp_newm_eq]
      refine ⟨⟨by omega, by omega⟩, ?_⟩
      simp (disch := (first | omega | (simp only [size_new, size_newm, size_wr, size_wrm] <;> omega) | fail)) only [go_sem, Nat.reduceBEq, Nat.reduceAdd, Nat.reduceMul, Nat.reduceLeDiff, ↓reduceIte, rd_new_lt, own_new_lt, mp_new_lt, rd_newm_lt, own_newm_lt, mp_newm_lt, rd_wr_ne, own_wr_ne, mp_wr_ne, rd_wrm_ne, own_wrm_ne, mp_wrm_ne, rd_new_eq, own_new_eq, mp_newm_eq, k1, Nat.mul_one, Nat.zero_add]
      refine ⟨by omega, ?_⟩
      simp (disch := (first | omega | (simp only [size_new, size_newm, size_wr, size_wrm] <;> omega) | fail)) only [go_sem, Nat.reduceBEq, Nat.reduceAdd, Nat.reduceMul, Nat.reduceLeDiff, ↓reduceIte, rd_new_lt, own_new_lt, mp_new_lt, rd_newm_lt, own_newm_lt, mp_newm_lt, rd_wr_ne, own_wr_ne, mp_wr_ne, rd_wrm_ne, own_wrm_ne, mp_wrm_ne, rd_new_eq, own_new_eq, mp_newm_eq]
      refine And.intro (by first | exact k3 | exact k2) ?_
      simp (disch := (first | omega | (simp only [size_new, size_newm, size_wr, size_wrm] <;> omega) | fail)) only [go_sem, Nat.reduceBEq, Nat.reduceAdd, Nat.reduceMul, Nat.reduceLeDiff, ↓reduceIte, rd_new_lt, own_new_lt, mp_new_lt, rd_newm_lt, own_newm_lt, mp_newm_lt, rd_wr_ne, own_wr_ne, mp_wr_ne, rd_wrm_ne, own_wrm_ne, mp_wrm_ne, rd_new_eq, own_new_eq, mp_newm_eq]
      rw [wrap64 (n := (j : Int) + 1) (by omega) (by omega)]
      exact ⟨es.length - (j + 1), by omega, k4, j + 1, _, rfl, by omega, k5, rfl⟩
    · simp (disch := (first | omega | (simp only [size_new, size_newm, size_wr, size_wrm] <;> omega) | fail)) only [go_sem, Nat.reduceBEq, Nat.reduceAdd, Nat.reduceMul, Nat.reduceLeDiff, ↓reduceIte, rd_new_lt, own_new_lt, mp_new_lt, rd_newm_lt, own_newm_lt, mp_newm_lt, rd_wr_ne, own_wr_ne, mp_wr_ne, rd_wrm_ne, own_wrm_ne, mp_wrm_ne, rd_new_eq, own_new_eq, mp_newm_eq]
      refine And.intro (by first | exact ql | exact q3) ?_
      simp (disch := (first | omega | (simp only [size_new, size_newm, size_wr, size_wrm] <;> omega) | fail)) only [go_sem, Nat.reduceBEq, Nat.reduceAdd, Nat.reduceMul, Nat.reduceLeDiff, ↓reduceIte, rd_new_lt, own_new_lt, mp_new_lt, rd_newm_lt, own_newm_lt, mp_newm_lt, rd_wr_ne, own_wr_ne, mp_wr_ne, rd_wrm_ne, own_wrm_ne, mp_wrm_ne, rd_new_eq, own_new_eq, mp_newm_eq, rd_of_own hol3, Nat.mul_one, Nat.zero_add, hsv]
      refine And.intro (by first | exact ql | exact q3) ?_
      simp (disch := (first | omega | (simp only [size_new, size_newm, size_wr, size_wrm] <;> omega) | fail)) only [go_sem, Nat.reduceBEq, Nat.reduceAdd, Nat.reduceMul, Nat.reduceLeDiff, ↓reduceIte, rd_new_lt, own_new_lt, mp_new_lt, rd_newm_lt, own_newm_lt, mp_newm_lt, rd_wr_ne, own_wr_ne, mp_wr_ne, rd_wrm_ne, own_wrm_ne, mp_wrm_ne, rd_new_eq, own_new_eq, mp_newm_eq]
      refine Sl.append (srow.ext fl (fun _ _ h => h)) (Sl.lit_at (size := 1) (n := 1) (xs := [i64 j]) rfl rfl).rd rfl (ones_nums [(j : Int)]) (by omega) ?_
      intro v' H5 fp' s5 e5 hfp
      obtain ⟨k1, k2, k3, k4, k5⟩ := fin _ v' H5 fp' fl s5 e5 hfp
      obtain ⟨va, vc', rfl, _⟩ := slv_val s5
      refine And.intro k2 ?_
      simp (disch := (first | omega | (simp only [size_new, size_newm, size_wr, size_wrm] <;> omega) | fail)) only [go_sem, Nat.reduceBEq, Nat.reduceAdd, Nat.reduceMul, Nat.reduceLeDiff, ↓reduceIte, rd_new_lt, own_new_lt, mp_new_lt, rd_newm_lt, own_newm_lt, mp_newm_lt, rd_wr_ne, own_wr_ne, mp_wr_ne, rd_wrm_ne, own_wrm_ne, mp_wrm_ne, rd_new_eq, own_new_eq, mp_newm_eq]
      refine ⟨⟨by omega, by omega⟩, ?_⟩
      simp (disch := (first | omega | (simp only [size_new, size_newm, size_wr, size_wrm] <;> omega) | fail)) only [go_sem, Nat.reduceBEq, Nat.reduceAdd, Nat.reduceMul, Nat.reduceLeDiff, ↓reduceIte, rd_new_lt, own_new_lt, mp_new_lt, rd_newm_lt, own_newm_lt, mp_newm_lt, rd_wr_ne, own_wr_ne, mp_wr_ne, rd_wrm_ne, own_wrm_ne, mp_wrm_ne, rd_new_eq, own_new_eq, mp_newm_eq, k1, Nat.mul_one, Nat.zero_add]
      refine ⟨by omega, ?_⟩
      simp (disch := (first | omega | (simp only [size_new, size_newm, size_wr, size_wrm] <;> omega) | fail)) only [go_sem, Nat.reduceBEq, Nat.reduceAdd, Nat.reduceMul, Nat.reduceLeDiff, ↓reduceIte, rd_new_lt, own_new_lt, mp_new_lt, rd_newm_lt, own_newm_lt, mp_newm_lt, rd_wr_ne, own_wr_ne, mp_wr_ne, rd_wrm_ne, own_wrm_ne, mp_wrm_ne, rd_new_eq, own_new_eq, mp_newm_eq]
      refine And.intro (by first | exact k3 | exact k2) ?_
      simp (disch := (first | omega | (simp only [size_new, size_newm, size_wr, size_wrm] <;> omega) | fail)) only [go_sem, Nat.reduceBEq, Nat.reduceAdd, Nat.reduceMul, Nat.reduceLeDiff, ↓reduceIte, rd_new_lt, own_new_lt, mp_new_lt, rd_newm_lt, own_newm_lt, mp_newm_lt, rd_wr_ne, own_wr_ne, mp_wr_ne, rd_wrm_ne, own_wrm_ne, mp_wrm_ne, rd_new_eq, own_new_eq, mp_newm_eq]
      rw [wrap64 (n := (j : Int) + 1) (by omega) (by omega)]
      exact ⟨es.length - (j + 1), by omega, k4, j + 1, _, rfl, by omega, k5, rfl⟩
  · have hj2 : j = es.length := by omega
    subst hj2
    rw [List.take_length] at sl2
    exact ⟨f2, .inr ⟨hR, Hr.size, fp, rfl, sl2⟩⟩

/-- The document's edges that leave a vertex. -/
def qT (v : Nat) (e : Ed) : Bool := decide (e.f = (v : Int)) || decide (e.t = (v : Int))

end Go.Proofs.YtkcpoiploighiaaDoor
