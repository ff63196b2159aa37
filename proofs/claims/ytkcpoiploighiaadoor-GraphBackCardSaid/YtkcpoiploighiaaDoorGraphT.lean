/-
  A graph's text, as the document has it.
-/
import Derived.Test.YtkcpoiploighiaaDoorGraphC
import Derived.Test.YtkcpoiploighiaaDoorRef01
set_option linter.unusedVariables false
set_option linter.unusedSimpArgs false
namespace Go.Proofs.YtkcpoiploighiaaDoor
open Go Go.Vc

theorem cat_big (a b : List UInt8) (h : a.length + b.length ≤ 1000000000000) : (if ((a.toArray.size + b.toArray.size : Nat) : Int) > IntKind.i64.max then none else some (Value.string ((⟨a.toArray⟩ : ByteArray) ++ ⟨b.toArray⟩))) = some (strV (a ++ b)) := by
  have e1 : IntKind.i64.max = 9223372036854775807 := rfl
  rw [if_neg (by rw [e1]; simp only [List.size_toArray]; omega), cat_bytes]

theorem lineW_len (word : List UInt8) : ∀ (l : List Int), (∀ n ∈ l, -9223372036854775808 ≤ n ∧ n ≤ 9223372036854775807) → (lineW word l).length ≤ word.length + 22 * l.length := by
  intro l h
  unfold lineW
  rw [List.length_append]
  have : ((l.map fun n => 32 :: Lib.itoa n).flatten).length ≤ 22 * l.length := by
    induction l with
    | nil => simp
    | cons n l ih =>
      have h1 := ih fun x hx => h x (List.mem_cons_of_mem _ hx)
      obtain ⟨h2, h3⟩ := h n (List.mem_cons_self ..)
      have := itoa_len h2 h3
      rw [List.map_cons, List.flatten_cons, List.length_append, List.length_cons, List.length_cons]
      omega
  omega

def EdR (e : Ed) : Prop := (-9223372036854775808 ≤ e.f ∧ e.f ≤ 9223372036854775807) ∧ (-9223372036854775808 ≤ e.t ∧ e.t ≤ 9223372036854775807) ∧ (-9223372036854775808 ≤ e.w ∧ e.w ≤ 9223372036854775807)

theorem textE3_len {e : Ed} (h : EdR e) : (textE3 e).length ≤ 80 := by
  unfold textE3
  have := lineW_len wEdge [e.f, e.t, e.w] (fun n hn => by
    simp only [List.mem_cons, List.not_mem_nil, or_false] at hn
    rcases hn with rfl | rfl | rfl
    · exact h.1
    · exact h.2.1
    · exact h.2.2)
  simp only [List.length_append, List.length_cons, List.length_nil] at *
  omega

theorem edges_len : ∀ {es : List Ed}, (∀ e ∈ es, EdR e) → ((es.map textE3).flatten).length ≤ 80 * es.length := by
  intro es
  induction es with
  | nil => intro _; simp
  | cons e es ih =>
    intro h
    have h1 := ih fun x hx => h x (List.mem_cons_of_mem _ hx)
    have h2 := textE3_len (h e (List.mem_cons_self ..))
    rw [List.map_cons, List.flatten_cons, List.length_append, List.length_cons]
    omega

theorem lineW_one (word : List UInt8) (n : Int) : lineW word [n] = word ++ 32 :: Lib.itoa n := by unfold lineW; simp
theorem textG_take (n : Int) (es : List Ed) {j : Nat} {e : Ed} (he : es[j]? = some e) : textG n (es.take (j + 1)) = textG n (es.take j) ++ textE3 e := by
  have htk : es.take (j + 1) = es.take j ++ [e] := by rw [List.take_add_one, he]; rfl
  unfold textG
  rw [htk, List.map_append, List.flatten_append]
  simp
theorem textG_len {n : Int} {es : List Ed} (hn : -9223372036854775808 ≤ n ∧ n ≤ 9223372036854775807) (h : ∀ e ∈ es, EdR e) : (textG n es).length ≤ 40 + 80 * es.length := by
  have h1 := lineW_len wGraph [n] (fun x hx => by rw [List.mem_singleton.1 hx]; exact hn)
  have h2 := edges_len h
  unfold textG
  simp only [List.length_append, List.length_cons, List.length_nil] at *
  omega

set_option maxHeartbeats 4000000 in
theorem ref21_Text_spec {H : Hp} {n : Int} {a : Option Addr} {c : Nat} {es : List Ed} (h : RdS H 3 (.slice a es.length c) es.length (flatE es)) (hm : es.length ≤ 1000000000) (hn : -9223372036854775808 ≤ n ∧ n ≤ 9223372036854775807) (hes : ∀ e ∈ es, EdR e) :
    CallH Tryd.prog n_ref21_Text [grV n (.slice a es.length c)] H fun v H' => Post (v = strV (if rightG n es = true then textG n es else []) ∧ Fresh H H') := by
  refine c_ref21_Text ⟨rfl, ?_⟩
  have f0 : Fresh H (H.new 35 [i64 n, .slice a es.length c]) := (Ext.refl _ _).new _ _
  have b0 := own_new H 35 [i64 n, .slice a es.length c]
  simp (disch := (first | omega | (simp only [size_new, size_newm, size_wr, size_wrm] <;> omega) | fail)) only [go_sem, Nat.reduceBEq, Nat.reduceAdd, Nat.reduceMul, Nat.reduceLeDiff, ↓reduceIte, rd_new_lt, own_new_lt, mp_new_lt, rd_newm_lt, own_newm_lt, mp_newm_lt, rd_wr_ne, own_wr_ne, mp_wr_ne, rd_wrm_ne, own_wrm_ne, mp_wrm_ne, rd_new_eq, own_new_eq, mp_newm_eq, s_ref21_Text, grV]
  generalize H.new 35 [i64 n, .slice a es.length c] = H0 at *
  have h0 := h.fresh f0
  refine (ref21_Right_spec (n := n) h0 hm).mono ?_
  rintro _ Hr ⟨rfl, fr⟩
  simp (disch := (first | omega | (simp only [size_new, size_newm, size_wr, size_wrm] <;> omega) | fail)) only [go_sem, Nat.reduceBEq, Nat.reduceAdd, Nat.reduceMul, Nat.reduceLeDiff, ↓reduceIte, rd_new_lt, own_new_lt, mp_new_lt, rd_newm_lt, own_newm_lt, mp_newm_lt, rd_wr_ne, own_wr_ne, mp_wr_ne, rd_wrm_ne, own_wrm_ne, mp_wrm_ne, rd_new_eq, own_new_eq, mp_newm_eq]
  cases hR : rightG n es
  · simp (disch := (first | omega | (simp only [size_new, size_newm, size_wr, size_wrm] <;> omega) | fail)) only [go_sem, Nat.reduceBEq, Nat.reduceAdd, Nat.reduceMul, Nat.reduceLeDiff, ↓reduceIte, rd_new_lt, own_new_lt, mp_new_lt, rd_newm_lt, own_newm_lt, mp_newm_lt, rd_wr_ne, own_wr_ne, mp_wr_ne, rd_wrm_ne, own_wrm_ne, mp_wrm_ne, rd_new_eq, own_new_eq, mp_newm_eq, Bool.not_false]
    exact ⟨rfl, f0.trans fr⟩
  have hr0 := h0.fresh fr
  have br := fr.own b0 (fun h => h)
  simp (disch := (first | omega | (simp only [size_new, size_newm, size_wr, size_wrm] <;> omega) | fail)) only [go_sem, Nat.reduceBEq, Nat.reduceAdd, Nat.reduceMul, Nat.reduceLeDiff, ↓reduceIte, rd_new_lt, own_new_lt, mp_new_lt, rd_newm_lt, own_newm_lt, mp_newm_lt, rd_wr_ne, own_wr_ne, mp_wr_ne, rd_wrm_ne, own_wrm_ne, mp_wrm_ne, rd_new_eq, own_new_eq, mp_newm_eq, Bool.not_true, rd_of_own br]
  refine (ref01_Digits_spec Hr hn.1 hn.2).mono ?_
  rintro _ Hd ⟨rfl, fd⟩
  have hil := itoa_len hn.1 hn.2
  have hr1 := hr0.fresh fd
  have bd := fd.own br (fun h => h)
  simp (disch := (first | omega | (simp only [size_new, size_newm, size_wr, size_wrm] <;> omega) | fail)) only [go_sem, Nat.reduceBEq, Nat.reduceAdd, Nat.reduceMul, Nat.reduceLeDiff, ↓reduceIte, rd_new_lt, own_new_lt, mp_new_lt, rd_newm_lt, own_newm_lt, mp_newm_lt, rd_wr_ne, own_wr_ne, mp_wr_ne, rd_wrm_ne, own_wrm_ne, mp_wrm_ne, rd_new_eq, own_new_eq, mp_newm_eq]
  rw [cat_big [103, 114, 97, 112, 104, 32] (Lib.itoa n) (by simp only [List.length_cons, List.length_nil]; omega)]
  simp (disch := (first | omega | (simp only [size_new, size_newm, size_wr, size_wrm] <;> omega) | fail)) only [go_sem, Nat.reduceBEq, Nat.reduceAdd, Nat.reduceMul, Nat.reduceLeDiff, ↓reduceIte, rd_new_lt, own_new_lt, mp_new_lt, rd_newm_lt, own_newm_lt, mp_newm_lt, rd_wr_ne, own_wr_ne, mp_wr_ne, rd_wrm_ne, own_wrm_ne, mp_wrm_ne, rd_new_eq, own_new_eq, mp_newm_eq]
  rw [cat_big ([103, 114, 97, 112, 104, 32] ++ Lib.itoa n) [10] (by simp only [List.length_cons, List.length_nil, List.length_append]; omega)]
  have e0 : [103, 114, 97, 112, 104, 32] ++ Lib.itoa n ++ [10] = textG n (es.take 0) := by unfold textG; rw [lineW_one]; simp [wGraph]
  rw [e0]
  simp (disch := (first | omega | (simp only [size_new, size_newm, size_wr, size_wrm] <;> omega) | fail)) only [go_sem, Nat.reduceBEq, Nat.reduceAdd, Nat.reduceMul, Nat.reduceLeDiff, ↓reduceIte, rd_new_lt, own_new_lt, mp_new_lt, rd_newm_lt, own_newm_lt, mp_newm_lt, rd_wr_ne, own_wr_ne, mp_wr_ne, rd_wrm_ne, own_wrm_ne, mp_wrm_ne, rd_new_eq, own_new_eq, mp_newm_eq, rd_of_own bd]
  refine LoopV.intro (fun m env H' => Fresh Hd H' ∧ ∃ j : Nat, m = es.length - j ∧ j ≤ es.length ∧ env = [(3, strV (textG n (es.take j))), (15, .slice a es.length c), (16, i64 es.length), (17, i64 j)]) es.length ⟨Ext.refl _ _, 0, by omega, by omega, rfl⟩ ?_
  rintro m env H1 ⟨f1, j, hmj, hj, rfl⟩
  have h1 := hr1.fresh f1
  simp (disch := (first | omega | (simp only [size_new, size_newm, size_wr, size_wrm] <;> omega) | fail)) only [go_sem, Nat.reduceBEq, Nat.reduceAdd, Nat.reduceMul, Nat.reduceLeDiff, ↓reduceIte, rd_new_lt, own_new_lt, mp_new_lt, rd_newm_lt, own_newm_lt, mp_newm_lt, rd_wr_ne, own_wr_ne, mp_wr_ne, rd_wrm_ne, own_wrm_ne, mp_wrm_ne, rd_new_eq, own_new_eq, mp_newm_eq]
  refine Both.dec (fun hlt => ?_) (fun hlt => ?_) <;> simp (disch := (first | omega | (simp only [size_new, size_newm, size_wr, size_wrm] <;> omega) | fail)) only [go_sem, Nat.reduceBEq, Nat.reduceAdd, Nat.reduceMul, Nat.reduceLeDiff, ↓reduceIte, rd_new_lt, own_new_lt, mp_new_lt, rd_newm_lt, own_newm_lt, mp_newm_lt, rd_wr_ne, own_wr_ne, mp_wr_ne, rd_wrm_ne, own_wrm_ne, mp_wrm_ne, rd_new_eq, own_new_eq, mp_newm_eq]
  · have hj2 : j < es.length := by omega
    obtain ⟨e, he⟩ : ∃ e, es[j]? = some e := ⟨_, List.getElem?_eq_getElem hj2⟩
    obtain ⟨_, b, o, lb, rfl, hrd, hle, hcells⟩ := RdS.edge h1 he
    refine ⟨⟨by omega, by omega⟩, ?_⟩
    have hmem := List.mem_of_getElem? he
    simp (disch := (first | omega | (simp only [size_new, size_newm, size_wr, size_wrm] <;> omega) | fail)) only [go_sem, Nat.reduceBEq, Nat.reduceAdd, Nat.reduceMul, Nat.reduceLeDiff, ↓reduceIte, rd_new_lt, own_new_lt, mp_new_lt, rd_newm_lt, own_newm_lt, mp_newm_lt, rd_wr_ne, own_wr_ne, mp_wr_ne, rd_wrm_ne, own_wrm_ne, mp_wrm_ne, rd_new_eq, own_new_eq, mp_newm_eq, hrd, Int.toNat_natCast, hcells, cellsE]
    refine ⟨by omega, ?_⟩
    have q2 := own_new H1 51 [i64 0, i64 0, i64 0]
    simp (disch := (first | omega | (simp only [size_new, size_newm, size_wr, size_wrm] <;> omega) | fail)) only [go_sem, Nat.reduceBEq, Nat.reduceAdd, Nat.reduceMul, Nat.reduceLeDiff, ↓reduceIte, rd_new_lt, own_new_lt, mp_new_lt, rd_newm_lt, own_newm_lt, mp_newm_lt, rd_wr_ne, own_wr_ne, mp_wr_ne, rd_wrm_ne, own_wrm_ne, mp_wrm_ne, rd_new_eq, own_new_eq, mp_newm_eq, hcells, cellsE, q2]
    have q3 := own_wr_same (l := [i64 e.f, i64 e.t, i64 e.w]) q2
    have f3 : Fresh H1 ((H1.new 51 [i64 0, i64 0, i64 0]).wr H1.size [i64 e.f, i64 e.t, i64 e.w]) := ((Ext.refl _ _).new _ _ : Fresh H1 _).then ((Ext.refl (fun z => z = H1.size) _).wr (fun _ => rfl) _) (fun z hz => by omega)
    generalize (H1.new 51 [i64 0, i64 0, i64 0]).wr H1.size [i64 e.f, i64 e.t, i64 e.w] = H3 at *
    obtain ⟨⟨ef0, ef1⟩, ⟨et0, et1⟩, ⟨ew0, ew1⟩⟩ := hes e hmem
    refine InvV.intro (fun H' => H'.own H1.size = some [i64 e.f, i64 e.t, i64 e.w]) q3 ?_
    simp (disch := (first | omega | (simp only [size_new, size_newm, size_wr, size_wrm] <;> omega) | fail)) only [go_sem, Nat.reduceBEq, Nat.reduceAdd, Nat.reduceMul, Nat.reduceLeDiff, ↓reduceIte, rd_new_lt, own_new_lt, mp_new_lt, rd_newm_lt, own_newm_lt, mp_newm_lt, rd_wr_ne, own_wr_ne, mp_wr_ne, rd_wrm_ne, own_wrm_ne, mp_wrm_ne, rd_new_eq, own_new_eq, mp_newm_eq]
    refine StbV.intro (i64 e.f) (fun H' hI => by simp (disch := (first | omega | (simp only [size_new, size_newm, size_wr, size_wrm] <;> omega) | fail)) only [go_sem, Nat.reduceBEq, Nat.reduceAdd, Nat.reduceMul, Nat.reduceLeDiff, ↓reduceIte, rd_new_lt, own_new_lt, mp_new_lt, rd_newm_lt, own_newm_lt, mp_newm_lt, rd_wr_ne, own_wr_ne, mp_wr_ne, rd_wrm_ne, own_wrm_ne, mp_wrm_ne, rd_new_eq, own_new_eq, mp_newm_eq, rd_of_own hI]; exact ⟨trivial, trivial⟩) ?_
    simp (disch := (first | omega | (simp only [size_new, size_newm, size_wr, size_wrm] <;> omega) | fail)) only [go_sem, Nat.reduceBEq, Nat.reduceAdd, Nat.reduceMul, Nat.reduceLeDiff, ↓reduceIte, rd_new_lt, own_new_lt, mp_new_lt, rd_newm_lt, own_newm_lt, mp_newm_lt, rd_wr_ne, own_wr_ne, mp_wr_ne, rd_wrm_ne, own_wrm_ne, mp_wrm_ne, rd_new_eq, own_new_eq, mp_newm_eq]
    refine StbV.intro (i64 e.t) (fun H' hI => by simp (disch := (first | omega | (simp only [size_new, size_newm, size_wr, size_wrm] <;> omega) | fail)) only [go_sem, Nat.reduceBEq, Nat.reduceAdd, Nat.reduceMul, Nat.reduceLeDiff, ↓reduceIte, rd_new_lt, own_new_lt, mp_new_lt, rd_newm_lt, own_newm_lt, mp_newm_lt, rd_wr_ne, own_wr_ne, mp_wr_ne, rd_wrm_ne, own_wrm_ne, mp_wrm_ne, rd_new_eq, own_new_eq, mp_newm_eq, rd_of_own hI]; exact ⟨trivial, trivial⟩) ?_
    simp (disch := (first | omega | (simp only [size_new, size_newm, size_wr, size_wrm] <;> omega) | fail)) only [go_sem, Nat.reduceBEq, Nat.reduceAdd, Nat.reduceMul, Nat.reduceLeDiff, ↓reduceIte, rd_new_lt, own_new_lt, mp_new_lt, rd_newm_lt, own_newm_lt, mp_newm_lt, rd_wr_ne, own_wr_ne, mp_wr_ne, rd_wrm_ne, own_wrm_ne, mp_wrm_ne, rd_new_eq, own_new_eq, mp_newm_eq]
    refine StbV.intro (i64 e.w) (fun H' hI => by simp (disch := (first | omega | (simp only [size_new, size_newm, size_wr, size_wrm] <;> omega) | fail)) only [go_sem, Nat.reduceBEq, Nat.reduceAdd, Nat.reduceMul, Nat.reduceLeDiff, ↓reduceIte, rd_new_lt, own_new_lt, mp_new_lt, rd_newm_lt, own_newm_lt, mp_newm_lt, rd_wr_ne, own_wr_ne, mp_wr_ne, rd_wrm_ne, own_wrm_ne, mp_wrm_ne, rd_new_eq, own_new_eq, mp_newm_eq, rd_of_own hI]; exact ⟨trivial, trivial⟩) ?_
    simp (disch := (first | omega | (simp only [size_new, size_newm, size_wr, size_wrm] <;> omega) | fail)) only [go_sem, Nat.reduceBEq, Nat.reduceAdd, Nat.reduceMul, Nat.reduceLeDiff, ↓reduceIte, rd_new_lt, own_new_lt, mp_new_lt, rd_newm_lt, own_newm_lt, mp_newm_lt, rd_wr_ne, own_wr_ne, mp_wr_ne, rd_wrm_ne, own_wrm_ne, mp_wrm_ne, rd_new_eq, own_new_eq, mp_newm_eq]
    refine (ref01_Digits_spec H3 ef0 ef1).mono ?_
    rintro _ H4 ⟨rfl, f4⟩
    have q4 := f4.own q3 (fun h => h)
    refine And.intro q4 ?_
    have l1 := itoa_len ef0 ef1
    have l2 := itoa_len et0 et1
    have l3 := itoa_len ew0 ew1
    simp (disch := (first | omega | (simp only [size_new, size_newm, size_wr, size_wrm] <;> omega) | fail)) only [go_sem, Nat.reduceBEq, Nat.reduceAdd, Nat.reduceMul, Nat.reduceLeDiff, ↓reduceIte, rd_new_lt, own_new_lt, mp_new_lt, rd_newm_lt, own_newm_lt, mp_newm_lt, rd_wr_ne, own_wr_ne, mp_wr_ne, rd_wrm_ne, own_wrm_ne, mp_wrm_ne, rd_new_eq, own_new_eq, mp_newm_eq]
    rw [cat_big [101, 100, 103, 101, 32] (Lib.itoa e.f) (by simp only [List.length_cons, List.length_nil]; omega)]
    simp (disch := (first | omega | (simp only [size_new, size_newm, size_wr, size_wrm] <;> omega) | fail)) only [go_sem, Nat.reduceBEq, Nat.reduceAdd, Nat.reduceMul, Nat.reduceLeDiff, ↓reduceIte, rd_new_lt, own_new_lt, mp_new_lt, rd_newm_lt, own_newm_lt, mp_newm_lt, rd_wr_ne, own_wr_ne, mp_wr_ne, rd_wrm_ne, own_wrm_ne, mp_wrm_ne, rd_new_eq, own_new_eq, mp_newm_eq]
    rw [cat_big ([101, 100, 103, 101, 32] ++ Lib.itoa e.f) [32] (by simp only [List.length_cons, List.length_nil, List.length_append]; omega)]
    simp (disch := (first | omega | (simp only [size_new, size_newm, size_wr, size_wrm] <;> omega) | fail)) only [go_sem, Nat.reduceBEq, Nat.reduceAdd, Nat.reduceMul, Nat.reduceLeDiff, ↓reduceIte, rd_new_lt, own_new_lt, mp_new_lt, rd_newm_lt, own_newm_lt, mp_newm_lt, rd_wr_ne, own_wr_ne, mp_wr_ne, rd_wrm_ne, own_wrm_ne, mp_wrm_ne, rd_new_eq, own_new_eq, mp_newm_eq]
    refine (ref01_Digits_spec H4 et0 et1).mono ?_
    rintro _ H5 ⟨rfl, f5⟩
    have q5 := f5.own q4 (fun h => h)
    refine And.intro q5 ?_
    simp (disch := (first | omega | (simp only [size_new, size_newm, size_wr, size_wrm] <;> omega) | fail)) only [go_sem, Nat.reduceBEq, Nat.reduceAdd, Nat.reduceMul, Nat.reduceLeDiff, ↓reduceIte, rd_new_lt, own_new_lt, mp_new_lt, rd_newm_lt, own_newm_lt, mp_newm_lt, rd_wr_ne, own_wr_ne, mp_wr_ne, rd_wrm_ne, own_wrm_ne, mp_wrm_ne, rd_new_eq, own_new_eq, mp_newm_eq]
    rw [cat_big ([101, 100, 103, 101, 32] ++ Lib.itoa e.f ++ [32]) (Lib.itoa e.t) (by simp only [List.length_cons, List.length_nil, List.length_append]; omega)]
    simp (disch := (first | omega | (simp only [size_new, size_newm, size_wr, size_wrm] <;> omega) | fail)) only [go_sem, Nat.reduceBEq, Nat.reduceAdd, Nat.reduceMul, Nat.reduceLeDiff, ↓reduceIte, rd_new_lt, own_new_lt, mp_new_lt, rd_newm_lt, own_newm_lt, mp_newm_lt, rd_wr_ne, own_wr_ne, mp_wr_ne, rd_wrm_ne, own_wrm_ne, mp_wrm_ne, rd_new_eq, own_new_eq, mp_newm_eq]
    rw [cat_big ([101, 100, 103, 101, 32] ++ Lib.itoa e.f ++ [32] ++ Lib.itoa e.t) [32] (by simp only [List.length_cons, List.length_nil, List.length_append]; omega)]
    simp (disch := (first | omega | (simp only [size_new, size_newm, size_wr, size_wrm] <;> omega) | fail)) only [go_sem, Nat.reduceBEq, Nat.reduceAdd, Nat.reduceMul, Nat.reduceLeDiff, ↓reduceIte, rd_new_lt, own_new_lt, mp_new_lt, rd_newm_lt, own_newm_lt, mp_newm_lt, rd_wr_ne, own_wr_ne, mp_wr_ne, rd_wrm_ne, own_wrm_ne, mp_wrm_ne, rd_new_eq, own_new_eq, mp_newm_eq]
    refine (ref01_Digits_spec H5 ew0 ew1).mono ?_
    rintro _ H6 ⟨rfl, f6⟩
    have q6 := f6.own q5 (fun h => h)
    refine And.intro q6 ?_
    simp (disch := (first | omega | (simp only [size_new, size_newm, size_wr, size_wrm] <;> omega) | fail)) only [go_sem, Nat.reduceBEq, Nat.reduceAdd, Nat.reduceMul, Nat.reduceLeDiff, ↓reduceIte, rd_new_lt, own_new_lt, mp_new_lt, rd_newm_lt, own_newm_lt, mp_newm_lt, rd_wr_ne, own_wr_ne, mp_wr_ne, rd_wrm_ne, own_wrm_ne, mp_wrm_ne, rd_new_eq, own_new_eq, mp_newm_eq]
    rw [cat_big ([101, 100, 103, 101, 32] ++ Lib.itoa e.f ++ [32] ++ Lib.itoa e.t ++ [32]) (Lib.itoa e.w) (by simp only [List.length_cons, List.length_nil, List.length_append]; omega)]
    simp (disch := (first | omega | (simp only [size_new, size_newm, size_wr, size_wrm] <;> omega) | fail)) only [go_sem, Nat.reduceBEq, Nat.reduceAdd, Nat.reduceMul, Nat.reduceLeDiff, ↓reduceIte, rd_new_lt, own_new_lt, mp_new_lt, rd_newm_lt, own_newm_lt, mp_newm_lt, rd_wr_ne, own_wr_ne, mp_wr_ne, rd_wrm_ne, own_wrm_ne, mp_wrm_ne, rd_new_eq, own_new_eq, mp_newm_eq]
    rw [cat_big ([101, 100, 103, 101, 32] ++ Lib.itoa e.f ++ [32] ++ Lib.itoa e.t ++ [32] ++ Lib.itoa e.w) [10] (by simp only [List.length_cons, List.length_nil, List.length_append]; omega)]
    have e1 : [101, 100, 103, 101, 32] ++ Lib.itoa e.f ++ [32] ++ Lib.itoa e.t ++ [32] ++ Lib.itoa e.w ++ [10] = textE3 e := by unfold textE3 lineW; simp [wEdge]
    rw [e1]
    simp (disch := (first | omega | (simp only [size_new, size_newm, size_wr, size_wrm] <;> omega) | fail)) only [go_sem, Nat.reduceBEq, Nat.reduceAdd, Nat.reduceMul, Nat.reduceLeDiff, ↓reduceIte, rd_new_lt, own_new_lt, mp_new_lt, rd_newm_lt, own_newm_lt, mp_newm_lt, rd_wr_ne, own_wr_ne, mp_wr_ne, rd_wrm_ne, own_wrm_ne, mp_wrm_ne, rd_new_eq, own_new_eq, mp_newm_eq]
    have hl1 := textG_len (es := es.take j) hn (fun x hx => hes x (List.mem_of_mem_take hx))
    have hl2 := textE3_len (hes e hmem)
    rw [List.length_take] at hl1
    rw [cat_big (textG n (es.take j)) (textE3 e) (by omega), ← textG_take n es he]
    simp (disch := (first | omega | (simp only [size_new, size_newm, size_wr, size_wrm] <;> omega) | fail)) only [go_sem, Nat.reduceBEq, Nat.reduceAdd, Nat.reduceMul, Nat.reduceLeDiff, ↓reduceIte, rd_new_lt, own_new_lt, mp_new_lt, rd_newm_lt, own_newm_lt, mp_newm_lt, rd_wr_ne, own_wr_ne, mp_wr_ne, rd_wrm_ne, own_wrm_ne, mp_wrm_ne, rd_new_eq, own_new_eq, mp_newm_eq]
    rw [wrap64 (n := (j : Int) + 1) (by omega) (by omega)]
    exact ⟨es.length - (j + 1), by omega, f1.trans (f3.trans (f4.trans (f5.trans f6))), j + 1, rfl, by omega, rfl⟩
  · have hj2 : j = es.length := by omega
    subst hj2
    rw [List.take_length]
    exact ⟨rfl, f0.trans (fr.trans (fd.trans f1))⟩

end Go.Proofs.YtkcpoiploighiaaDoor
