/-
  The laws of layer 21: the chapter's example.
-/
import Derived.Test.YtkcpoiploighiaaDoorGraphQ
import Derived.Test.YtkcpoiploighiaaDoorRef01
set_option linter.unusedVariables false
set_option linter.unusedSimpArgs false
namespace Go.Proofs.YtkcpoiploighiaaDoor
open Go Go.Vc

theorem flatE_len (es : List Ed) : (flatE es).length = es.length * 3 := by
  induction es with
  | nil => rfl
  | cons r rs ih => rw [flatE_cons, List.length_append, ih, List.length_cons]; show 3 + _ = _; omega

theorem flatE_at : ∀ (rs : List Ed) (i : Nat) (r : Ed), rs[i]? = some r → ((flatE rs).drop (i * 3)).take 3 = cellsE r := by
  intro rs
  induction rs with
  | nil => intro i r h; simp at h
  | cons x rs ih =>
    intro i r h
    cases i with
    | zero =>
      simp only [List.getElem?_cons_zero, Option.some.injEq] at h
      subst h
      rw [flatE_cons, Nat.zero_mul, List.drop_zero]
      exact List.take_left' rfl
    | succ i =>
      rw [flatE_cons, show (i + 1) * 3 = 3 + i * 3 by omega, ← List.drop_drop, List.drop_left' (by rfl)]
      exact ih i r (by simpa using h)

theorem RdS.edge {H : Hp} {a : Option Addr} {n c : Nat} {rs : List Ed} (h : RdS H 3 (.slice a n c) n (flatE rs)) {i : Nat} {r : Ed} (hx : rs[i]? = some r) :
    i < n ∧ ∃ b o lb, a = some ⟨b, o, none⟩ ∧ H.rd b = some lb ∧ o + i * 3 + 3 ≤ lb.length ∧ (lb.drop (o + i * 3)).take 3 = cellsE r := by
  obtain ⟨hl, hv⟩ := h
  rw [flatE_len] at hl
  have hi : i < rs.length := by
    rcases Nat.lt_or_ge i rs.length with h | h
    · exact h
    · rw [List.getElem?_eq_none h] at hx; cases hx
  refine ⟨by omega, ?_⟩
  rcases hv with ⟨hn, _⟩ | ⟨b, o, c2, l, hs, hrd, hle, ht⟩
  · omega
  · injection hs with hs1 hs2 hs3
    refine ⟨b, o, l, hs1, hrd, by omega, ?_⟩
    have h7 := flatE_at rs i r hx
    rw [← ht, List.drop_take, List.take_take, List.drop_drop, Nat.min_eq_left (by omega)] at h7
    exact h7

theorem text_ex : textG 2 [⟨0, 1, -5⟩] = [103, 114, 97, 112, 104, 32, 50, 10, 101, 100, 103, 101, 32, 48, 32, 49, 32, 45, 53, 10] := by
  simp only [textG, textE3, lineW, List.map_cons, List.map_nil, Lib.itoa]
  rw [if_neg (by omega : ¬ (2 : Int) < 0), if_neg (by omega : ¬ (0 : Int) < 0), if_neg (by omega : ¬ (1 : Int) < 0), if_pos (by omega : (-5 : Int) < 0), show (-5 : Int).natAbs = 5 from rfl, show Int.toNat 2 = 2 from rfl, show Int.toNat 0 = 0 from rfl, show Int.toNat 1 = 1 from rfl,
    decDigits_small (u := 5) (by omega), decDigits_small (u := 2) (by omega), decDigits_small (u := 0) (by omega), decDigits_small (u := 1) (by omega)]
  rfl

theorem parse_ex : parseL (linesOf [103, 114, 97, 112, 104, 32, 50, 10, 101, 100, 103, 101, 32, 48, 32, 49, 32, 45, 53, 10]) = (some (2, [⟨0, 1, -5⟩]), 0) := by
  rw [← text_ex]
  refine parse_text ?_ (by simp)
  exact ⟨by omega, by omega, by simp, by intro e he; rw [List.mem_singleton.1 he]; exact ⟨by decide, by decide, by decide, by decide⟩⟩

theorem edge_eqVs (a b c a' b' c' : Int) : eqVs [(0, (none, .int)), (1, (none, .int)), (2, (none, .int))] [i64 a, i64 b, i64 c] [i64 a', i64 b', i64 c'] = some (decide (a = a') && (decide (b = b') && decide (c = c'))) := by
  by_cases h1 : a = a' <;> by_cases h2 : b = b' <;> by_cases h3 : c = c' <;> simp [eqVs, partL, eqV, simpleEq, h1, h2, h3]

theorem law21_graphAlive_spec {H : Hp} (he : ErrH H) : CallH Tryd.prog n_law21_graphAlive [] H fun v H' => Post (v = .bool true ∧ Fresh H H') := by
  refine c_law21_graphAlive ⟨rfl, ?_⟩
  simp (disch := (first | omega | (simp only [size_new, size_newm, size_wr, size_wrm] <;> omega) | fail)) only [go_sem, Nat.reduceBEq, Nat.reduceAdd, Nat.reduceMul, Nat.reduceLeDiff, ↓reduceIte, rd_new_lt, own_new_lt, mp_new_lt, rd_newm_lt, own_newm_lt, mp_newm_lt, rd_wr_ne, own_wr_ne, mp_wr_ne, rd_wrm_ne, own_wrm_ne, mp_wrm_ne, rd_new_eq, own_new_eq, mp_newm_eq, s_law21_graphAlive]
  refine (graph_Parse_spec he [103, 114, 97, 112, 104, 32, 50, 10, 101, 100, 103, 101, 32, 48, 32, 49, 32, 45, 53, 10] (by simp)).mono ?_
  rw [parse_ex]
  rintro _ H1 ⟨⟨n, es, s, fp, hp, hn0, hn1, hel, hes, rfl, s1, hfp⟩ | ⟨k, hp, _⟩, f1⟩
  rotate_left
  · cases hp
  injection hp with hp _
  injection hp with hp
  injection hp with hp1 hp2
  subst hp1; subst hp2
  obtain ⟨sa, sc, rfl, hsc⟩ := slv_val s1
  have f2 : Fresh H1 (H1.new 35 [i64 0, .slice none 0 0]) := (Ext.refl _ _).new _ _
  have q2 := own_new H1 35 [i64 0, .slice none 0 0]
  have s2 := s1.ext f2 (fun _ _ h => h)
  simp (disch := (first | omega | (simp only [size_new, size_newm, size_wr, size_wrm] <;> omega) | fail)) only [go_sem, Nat.reduceBEq, Nat.reduceAdd, Nat.reduceMul, Nat.reduceLeDiff, ↓reduceIte, rd_new_lt, own_new_lt, mp_new_lt, rd_newm_lt, own_newm_lt, mp_newm_lt, rd_wr_ne, own_wr_ne, mp_wr_ne, rd_wrm_ne, own_wrm_ne, mp_wrm_ne, rd_new_eq, own_new_eq, mp_newm_eq, q2]
  have q3 := own_wr_same (l := [i64 2, .slice sa 1 sc]) q2
  have f3 : Fresh H1 ((H1.new 35 [i64 0, .slice none 0 0]).wr H1.size [i64 2, .slice sa 1 sc]) := f2.then ((Ext.refl (fun z => z = H1.size) _).wr (fun _ => rfl) _) (fun z hz => by omega)
  have s3 := s1.ext f3 (fun _ _ h => h)
  generalize (H1.new 35 [i64 0, .slice none 0 0]).wr H1.size [i64 2, .slice sa 1 sc] = H3 at *
  obtain ⟨_, b, o, lb, rfl, hrd, hle, hcells⟩ := RdS.edge (rs := [⟨0, 1, -5⟩]) s3.rd (i := 0) rfl
  rw [Nat.zero_mul, Nat.add_zero] at hcells hle
  simp (disch := (first | omega | (simp only [size_new, size_newm, size_wr, size_wrm] <;> omega) | fail)) only [go_sem, Nat.reduceBEq, Nat.reduceAdd, Nat.reduceMul, Nat.reduceLeDiff, ↓reduceIte, rd_new_lt, own_new_lt, mp_new_lt, rd_newm_lt, own_newm_lt, mp_newm_lt, rd_wr_ne, own_wr_ne, mp_wr_ne, rd_wrm_ne, own_wrm_ne, mp_wrm_ne, rd_new_eq, own_new_eq, mp_newm_eq, decide_true, rd_of_own q3]
  refine Both.of_true (by simp) ?_
  simp (disch := (first | omega | (simp only [size_new, size_newm, size_wr, size_wrm] <;> omega) | fail)) only [go_sem, Nat.reduceBEq, Nat.reduceAdd, Nat.reduceMul, Nat.reduceLeDiff, ↓reduceIte, rd_new_lt, own_new_lt, mp_new_lt, rd_newm_lt, own_newm_lt, mp_newm_lt, rd_wr_ne, own_wr_ne, mp_wr_ne, rd_wrm_ne, own_wrm_ne, mp_wrm_ne, rd_new_eq, own_new_eq, mp_newm_eq, decide_true, rd_of_own q3]
  refine ⟨⟨by omega, by omega⟩, ?_⟩
  simp (disch := (first | omega | (simp only [size_new, size_newm, size_wr, size_wrm] <;> omega) | fail)) only [go_sem, Nat.reduceBEq, Nat.reduceAdd, Nat.reduceMul, Nat.reduceLeDiff, ↓reduceIte, rd_new_lt, own_new_lt, mp_new_lt, rd_newm_lt, own_newm_lt, mp_newm_lt, rd_wr_ne, own_wr_ne, mp_wr_ne, rd_wrm_ne, own_wrm_ne, mp_wrm_ne, rd_new_eq, own_new_eq, mp_newm_eq, hrd, Int.toNat_zero, Nat.zero_mul, Nat.add_zero, hcells, cellsE, decide_true]
  refine ⟨hle, ?_⟩
  simp (disch := (first | omega | (simp only [size_new, size_newm, size_wr, size_wrm] <;> omega) | fail)) only [go_sem, Nat.reduceBEq, Nat.reduceAdd, Nat.reduceMul, Nat.reduceLeDiff, ↓reduceIte, rd_new_lt, own_new_lt, mp_new_lt, rd_newm_lt, own_newm_lt, mp_newm_lt, rd_wr_ne, own_wr_ne, mp_wr_ne, rd_wrm_ne, own_wrm_ne, mp_wrm_ne, rd_new_eq, own_new_eq, mp_newm_eq, hcells, cellsE, decide_true]
  rw [edge_eqVs, Option.map_some]
  simp (disch := (first | omega | (simp only [size_new, size_newm, size_wr, size_wrm] <;> omega) | fail)) only [go_sem, Nat.reduceBEq, Nat.reduceAdd, Nat.reduceMul, Nat.reduceLeDiff, ↓reduceIte, rd_new_lt, own_new_lt, mp_new_lt, rd_newm_lt, own_newm_lt, mp_newm_lt, rd_wr_ne, own_wr_ne, mp_wr_ne, rd_wrm_ne, own_wrm_ne, mp_wrm_ne, rd_new_eq, own_new_eq, mp_newm_eq]
  exact ⟨by simp; rfl, f1.trans f3⟩

end Go.Proofs.YtkcpoiploighiaaDoor
