/-
  The document's nest: the first slot of a heap; the order in which its slots come out.
-/
import Derived.Test.YteicchpglnamcaaLtw
set_option linter.unusedVariables false
set_option linter.unusedSimpArgs false
namespace Go.Proofs.Yteicchpglnamcaa
open Go Go.Vc

theorem ref05_Min_spec {H : Hp} {v : Value} {w : Nw} {A : Nat → Prop} (h : NestR H v w A) (g : Int) : CallH Try.prog n_ref05_Min [v, i64 g] H fun r H' => Post (Fresh H H' ∧
    ((w.len g = 0 ∧ r = .tuple [i64 0, .bool false].toArray) ∨ (∃ x, w.first g x ∧ r = .tuple [i64 x, .bool true].toArray))) := by
  obtain ⟨ha, hc, ca, cc, rfl, h1, h2, h3, h4, a1, a2⟩ := id h
  refine c_ref05_Min ⟨rfl, ?_⟩
  simp (disch := (first | omega | (simp only [size_new, size_newm, size_wr, size_wrm] <;> omega) | fail)) only [go_sem, Nat.reduceBEq, Nat.reduceAdd, Nat.reduceMul, Nat.reduceLeDiff, ↓reduceIte, rd_new_lt, own_new_lt, mp_new_lt, rd_newm_lt, own_newm_lt, mp_newm_lt, rd_wr_ne, own_wr_ne, mp_wr_ne, rd_wrm_ne, own_wrm_ne, mp_wrm_ne, rd_new_eq, own_new_eq, mp_newm_eq, s_ref05_Min]
  have f0 : Fresh H (H.new 108 [.slice ha w.hs.length hc, .slice ca w.cs.length cc]) := ((Ext.refl _ _).new _ _)
  have o0 : (H.new 108 [.slice ha w.hs.length hc, .slice ca w.cs.length cc]).own (H.size) = some [.slice ha w.hs.length hc, .slice ca w.cs.length cc] := by rw [own_new]
  have hz : (H.new 108 [.slice ha w.hs.length hc, .slice ca w.cs.length cc]).size = H.size + 1 := by simp only [size_new]
  generalize (H.new 108 [.slice ha w.hs.length hc, .slice ca w.cs.length cc]) = H0 at *
  refine LoopV.intro (fun m env H1 => ∃ (i : Nat) (b : Int), env = [(1, i64 g), (2, ptr H.size), (6, i64 b), (10, .slice ca w.cs.length cc), (11, i64 w.cs.length), (12, i64 i)] ∧ Fresh H0 H1 ∧ i ≤ w.cs.length ∧ m = w.cs.length - i ∧
      ((b = -1 ∧ (g ≤ 0 ∨ ∀ (j : Nat) (c : Ce), j < i → w.cs[j]? = some c → c.1 ≠ g)) ∨ (0 ≤ b ∧ b < i ∧ 0 < g ∧ (∃ e, w.cs[b.toNat]? = some (g, e)) ∧ ∀ (j : Nat) (e : Int × Int), j < i → w.cs[j]? = some (g, e) → (j : Int) ≠ b → ltW w b j = true))) w.cs.length
    ⟨0, -1, rfl, Ext.refl _ _, by omega, by omega, .inl ⟨rfl, .inr fun j c hj => by omega⟩⟩ ?_
  rintro m env H1 ⟨i, b, rfl, f1, hi, rfl, hb⟩
  simp (disch := (first | omega | (simp only [size_new, size_newm, size_wr, size_wrm] <;> omega) | fail)) only [go_sem, Nat.reduceBEq, Nat.reduceAdd, Nat.reduceMul, Nat.reduceLeDiff, ↓reduceIte, rd_new_lt, own_new_lt, mp_new_lt, rd_newm_lt, own_newm_lt, mp_newm_lt, rd_wr_ne, own_wr_ne, mp_wr_ne, rd_wrm_ne, own_wrm_ne, mp_wrm_ne, rd_new_eq, own_new_eq, mp_newm_eq]
  refine Both.dec (fun hin => ?_) (fun hin => ?_) <;> simp (disch := (first | omega | (simp only [size_new, size_newm, size_wr, size_wrm] <;> omega) | fail)) only [go_sem, Nat.reduceBEq, Nat.reduceAdd, Nat.reduceMul, Nat.reduceLeDiff, ↓reduceIte, rd_new_lt, own_new_lt, mp_new_lt, rd_newm_lt, own_newm_lt, mp_newm_lt, rd_wr_ne, own_wr_ne, mp_wr_ne, rd_wrm_ne, own_wrm_ne, mp_wrm_ne, rd_new_eq, own_new_eq, mp_newm_eq]
  · obtain ⟨x, hx⟩ : ∃ x, w.cs[i]? = some x := ⟨_, List.getElem?_eq_getElem (by omega)⟩
    have n1 := h.fresh (f0.trans f1)
    obtain ⟨bb, o, l, rfl, c1, c2, c3, c4, c5, c6, c7, c8⟩ := RdS.cell (h2.fresh (f0.trans f1)) hx
    refine ⟨by omega, ?_⟩
    simp (disch := (first | omega | (simp only [size_new, size_newm, size_wr, size_wrm] <;> omega) | fail)) only [go_sem, Nat.reduceBEq, Nat.reduceAdd, Nat.reduceMul, Nat.reduceLeDiff, ↓reduceIte, rd_new_lt, own_new_lt, mp_new_lt, rd_newm_lt, own_newm_lt, mp_newm_lt, rd_wr_ne, own_wr_ne, mp_wr_ne, rd_wrm_ne, own_wrm_ne, mp_wrm_ne, rd_new_eq, own_new_eq, mp_newm_eq, c1, Int.toNat_natCast]
    refine ⟨by omega, ?_⟩
    simp (disch := (first | omega | (simp only [size_new, size_newm, size_wr, size_wrm] <;> omega) | fail)) only [go_sem, Nat.reduceBEq, Nat.reduceAdd, Nat.reduceMul, Nat.reduceLeDiff, ↓reduceIte, rd_new_lt, own_new_lt, mp_new_lt, rd_newm_lt, own_newm_lt, mp_newm_lt, rd_wr_ne, own_wr_ne, mp_wr_ne, rd_wrm_ne, own_wrm_ne, mp_wrm_ne, rd_new_eq, own_new_eq, mp_newm_eq, c7]
    have e5 : Fresh H1 ((H1.new 147 [.int .i64 0, .int .i64 0, .int .u64 0]).wr H1.size [i64 x.1, i64 x.2.1, u64 x.2.2]) := ((Ext.refl _ _).new _ _).wr (fun h => absurd h (Nat.lt_irrefl _)) _
    have bx : ((H1.new 147 [.int .i64 0, .int .i64 0, .int .u64 0]).wr H1.size [i64 x.1, i64 x.2.1, u64 x.2.2]).own H1.size = some [i64 x.1, i64 x.2.1, u64 x.2.2] := own_wr_same (own_new _ _ _)
    generalize (H1.new 147 [.int .i64 0, .int .i64 0, .int .u64 0]).wr H1.size [i64 x.1, i64 x.2.1, u64 x.2.2] = H2 at *
    have o2 := (f1.trans e5).own o0 (fun h => h)
    have n2 := n1.fresh e5
    have keepB : ∀ (hno : ¬ (0 < g ∧ x.1 = g)), ((b = -1 ∧ (g ≤ 0 ∨ ∀ (j : Nat) (c : Ce), j < i + 1 → w.cs[j]? = some c → c.1 ≠ g)) ∨ (0 ≤ b ∧ b < (i + 1 : Nat) ∧ 0 < g ∧ (∃ e, w.cs[b.toNat]? = some (g, e)) ∧ ∀ (j : Nat) (e : Int × Int), j < i + 1 → w.cs[j]? = some (g, e) → (j : Int) ≠ b → ltW w b j = true)) := fun hno => by
      rcases hb with ⟨hb0, hb1⟩ | ⟨hb0, hb1, hb2, hb3, hb4⟩
      · refine .inl ⟨hb0, ?_⟩
        by_cases hg : g ≤ 0
        · exact .inl hg
        · refine .inr fun j c hj hc e => ?_
          rcases hb1 with hb1 | hb1
          · exact hg hb1
          · by_cases hji : j = i
            · subst hji
              rw [hx] at hc
              injection hc with hc
              subst hc
              exact hno ⟨by omega, e⟩
            · exact hb1 j c (by omega) hc e
      · refine .inr ⟨hb0, by omega, hb2, hb3, fun j e hj he hne => ?_⟩
        by_cases hji : j = i
        · subst hji
          rw [hx] at he
          injection he with he
          exact absurd ⟨hb2, by rw [he]⟩ hno
        · exact hb4 j e (by omega) he hne
    refine Both.dec (fun hg => ?_) (fun hg => ?_)
    · simp (disch := (first | omega | (simp only [size_new, size_newm, size_wr, size_wrm] <;> omega) | fail)) only [go_sem, Nat.reduceBEq, Nat.reduceAdd, Nat.reduceMul, Nat.reduceLeDiff, ↓reduceIte, rd_new_lt, own_new_lt, mp_new_lt, rd_newm_lt, own_newm_lt, mp_newm_lt, rd_wr_ne, own_wr_ne, mp_wr_ne, rd_wrm_ne, own_wrm_ne, mp_wrm_ne, rd_new_eq, own_new_eq, mp_newm_eq, rd_of_own bx]
      refine Both.dec (fun he => ?_) (fun he => ?_)
      · simp (disch := (first | omega | (simp only [size_new, size_newm, size_wr, size_wrm] <;> omega) | fail)) only [go_sem, Nat.reduceBEq, Nat.reduceAdd, Nat.reduceMul, Nat.reduceLeDiff, ↓reduceIte, rd_new_lt, own_new_lt, mp_new_lt, rd_newm_lt, own_newm_lt, mp_newm_lt, rd_wr_ne, own_wr_ne, mp_wr_ne, rd_wrm_ne, own_wrm_ne, mp_wrm_ne, rd_new_eq, own_new_eq, mp_newm_eq]
        have hxe : w.cs[i]? = some (g, x.2) := by rw [hx, ← he]
        refine Both.dec (fun hb0 => ?_) (fun hb0 => ?_)
        · simp (disch := (first | omega | (simp only [size_new, size_newm, size_wr, size_wrm] <;> omega) | fail)) only [go_sem, Nat.reduceBEq, Nat.reduceAdd, Nat.reduceMul, Nat.reduceLeDiff, ↓reduceIte, rd_new_lt, own_new_lt, mp_new_lt, rd_newm_lt, own_newm_lt, mp_newm_lt, rd_wr_ne, own_wr_ne, mp_wr_ne, rd_wrm_ne, own_wrm_ne, mp_wrm_ne, rd_new_eq, own_new_eq, mp_newm_eq]
          rw [wrap64 (n := (i : Int) + 1) (by omega) (by omega)]
          refine ⟨w.cs.length - (i + 1), by omega, i + 1, (i : Int), rfl, f1.trans e5, by omega, rfl, .inr ⟨by omega, by omega, hg, ⟨x.2, by rw [Int.toNat_natCast]; exact hxe⟩, fun j e hj hje hne => ?_⟩⟩
          rcases hb with ⟨_, hb1⟩ | ⟨hb1, _⟩
          · rcases hb1 with hb1 | hb1
            · omega
            · exact absurd rfl (hb1 j _ (by omega) hje)
          · omega
        · simp (disch := (first | omega | (simp only [size_new, size_newm, size_wr, size_wrm] <;> omega) | fail)) only [go_sem, Nat.reduceBEq, Nat.reduceAdd, Nat.reduceMul, Nat.reduceLeDiff, ↓reduceIte, rd_new_lt, own_new_lt, mp_new_lt, rd_newm_lt, own_newm_lt, mp_newm_lt, rd_wr_ne, own_wr_ne, mp_wr_ne, rd_wrm_ne, own_wrm_ne, mp_wrm_ne, rd_new_eq, own_new_eq, mp_newm_eq, rd_of_own o2]
          refine (ref05_Ahead_spec n2 i b).mono ?_
          rintro _ H3 ⟨rfl, f3⟩
          rcases hb with ⟨hb1, _⟩ | ⟨_, hb1, hb2, ⟨eb, heb⟩, hb4⟩
          · omega
          have hah : w.ahead i b = ltW w i b := ltW_ahead ⟨by omega, _, by rw [Int.toNat_natCast]; exact hxe, hg⟩ ⟨by omega, _, heb, hg⟩
          rw [hah]
          simp (disch := (first | omega | (simp only [size_new, size_newm, size_wr, size_wrm] <;> omega) | fail)) only [go_sem, Nat.reduceBEq, Nat.reduceAdd, Nat.reduceMul, Nat.reduceLeDiff, ↓reduceIte, rd_new_lt, own_new_lt, mp_new_lt, rd_newm_lt, own_newm_lt, mp_newm_lt, rd_wr_ne, own_wr_ne, mp_wr_ne, rd_wrm_ne, own_wrm_ne, mp_wrm_ne, rd_new_eq, own_new_eq, mp_newm_eq]
          refine Both.intro (fun ha => ?_) (fun ha => ?_)
          · simp (disch := (first | omega | (simp only [size_new, size_newm, size_wr, size_wrm] <;> omega) | fail)) only [go_sem, Nat.reduceBEq, Nat.reduceAdd, Nat.reduceMul, Nat.reduceLeDiff, ↓reduceIte, rd_new_lt, own_new_lt, mp_new_lt, rd_newm_lt, own_newm_lt, mp_newm_lt, rd_wr_ne, own_wr_ne, mp_wr_ne, rd_wrm_ne, own_wrm_ne, mp_wrm_ne, rd_new_eq, own_new_eq, mp_newm_eq]
            rw [wrap64 (n := (i : Int) + 1) (by omega) (by omega)]
            refine ⟨w.cs.length - (i + 1), by omega, i + 1, (i : Int), rfl, (f1.trans e5).trans f3, by omega, rfl, .inr ⟨by omega, by omega, hg, ⟨x.2, by rw [Int.toNat_natCast]; exact hxe⟩, fun j e hj hje hne => ?_⟩⟩
            by_cases hjb : (j : Int) = b
            · rw [hjb]; exact ha
            · exact (ltW_strict w).tr _ _ _ ha (hb4 j e (by omega) hje hjb)
          · simp (disch := (first | omega | (simp only [size_new, size_newm, size_wr, size_wrm] <;> omega) | fail)) only [go_sem, Nat.reduceBEq, Nat.reduceAdd, Nat.reduceMul, Nat.reduceLeDiff, ↓reduceIte, rd_new_lt, own_new_lt, mp_new_lt, rd_newm_lt, own_newm_lt, mp_newm_lt, rd_wr_ne, own_wr_ne, mp_wr_ne, rd_wrm_ne, own_wrm_ne, mp_wrm_ne, rd_new_eq, own_new_eq, mp_newm_eq]
            rw [wrap64 (n := (i : Int) + 1) (by omega) (by omega)]
            refine ⟨w.cs.length - (i + 1), by omega, i + 1, b, rfl, (f1.trans e5).trans f3, by omega, rfl, .inr ⟨by omega, by omega, hg, ⟨eb, heb⟩, fun j e hj hje hne => ?_⟩⟩
            by_cases hji : j = i
            · subst hji
              rcases (ltW_strict w).tot (j : Int) b hne with h5 | h5
              · rw [ha] at h5; cases h5
              · exact h5
            · exact hb4 j e (by omega) hje hne
      · simp (disch := (first | omega | (simp only [size_new, size_newm, size_wr, size_wrm] <;> omega) | fail)) only [go_sem, Nat.reduceBEq, Nat.reduceAdd, Nat.reduceMul, Nat.reduceLeDiff, ↓reduceIte, rd_new_lt, own_new_lt, mp_new_lt, rd_newm_lt, own_newm_lt, mp_newm_lt, rd_wr_ne, own_wr_ne, mp_wr_ne, rd_wrm_ne, own_wrm_ne, mp_wrm_ne, rd_new_eq, own_new_eq, mp_newm_eq]
        rw [wrap64 (n := (i : Int) + 1) (by omega) (by omega)]
        exact ⟨w.cs.length - (i + 1), by omega, i + 1, b, rfl, f1.trans e5, by omega, rfl, keepB fun h => he h.2⟩
    · simp (disch := (first | omega | (simp only [size_new, size_newm, size_wr, size_wrm] <;> omega) | fail)) only [go_sem, Nat.reduceBEq, Nat.reduceAdd, Nat.reduceMul, Nat.reduceLeDiff, ↓reduceIte, rd_new_lt, own_new_lt, mp_new_lt, rd_newm_lt, own_newm_lt, mp_newm_lt, rd_wr_ne, own_wr_ne, mp_wr_ne, rd_wrm_ne, own_wrm_ne, mp_wrm_ne, rd_new_eq, own_new_eq, mp_newm_eq]
      rw [wrap64 (n := (i : Int) + 1) (by omega) (by omega)]
      exact ⟨w.cs.length - (i + 1), by omega, i + 1, b, rfl, f1.trans e5, by omega, rfl, keepB fun h => hg h.1⟩
  · have hil : i = w.cs.length := by omega
    subst hil
    refine Both.dec (fun hb0 => ?_) (fun hb0 => ?_) <;> simp (disch := (first | omega | (simp only [size_new, size_newm, size_wr, size_wrm] <;> omega) | fail)) only [go_sem, Nat.reduceBEq, Nat.reduceAdd, Nat.reduceMul, Nat.reduceLeDiff, ↓reduceIte, rd_new_lt, own_new_lt, mp_new_lt, rd_newm_lt, own_newm_lt, mp_newm_lt, rd_wr_ne, own_wr_ne, mp_wr_ne, rd_wrm_ne, own_wrm_ne, mp_wrm_ne, rd_new_eq, own_new_eq, mp_newm_eq]
    · refine ⟨f0.trans f1, .inl ⟨Nw.len0.2 ?_, rfl⟩⟩
      rcases hb with ⟨_, hb1⟩ | ⟨hb1, _⟩
      · rcases hb1 with hb1 | hb1
        · exact .inl hb1
        · exact .inr fun j c hc => hb1 j c (List.getElem?_eq_some_iff.1 hc).1 hc
      · omega
    · rcases hb with ⟨hb1, _⟩ | ⟨hb0, hb1, hb2, hb3, hb4⟩
      · omega
      · refine ⟨f0.trans f1, .inr ⟨b, ⟨hb2, hb0, hb3, fun y hy ⟨e, he⟩ hne => ?_⟩, rfl⟩⟩
        have := hb4 y.toNat e (List.getElem?_eq_some_iff.1 he).1 he (by omega)
        rwa [show ((y.toNat : Nat) : Int) = y by omega] at this

theorem ref05_Order_spec {H : Hp} {v : Value} {w : Nw} {A : Nat → Prop} (h : NestR H v w A) (hA : ∀ b, A b → b < H.size) (g : Int) : CallH Try.prog n_ref05_Order [v, i64 g] H fun r H' => Post (Fresh H H' ∧
    ∃ (l : List Int) (fp : Option Nat), OrdOf w g l ∧ Sl H' 1 r l.length (l.map i64) fp ∧ l.length ≤ 65536 ∧ ∀ b, fp = some b → H.size ≤ b) := by
  obtain ⟨ha, hc, ca, cc, rfl, h1, h2, h3, h4, a1, a2⟩ := id h
  refine c_ref05_Order ⟨rfl, ?_⟩
  simp (disch := (first | omega | (simp only [size_new, size_newm, size_wr, size_wrm] <;> omega) | fail)) only [go_sem, Nat.reduceBEq, Nat.reduceAdd, Nat.reduceMul, Nat.reduceLeDiff, ↓reduceIte, rd_new_lt, own_new_lt, mp_new_lt, rd_newm_lt, own_newm_lt, mp_newm_lt, rd_wr_ne, own_wr_ne, mp_wr_ne, rd_wrm_ne, own_wrm_ne, mp_wrm_ne, rd_new_eq, own_new_eq, mp_newm_eq, s_ref05_Order]
  have f0 : Fresh H ((H.new 108 [.slice ha w.hs.length hc, .slice ca w.cs.length cc]).new 3 []) := (((Ext.refl _ _).new _ _).new _ _)
  have o0 : ((H.new 108 [.slice ha w.hs.length hc, .slice ca w.cs.length cc]).new 3 []).own (H.size) = some [.slice ha w.hs.length hc, .slice ca w.cs.length cc] := by rw [own_new_lt (by simp only [size_new]; omega), own_new]
  have s0 : Sl ((H.new 108 [.slice ha w.hs.length hc, .slice ca w.cs.length cc]).new 3 []) 1 (.slice (some ⟨H.size + 1, 0, none⟩) 0 0) 0 [] (some (H.size + 1)) := Sl.lit_at rfl (by simp only [size_new])
  have z0 := f0.size
  have z1 : ((H.new 108 [.slice ha w.hs.length hc, .slice ca w.cs.length cc]).new 3 []).size = H.size + 2 := by simp only [size_new]
  generalize ((H.new 108 [.slice ha w.hs.length hc, .slice ca w.cs.length cc]).new 3 []) = H0 at *
  have hlw := w.len_le g
  refine LoopV.intro (fun m env H1 => ∃ (wn : Nw) (l : List Int) (sv : Value) (fp : Option Nat) (An : Nat → Prop) (nv : List Value), env = [(1, i64 g), (2, ptr H.size), (5, sv)] ∧ m = (wn.len g).toNat ∧ H1.own H.size = some nv ∧ nv.length = 2 ∧ NestR H1 (.agg nv.toArray) wn An ∧
      (∀ b, An b → b < H1.size ∧ b ≠ H.size) ∧ Fresh H H1 ∧ Sl H1 1 sv l.length (l.map i64) fp ∧ (∀ b, fp = some b → H.size < b ∧ ¬ An b) ∧ (l.length : Int) + wn.len g = w.len g ∧ ∀ l', OrdOf wn g l' → OrdOf w g (l ++ l')) (w.len g).toNat
    ⟨w, [], _, _, A, _, rfl, rfl, o0, rfl, h.fresh f0, fun b hb => ⟨by have := hA b hb; omega, by have := hA b hb; omega⟩, f0, s0, fun b hb => ?_, by simp, fun l' hl => hl⟩ ?_
  · injection hb with hb
    exact ⟨by omega, fun h => by have := hA b h; omega⟩
  rintro m env H1 ⟨wn, l, sv, fp, An, nv, rfl, rfl, o1, hnv, n1, hAn, f1, s1, hfp, hlen, hord⟩
  obtain ⟨x0, x1, rfl⟩ : ∃ x0 x1, nv = [x0, x1] := by
    match nv, hnv with
    | [x0, x1], _ => exact ⟨x0, x1, rfl⟩
  simp (disch := (first | omega | (simp only [size_new, size_newm, size_wr, size_wrm] <;> omega) | fail)) only [go_sem, Nat.reduceBEq, Nat.reduceAdd, Nat.reduceMul, Nat.reduceLeDiff, ↓reduceIte, rd_new_lt, own_new_lt, mp_new_lt, rd_newm_lt, own_newm_lt, mp_newm_lt, rd_wr_ne, own_wr_ne, mp_wr_ne, rd_wrm_ne, own_wrm_ne, mp_wrm_ne, rd_new_eq, own_new_eq, mp_newm_eq, rd_of_own o1]
  refine (ref05_Min_spec n1 g).mono ?_
  rintro _ H2 ⟨f2, ⟨h0, rfl⟩ | ⟨x, hx, rfl⟩⟩
  · simp (disch := (first | omega | (simp only [size_new, size_newm, size_wr, size_wrm] <;> omega) | fail)) only [go_sem, Nat.reduceBEq, Nat.reduceAdd, Nat.reduceMul, Nat.reduceLeDiff, ↓reduceIte, rd_new_lt, own_new_lt, mp_new_lt, rd_newm_lt, own_newm_lt, mp_newm_lt, rd_wr_ne, own_wr_ne, mp_wr_ne, rd_wrm_ne, own_wrm_ne, mp_wrm_ne, rd_new_eq, own_new_eq, mp_newm_eq]
    refine ⟨f1.trans f2, l, fp, ?_, s1.ext f2 (fun _ _ h => h), by have := n1; omega, fun b hb => by have := (hfp b hb).1; omega⟩
    have := hord [] (.nil h0)
    rwa [List.append_nil] at this
  · simp (disch := (first | omega | (simp only [size_new, size_newm, size_wr, size_wrm] <;> omega) | fail)) only [go_sem, Nat.reduceBEq, Nat.reduceAdd, Nat.reduceMul, Nat.reduceLeDiff, ↓reduceIte, rd_new_lt, own_new_lt, mp_new_lt, rd_newm_lt, own_newm_lt, mp_newm_lt, rd_wr_ne, own_wr_ne, mp_wr_ne, rd_wrm_ne, own_wrm_ne, mp_wrm_ne, rd_new_eq, own_new_eq, mp_newm_eq]
    have hpos := hx.pos
    have s2 := s1.ext f2 (fun _ _ h => h)
    have e3 : Ext (fun _ => False) H2 (H2.new 3 [i64 x]) := (Ext.refl _ _).new _ _
    refine Sl.append (s2.ext e3 (fun _ _ h => h)) (Sl.lit_at (size := 1) (xs := [i64 x]) rfl rfl).rd rfl (by intro v hv; simp only [List.mem_singleton] at hv; subst hv; rfl) (by omega) ?_
    intro sv' H4 fp' s4 e4 hfp4
    have z2 := f2.size
    have hnb := own_lt o1
    have e34 : Ext (fun z => fp = some z) H2 H4 := (e3.mono fun _ _ h => h.elim).trans' e4 (fun z _ h => h)
    have z4 := e34.size
    have o2 := f2.own o1 (fun h => h)
    have o4 := e34.own o2 (fun h => by have := (hfp _ h).1; omega)
    have n4 := (n1.fresh f2).ext e34 (fun b hb h => (hfp b h).2 hb)
    have hAn4 : ∀ b, An b → b < H4.size := fun b hb => by have := (hAn b hb).1; have := e34.size; omega
    simp (disch := (first | omega | (simp only [size_new, size_newm, size_wr, size_wrm] <;> omega) | fail)) only [go_sem, Nat.reduceBEq, Nat.reduceAdd, Nat.reduceMul, Nat.reduceLeDiff, ↓reduceIte, rd_new_lt, own_new_lt, mp_new_lt, rd_newm_lt, own_newm_lt, mp_newm_lt, rd_wr_ne, own_wr_ne, mp_wr_ne, rd_wrm_ne, own_wrm_ne, mp_wrm_ne, rd_new_eq, own_new_eq, mp_newm_eq, rd_of_own o4]
    refine (ref05_Drop_spec n4 hAn4 x).mono ?_
    rintro _ H5 ⟨f5, ⟨hno, _⟩ | ⟨_, v', rfl, n5⟩⟩
    · exact absurd hx.inC hno
    obtain ⟨ha5, hc5, ca5, cc5, rfl, -⟩ := id n5
    have o5 := f5.own o4 (fun h => h)
    have z5 := f5.size
    simp (disch := (first | omega | (simp only [size_new, size_newm, size_wr, size_wrm] <;> omega) | fail)) only [go_sem, Nat.reduceBEq, Nat.reduceAdd, Nat.reduceMul, Nat.reduceLeDiff, ↓reduceIte, rd_new_lt, own_new_lt, mp_new_lt, rd_newm_lt, own_newm_lt, mp_newm_lt, rd_wr_ne, own_wr_ne, mp_wr_ne, rd_wrm_ne, own_wrm_ne, mp_wrm_ne, rd_new_eq, own_new_eq, mp_newm_eq, o5]
    have e6 : Ext (fun z => z = H.size) H5 (H5.wr H.size [.slice ha5 (wn.put x (0, 0, 0)).hs.length hc5, .slice ca5 (wn.put x (0, 0, 0)).cs.length cc5]) := (Ext.refl (fun z => z = H.size) _).wr (fun _ => rfl) _
    have hfp5 : ∀ b, fp' = some b → H.size < b ∧ b < H4.size ∧ ¬ An b := fun b hb => by
      have hlt : b < H4.size := Sl.lt (hb ▸ s4)
      rcases hfp4 with h | ⟨z, h, h5, _⟩
      · have := hfp b (h ▸ hb); exact ⟨this.1, hlt, this.2⟩
      · rw [h] at hb; injection hb with hb; subst hb
        rw [size_new] at h5
        exact ⟨by omega, hlt, fun h => by have := (hAn z h).1; omega⟩
    obtain ⟨e, he⟩ := hx.2.2.1
    have hl5 := Nw.len_put (y := (0, 0, 0)) he g
    rw [if_pos ⟨hx.1, rfl⟩, if_neg (fun hc => by have := hc.1; have := hc.2; omega)] at hl5
    refine ⟨((wn.put x (0, 0, 0)).len g).toNat, by omega, wn.put x (0, 0, 0), l ++ [x], sv', fp', Grow An H4 H5, _, rfl, rfl, own_wr_same o5, rfl, n5.ext e6 (fun b hb h => ?_), fun b hb => ?_, ?_, ?_, fun b hb => ⟨(hfp5 b hb).1, fun hg => ?_⟩, by rw [List.length_append, List.length_singleton]; omega, fun l' hl' => ?_⟩
    · rcases hb with hb | hb
      · exact (hAn b hb).2 h
      · omega
    · rcases hb with hb | hb
      · have := hAn b hb; exact ⟨by omega, this.2⟩
      · exact ⟨hb.2, by omega⟩
    · exact ((((f1.trans f2).trans' e34 (fun z hz h => by have := (hfp z h).1; omega)).trans f5).then e6 (fun z hz => by omega))
    · have := (s4.ext f5 (fun _ _ h => h)).ext e6 (fun b hb h => by have := (hfp5 b hb).1; omega)
      rw [List.length_append, List.map_append]
      exact this
    · rcases hg with hg | hg
      · exact (hfp5 b hb).2.2 hg
      · have := (hfp5 b hb).2.1; omega
    · have := hord (x :: l') (.cons hx hl')
      rwa [List.append_cons] at this

end Go.Proofs.Yteicchpglnamcaa
