/-
  A record's line, as the program writes it.
-/
import Derived.Test.YtapoboiofpmheaaDoorRecord
set_option linter.unusedVariables false
set_option linter.unusedSimpArgs false
namespace Go.Proofs.YtapoboiofpmheaaDoor
open Go Go.Vc

theorem strings_Join_spec {H : Hp} {v : Value} {fp : Option Nat} (c : UInt8) (ws : List (List UInt8)) (h : Sl H 1 v ws.length (ws.map strV) fp) (hl : (Lib.join ws [c]).length ≤ 1000000) (hn : ws.length ≤ 1000000) :
    CallH Tryd.prog 47 [v, strV [c]] H fun v H' => Post (v = strV (Lib.join ws [c]) ∧ Fresh H H') := fun w hw => by
  obtain ⟨h1, h2⟩ := h
  cases fp with
  | none =>
    obtain ⟨h3, rfl⟩ := h2
    have : ws = [] := List.length_eq_zero_iff.1 h3
    subst this
    refine (Tryd.strings_Join_none none 0 ⟨[c].toArray⟩ w).mono ?_
    rintro e w' ⟨rfl, rfl⟩
    exact ⟨_, rfl, ⟨rfl, rfl⟩, rfl, by rw [← hw]; exact Ext.refl _ _⟩
  | some b =>
    obtain ⟨l, cp, rfl, h3, h4, h5, h6⟩ := h2
    have hrd := rd_of_own h3
    have hm : (ws.map fun x => (⟨x.toArray⟩ : ByteArray)).map (·.data.toList) = ws := by
      rw [List.map_map]
      exact (List.map_congr_left fun x _ => rfl).trans (List.map_id ws)
    have hcells : ∀ (j : Nat) (x : ByteArray), (ws.map fun x => (⟨x.toArray⟩ : ByteArray))[j]? = some x → w.cell? ⟨b, 0 + j, none⟩ = some (.string x) := fun j x hx => by
      rw [cell_of_rd rfl (by rw [hw]; exact hrd), Nat.zero_add]
      rw [List.getElem?_map] at hx
      cases hj : ws[j]? with
      | none => rw [hj] at hx; cases hx
      | some y =>
        rw [hj] at hx
        injection hx with hx
        subst hx
        have h7 : (ws.map strV)[j]? = some (strV y) := by rw [List.getElem?_map, hj]; rfl
        rw [← h6, List.getElem?_take] at h7
        split at h7
        · exact h7
        · cases h7
    have key := Tryd.strings_Join b 0 cp (ws.map fun x => (⟨x.toArray⟩ : ByteArray)) ⟨[c].toArray⟩ w hcells (by rw [hw]; exact own_lt h3) (by rw [List.length_map]; omega) (by rw [List.length_map]; omega) (by rw [hm]; show (Lib.join ws [c]).length ≤ _; omega)
    rw [List.length_map, hm] at key
    refine key.mono ?_
    rintro e w' ⟨rfl, hb⟩
    obtain ⟨s1, s2⟩ := below_same hb
    exact ⟨_, rfl, s1, rfl, by rw [← hw]; exact s2⟩

theorem words_len {op a b : Nat} {k : Int} (h : op ≤ 10) (hr : RecOk a b k) : ∀ w ∈ wordsR op a b k, w.length ≤ 50 := by
  have la := decDigits_len (u := a) (by have := hr.la; omega)
  have lb := decDigits_len (u := b) (by have := hr.lb; omega)
  have lk := itoa_len hr.k0 hr.k1
  have lw : (wordOf op).length ≤ 8 := by rcases ops op h with rfl | rfl | rfl | rfl | rfl | rfl | rfl | rfl | rfl | rfl | rfl <;> simp [wordOf]
  intro w hw
  unfold wordsR at hw
  rcases List.mem_cons.1 hw with rfl | hw
  · omega
  rcases List.mem_append.1 hw with hw | hw
  · split at hw
    · rw [List.mem_singleton] at hw; subst hw; rw [List.length_append, List.length_cons]; omega
    split at hw
    · rcases List.mem_cons.1 hw with rfl | hw
      · omega
      · rw [List.mem_singleton] at hw; subst hw; omega
    split at hw
    · rw [List.mem_singleton] at hw; subst hw; omega
    · cases hw
  · split at hw
    · rw [List.mem_singleton] at hw; subst hw; omega
    · cases hw

/-- What was taken off a line is a record that can be. -/
theorem right_taken {j : Nat} (h : j ≤ 10) (ws : List (List UInt8)) : RightR j (clA j (takA ws)) (clB j (takB j ws)) (clK j (takK j ws)) := by
  have ha : takA ws < 4294967296 := by
    unfold takA
    split
    · exact small_lt _
    · omega
  have hb : takB j ws < 4294967296 := by
    unfold takB
    split
    · exact small_lt _
    · split
      · exact small_lt _
      · omega
  have hk : -9223372036854775808 ≤ takK j ws ∧ takK j ws ≤ 9223372036854775807 := by
    unfold takK
    split
    · exact num_le _
    · omega
  unfold clA clB clK
  refine ⟨h, ?_, ?_, ?_, ?_, fun e => by rw [e]; rfl, fun e => by rw [e]; rfl, fun e => by rw [e]; rfl⟩ <;> split <;> omega

theorem right_rightB {op a b : Nat} {k : Int} (h : RightR op a b k) : rightB op a b k = true := by
  unfold rightB
  rw [Int.toNat_natCast]
  have := h.le
  refine decide_eq_true ⟨by omega, by omega, ?_, ?_, ?_⟩
  · unfold clA
    split
    · rfl
    · rename_i hc
      exact (h.na (by simpa using hc)).symm
  · unfold clB
    split
    · rfl
    · rename_i hc
      exact (h.nb (by simpa using hc)).symm
  · unfold clK
    split
    · rfl
    · rename_i hc
      exact (h.nk (by simpa using hc)).symm

theorem rightB_right {op : Int} {a b : Nat} {k : Int} (hr : RecOk a b k) (h : rightB op a b k = true) : ∃ i : Nat, op = i ∧ RightR i a b k := by
  obtain ⟨g1, g2, g3, g4, g5⟩ := of_decide_eq_true h
  obtain ⟨i, rfl⟩ : ∃ i : Nat, op = i := ⟨op.toNat, by omega⟩
  rw [Int.toNat_natCast] at g3 g4 g5
  refine ⟨i, rfl, by omega, hr.la, hr.lb, hr.k0, hr.k1, fun e => ?_, fun e => ?_, fun e => ?_⟩
  · rw [← g3]; unfold clA; rw [e]; rfl
  · rw [← g4]; unfold clB; rw [e]; rfl
  · rw [← g5]; unfold clK; rw [e]; rfl

theorem record_Text_spec {H : Hp} (he : ErrH H) {op : Int} {a b : Nat} {k : Int} (hr : RecOk a b k) : CallH Tryd.prog n_record_Text [recV op a b k] H fun v H' => Post (v = strV (if rightB op a b k then textR op.toNat a b k else []) ∧ Fresh H H') := by
  refine c_record_Text ⟨rfl, ?_⟩
  have f0 : Fresh H (H.new 40 [i64 op, u32 a, u32 b, i64 k]) := (Ext.refl _ _).new _ _
  have b1 := own_new H 40 [i64 op, u32 a, u32 b, i64 k]
  simp (disch := (first | omega | (simp only [size_new, size_newm, size_wr, size_wrm] <;> omega) | fail)) only [go_sem, Nat.reduceBEq, Nat.reduceAdd, Nat.reduceMul, Nat.reduceLeDiff, ↓reduceIte, rd_new_lt, own_new_lt, mp_new_lt, rd_newm_lt, own_newm_lt, mp_newm_lt, rd_wr_ne, own_wr_ne, mp_wr_ne, rd_wrm_ne, own_wrm_ne, mp_wrm_ne, rd_new_eq, own_new_eq, mp_newm_eq, s_record_Text]
  generalize H.new 40 [i64 op, u32 a, u32 b, i64 k] = H0 at *
  refine (record_Right_spec H0 op a b k).mono ?_
  rintro _ Ha ⟨rfl, fa⟩
  have ba := fa.own b1 (fun h => h)
  cases hr0 : rightB op a b k
  · simp (disch := (first | omega | (simp only [size_new, size_newm, size_wr, size_wrm] <;> omega) | fail)) only [go_sem, Nat.reduceBEq, Nat.reduceAdd, Nat.reduceMul, Nat.reduceLeDiff, ↓reduceIte, rd_new_lt, own_new_lt, mp_new_lt, rd_newm_lt, own_newm_lt, mp_newm_lt, rd_wr_ne, own_wr_ne, mp_wr_ne, rd_wrm_ne, own_wrm_ne, mp_wrm_ne, rd_new_eq, own_new_eq, mp_newm_eq, Bool.not_false]
    exact ⟨rfl, f0.trans fa⟩
  have hr1 := of_decide_eq_true hr0
  obtain ⟨g1, g2, g3, g4, g5⟩ := hr1
  obtain ⟨i, rfl⟩ : ∃ i : Nat, op = i := ⟨op.toNat, by omega⟩
  have hi : i ≤ 10 := by omega
  simp (disch := (first | omega | (simp only [size_new, size_newm, size_wr, size_wrm] <;> omega) | fail)) only [go_sem, Nat.reduceBEq, Nat.reduceAdd, Nat.reduceMul, Nat.reduceLeDiff, ↓reduceIte, rd_new_lt, own_new_lt, mp_new_lt, rd_newm_lt, own_newm_lt, mp_newm_lt, rd_wr_ne, own_wr_ne, mp_wr_ne, rd_wrm_ne, own_wrm_ne, mp_wrm_ne, rd_new_eq, own_new_eq, mp_newm_eq, Bool.not_true]
  refine vc_cut (fun e H' => e.find 1 = some (ptr H.size) ∧ ∃ x, e.find 3 = some (ptr x) ∧ Ha.size ≤ x ∧ Fresh Ha H' ∧ H'.own x = some (formRow i)) ?_ ?_
  · refine InvV.intro (fun H' => H'.own H.size = some [i64 i, u32 a, u32 b, i64 k]) ba ?_
    simp (disch := (first | omega | (simp only [size_new, size_newm, size_wr, size_wrm] <;> omega) | fail)) only [go_sem, Nat.reduceBEq, Nat.reduceAdd, Nat.reduceMul, Nat.reduceLeDiff, ↓reduceIte, rd_new_lt, own_new_lt, mp_new_lt, rd_newm_lt, own_newm_lt, mp_newm_lt, rd_wr_ne, own_wr_ne, mp_wr_ne, rd_wrm_ne, own_wrm_ne, mp_wrm_ne, rd_new_eq, own_new_eq, mp_newm_eq]
    refine StbV.intro (i64 i) (fun H' hI => ?_) ?_
    · simp (disch := (first | omega | (simp only [size_new, size_newm, size_wr, size_wrm] <;> omega) | fail)) only [go_sem, Nat.reduceBEq, Nat.reduceAdd, Nat.reduceMul, Nat.reduceLeDiff, ↓reduceIte, rd_new_lt, own_new_lt, mp_new_lt, rd_newm_lt, own_newm_lt, mp_newm_lt, rd_wr_ne, own_wr_ne, mp_wr_ne, rd_wrm_ne, own_wrm_ne, mp_wrm_ne, rd_new_eq, own_new_eq, mp_newm_eq, rd_of_own hI]
      exact ⟨trivial, trivial⟩
    simp (disch := (first | omega | (simp only [size_new, size_newm, size_wr, size_wrm] <;> omega) | fail)) only [go_sem, Nat.reduceBEq, Nat.reduceAdd, Nat.reduceMul, Nat.reduceLeDiff, ↓reduceIte, rd_new_lt, own_new_lt, mp_new_lt, rd_newm_lt, own_newm_lt, mp_newm_lt, rd_wr_ne, own_wr_ne, mp_wr_ne, rd_wrm_ne, own_wrm_ne, mp_wrm_ne, rd_new_eq, own_new_eq, mp_newm_eq]
    have hb1 : H.size < Ha.size := own_lt ba
    have p1 := own_new Ha 73 formCells
    have q1 : Fresh Ha (Ha.new 73 formCells) := (Ext.refl _ _).new _ _
    have i1 := q1.own ba (fun h => h)
    have z1 : (Ha.new 73 formCells).size = Ha.size + 1 := by rw [size_new]
    refine Two.intro ?_ ?_
    · simp (disch := (first | omega | (simp only [size_new, size_newm, size_wr, size_wrm] <;> omega) | fail)) only [go_sem, Nat.reduceBEq, Nat.reduceAdd, Nat.reduceMul, Nat.reduceLeDiff, ↓reduceIte, rd_new_lt, own_new_lt, mp_new_lt, rd_newm_lt, own_newm_lt, mp_newm_lt, rd_wr_ne, own_wr_ne, mp_wr_ne, rd_wrm_ne, own_wrm_ne, mp_wrm_ne, rd_new_eq, own_new_eq, mp_newm_eq]
      refine (record_forms_spec Ha).mono ?_
      rintro _ _ ⟨rfl, rfl⟩
      refine And.intro i1 ?_
      simp (disch := (first | omega | (simp only [size_new, size_newm, size_wr, size_wrm] <;> omega) | fail)) only [go_sem, Nat.reduceBEq, Nat.reduceAdd, Nat.reduceMul, Nat.reduceLeDiff, ↓reduceIte, rd_new_lt, own_new_lt, mp_new_lt, rd_newm_lt, own_newm_lt, mp_newm_lt, rd_wr_ne, own_wr_ne, mp_wr_ne, rd_wrm_ne, own_wrm_ne, mp_wrm_ne, rd_new_eq, own_new_eq, mp_newm_eq]
      generalize Ha.new 73 formCells = H1 at *
      refine ⟨⟨by omega, by omega⟩, ?_⟩
      have p2 := own_new H1 73 [.string ⟨#[]⟩, i64 0, .bool false, .bool false]
      have q2 : Fresh H1 (H1.new 73 [.string ⟨#[]⟩, i64 0, .bool false, .bool false]) := (Ext.refl _ _).new _ _
      have i2 := q2.own i1 (fun h => h)
      have p12 := q2.own p1 (fun h => h)
      have fin : ∀ l', l' = [strV (wordOf i), i64 (heapsOf i), .bool (handleOf i), .bool (keyOf i)] → ((H1.new 73 [.string ⟨#[]⟩, i64 0, .bool false, .bool false]).wr H1.size l').own H.size = some [i64 i, u32 a, u32 b, i64 k] ∧ Fresh Ha ((H1.new 73 [.string ⟨#[]⟩, i64 0, .bool false, .bool false]).wr H1.size l') ∧ ((H1.new 73 [.string ⟨#[]⟩, i64 0, .bool false, .bool false]).wr H1.size l').own H1.size = some (formRow i) := fun l' e => by
        subst e
        refine ⟨by rw [own_wr_ne (by omega)]; exact i2, (q1.trans q2).then ((Ext.refl (fun z => z = H1.size) _).wr (fun _ => rfl) _) (fun z hz => by omega), own_wr_same p2⟩
      refine Two.intro ?_ ?_
      · simp (disch := (first | omega | (simp only [size_new, size_newm, size_wr, size_wrm] <;> omega) | fail)) only [go_sem, Nat.reduceBEq, Nat.reduceAdd, Nat.reduceMul, Nat.reduceLeDiff, ↓reduceIte, rd_new_lt, own_new_lt, mp_new_lt, rd_newm_lt, own_newm_lt, mp_newm_lt, rd_wr_ne, own_wr_ne, mp_wr_ne, rd_wrm_ne, own_wrm_ne, mp_wrm_ne, rd_new_eq, own_new_eq, mp_newm_eq, rd_of_own p1, Int.toNat_natCast, Nat.zero_add, form_at hi]
        refine ⟨by rw [form_len]; omega, i1, ?_⟩
        simp (disch := (first | omega | (simp only [size_new, size_newm, size_wr, size_wrm] <;> omega) | fail)) only [go_sem, Nat.reduceBEq, Nat.reduceAdd, Nat.reduceMul, Nat.reduceLeDiff, ↓reduceIte, rd_new_lt, own_new_lt, mp_new_lt, rd_newm_lt, own_newm_lt, mp_newm_lt, rd_wr_ne, own_wr_ne, mp_wr_ne, rd_wrm_ne, own_wrm_ne, mp_wrm_ne, rd_new_eq, own_new_eq, mp_newm_eq]
        refine And.intro (by first | exact i1 | exact i2) ?_
        simp (disch := (first | omega | (simp only [size_new, size_newm, size_wr, size_wrm] <;> omega) | fail)) only [go_sem, Nat.reduceBEq, Nat.reduceAdd, Nat.reduceMul, Nat.reduceLeDiff, ↓reduceIte, rd_new_lt, own_new_lt, mp_new_lt, rd_newm_lt, own_newm_lt, mp_newm_lt, rd_wr_ne, own_wr_ne, mp_wr_ne, rd_wrm_ne, own_wrm_ne, mp_wrm_ne, rd_new_eq, own_new_eq, mp_newm_eq, form_at hi, p2]
        obtain ⟨g1, g2, g3⟩ := fin _ rfl
        refine And.intro (by first | exact g1 | exact i2 | exact i1) ?_
        simp (disch := (first | omega | (simp only [size_new, size_newm, size_wr, size_wrm] <;> omega) | fail)) only [go_sem, Nat.reduceBEq, Nat.reduceAdd, Nat.reduceMul, Nat.reduceLeDiff, ↓reduceIte, rd_new_lt, own_new_lt, mp_new_lt, rd_newm_lt, own_newm_lt, mp_newm_lt, rd_wr_ne, own_wr_ne, mp_wr_ne, rd_wrm_ne, own_wrm_ne, mp_wrm_ne, rd_new_eq, own_new_eq, mp_newm_eq]
        exact ⟨trivial, _, rfl, by omega, g2, g3⟩
      · simp (disch := (first | omega | (simp only [size_new, size_newm, size_wr, size_wrm] <;> omega) | fail)) only [go_sem, Nat.reduceBEq, Nat.reduceAdd, Nat.reduceMul, Nat.reduceLeDiff, ↓reduceIte, rd_new_lt, own_new_lt, mp_new_lt, rd_newm_lt, own_newm_lt, mp_newm_lt, rd_wr_ne, own_wr_ne, mp_wr_ne, rd_wrm_ne, own_wrm_ne, mp_wrm_ne, rd_new_eq, own_new_eq, mp_newm_eq]
        refine And.intro (by first | exact i1 | exact i2) ?_
        simp (disch := (first | omega | (simp only [size_new, size_newm, size_wr, size_wrm] <;> omega) | fail)) only [go_sem, Nat.reduceBEq, Nat.reduceAdd, Nat.reduceMul, Nat.reduceLeDiff, ↓reduceIte, rd_new_lt, own_new_lt, mp_new_lt, rd_newm_lt, own_newm_lt, mp_newm_lt, rd_wr_ne, own_wr_ne, mp_wr_ne, rd_wrm_ne, own_wrm_ne, mp_wrm_ne, rd_new_eq, own_new_eq, mp_newm_eq, rd_of_own p12, Int.toNat_natCast, Nat.zero_add, form_at hi]
        refine ⟨by rw [form_len]; omega, (by first | exact i1 | exact i2), ?_⟩
        simp (disch := (first | omega | (simp only [size_new, size_newm, size_wr, size_wrm] <;> omega) | fail)) only [go_sem, Nat.reduceBEq, Nat.reduceAdd, Nat.reduceMul, Nat.reduceLeDiff, ↓reduceIte, rd_new_lt, own_new_lt, mp_new_lt, rd_newm_lt, own_newm_lt, mp_newm_lt, rd_wr_ne, own_wr_ne, mp_wr_ne, rd_wrm_ne, own_wrm_ne, mp_wrm_ne, rd_new_eq, own_new_eq, mp_newm_eq, form_at hi, p2]
        obtain ⟨g1, g2, g3⟩ := fin _ rfl
        refine And.intro (by first | exact g1 | exact i2 | exact i1) ?_
        simp (disch := (first | omega | (simp only [size_new, size_newm, size_wr, size_wrm] <;> omega) | fail)) only [go_sem, Nat.reduceBEq, Nat.reduceAdd, Nat.reduceMul, Nat.reduceLeDiff, ↓reduceIte, rd_new_lt, own_new_lt, mp_new_lt, rd_newm_lt, own_newm_lt, mp_newm_lt, rd_wr_ne, own_wr_ne, mp_wr_ne, rd_wrm_ne, own_wrm_ne, mp_wrm_ne, rd_new_eq, own_new_eq, mp_newm_eq]
        exact ⟨trivial, _, rfl, by omega, g2, g3⟩
    · have p3 := own_new Ha 73 [.string ⟨#[]⟩, i64 0, .bool false, .bool false]
      have q3 : Fresh Ha (Ha.new 73 [.string ⟨#[]⟩, i64 0, .bool false, .bool false]) := (Ext.refl _ _).new _ _
      have i3 := q3.own ba (fun h => h)
      have z3 : (Ha.new 73 [.string ⟨#[]⟩, i64 0, .bool false, .bool false]).size = Ha.size + 1 := by rw [size_new]
      simp (disch := (first | omega | (simp only [size_new, size_newm, size_wr, size_wrm] <;> omega) | fail)) only [go_sem, Nat.reduceBEq, Nat.reduceAdd, Nat.reduceMul, Nat.reduceLeDiff, ↓reduceIte, rd_new_lt, own_new_lt, mp_new_lt, rd_newm_lt, own_newm_lt, mp_newm_lt, rd_wr_ne, own_wr_ne, mp_wr_ne, rd_wrm_ne, own_wrm_ne, mp_wrm_ne, rd_new_eq, own_new_eq, mp_newm_eq]
      refine And.intro (by first | exact ba | exact i3) ?_
      simp (disch := (first | omega | (simp only [size_new, size_newm, size_wr, size_wrm] <;> omega) | fail)) only [go_sem, Nat.reduceBEq, Nat.reduceAdd, Nat.reduceMul, Nat.reduceLeDiff, ↓reduceIte, rd_new_lt, own_new_lt, mp_new_lt, rd_newm_lt, own_newm_lt, mp_newm_lt, rd_wr_ne, own_wr_ne, mp_wr_ne, rd_wrm_ne, own_wrm_ne, mp_wrm_ne, rd_new_eq, own_new_eq, mp_newm_eq]
      generalize Ha.new 73 [.string ⟨#[]⟩, i64 0, .bool false, .bool false] = H1 at *
      refine (record_forms_spec H1).mono ?_
      rintro _ _ ⟨rfl, rfl⟩
      have p4 := own_new H1 73 formCells
      have q4 : Fresh H1 (H1.new 73 formCells) := (Ext.refl _ _).new _ _
      have i4 := q4.own i3 (fun h => h)
      have p34 := q4.own p3 (fun h => h)
      refine And.intro i4 ?_
      simp (disch := (first | omega | (simp only [size_new, size_newm, size_wr, size_wrm] <;> omega) | fail)) only [go_sem, Nat.reduceBEq, Nat.reduceAdd, Nat.reduceMul, Nat.reduceLeDiff, ↓reduceIte, rd_new_lt, own_new_lt, mp_new_lt, rd_newm_lt, own_newm_lt, mp_newm_lt, rd_wr_ne, own_wr_ne, mp_wr_ne, rd_wrm_ne, own_wrm_ne, mp_wrm_ne, rd_new_eq, own_new_eq, mp_newm_eq]
      generalize H1.new 73 formCells = H2 at *
      refine ⟨⟨by omega, by omega⟩, ?_⟩
      simp (disch := (first | omega | (simp only [size_new, size_newm, size_wr, size_wrm] <;> omega) | fail)) only [go_sem, Nat.reduceBEq, Nat.reduceAdd, Nat.reduceMul, Nat.reduceLeDiff, ↓reduceIte, rd_new_lt, own_new_lt, mp_new_lt, rd_newm_lt, own_newm_lt, mp_newm_lt, rd_wr_ne, own_wr_ne, mp_wr_ne, rd_wrm_ne, own_wrm_ne, mp_wrm_ne, rd_new_eq, own_new_eq, mp_newm_eq, rd_of_own p4, Int.toNat_natCast, Nat.zero_add, form_at hi]
      refine ⟨by rw [form_len]; omega, i4, ?_⟩
      simp (disch := (first | omega | (simp only [size_new, size_newm, size_wr, size_wrm] <;> omega) | fail)) only [go_sem, Nat.reduceBEq, Nat.reduceAdd, Nat.reduceMul, Nat.reduceLeDiff, ↓reduceIte, rd_new_lt, own_new_lt, mp_new_lt, rd_newm_lt, own_newm_lt, mp_newm_lt, rd_wr_ne, own_wr_ne, mp_wr_ne, rd_wrm_ne, own_wrm_ne, mp_wrm_ne, rd_new_eq, own_new_eq, mp_newm_eq, form_at hi, p34]
      refine And.intro (by first | exact i4 | (rw [own_wr_ne (by omega)]; exact i4)) ?_
      simp (disch := (first | omega | (simp only [size_new, size_newm, size_wr, size_wrm] <;> omega) | fail)) only [go_sem, Nat.reduceBEq, Nat.reduceAdd, Nat.reduceMul, Nat.reduceLeDiff, ↓reduceIte, rd_new_lt, own_new_lt, mp_new_lt, rd_newm_lt, own_newm_lt, mp_newm_lt, rd_wr_ne, own_wr_ne, mp_wr_ne, rd_wrm_ne, own_wrm_ne, mp_wrm_ne, rd_new_eq, own_new_eq, mp_newm_eq]
      exact ⟨trivial, _, rfl, by omega, (q3.trans q4).then ((Ext.refl (fun z => z = Ha.size) _).wr (fun _ => rfl) _) (fun z hz => by omega), own_wr_same p34⟩
  rintro e H1 ⟨e1, x, e3, hx, f1, o1⟩
  have o2 := f1.own ba (fun h => h)
  have hr1 : formRow i = [strV (wordOf i), i64 (heapsOf i), .bool (handleOf i), .bool (keyOf i)] := rfl
  rw [hr1] at o1
  have eh1 := ((he.fresh f0).fresh fa).fresh f1
  refine vc_cut (fun e H' => e.find 1 = some (ptr H.size) ∧ e.find 3 = some (ptr x) ∧ e.find 4 = some (strV (Lib.decDigits a)) ∧ e.find 5 = some (strV (Lib.decDigits b)) ∧ Fresh H1 H') ?_ ?_
  · refine InvV.intro (fun H' => H'.own H.size = some [i64 i, u32 a, u32 b, i64 k]) o2 ?_
    simp (disch := (first | omega | (simp only [size_new, size_newm, size_wr, size_wrm] <;> omega) | fail)) only [go_sem, Nat.reduceBEq, Nat.reduceAdd, Nat.reduceMul, Nat.reduceLeDiff, ↓reduceIte, rd_new_lt, own_new_lt, mp_new_lt, rd_newm_lt, own_newm_lt, mp_newm_lt, rd_wr_ne, own_wr_ne, mp_wr_ne, rd_wrm_ne, own_wrm_ne, mp_wrm_ne, rd_new_eq, own_new_eq, mp_newm_eq, e1]
    refine StbV.intro (u32 a) (fun H' hI => ?_) ?_
    · simp (disch := (first | omega | (simp only [size_new, size_newm, size_wr, size_wrm] <;> omega) | fail)) only [go_sem, Nat.reduceBEq, Nat.reduceAdd, Nat.reduceMul, Nat.reduceLeDiff, ↓reduceIte, rd_new_lt, own_new_lt, mp_new_lt, rd_newm_lt, own_newm_lt, mp_newm_lt, rd_wr_ne, own_wr_ne, mp_wr_ne, rd_wrm_ne, own_wrm_ne, mp_wrm_ne, rd_new_eq, own_new_eq, mp_newm_eq, rd_of_own hI, e1]
      exact ⟨trivial, trivial⟩
    have wa : IntKind.i64.wrap (a : Int) = a := wrap64 (by have := hr.la; omega) (by have := hr.la; omega)
    have wb : IntKind.i64.wrap (b : Int) = b := wrap64 (by have := hr.lb; omega) (by have := hr.lb; omega)
    simp (disch := (first | omega | (simp only [size_new, size_newm, size_wr, size_wrm] <;> omega) | fail)) only [go_sem, Nat.reduceBEq, Nat.reduceAdd, Nat.reduceMul, Nat.reduceLeDiff, ↓reduceIte, rd_new_lt, own_new_lt, mp_new_lt, rd_newm_lt, own_newm_lt, mp_newm_lt, rd_wr_ne, own_wr_ne, mp_wr_ne, rd_wrm_ne, own_wrm_ne, mp_wrm_ne, rd_new_eq, own_new_eq, mp_newm_eq, e1]
    refine StbV.intro (u32 b) (fun H' hI => ?_) ?_
    · simp (disch := (first | omega | (simp only [size_new, size_newm, size_wr, size_wrm] <;> omega) | fail)) only [go_sem, Nat.reduceBEq, Nat.reduceAdd, Nat.reduceMul, Nat.reduceLeDiff, ↓reduceIte, rd_new_lt, own_new_lt, mp_new_lt, rd_newm_lt, own_newm_lt, mp_newm_lt, rd_wr_ne, own_wr_ne, mp_wr_ne, rd_wrm_ne, own_wrm_ne, mp_wrm_ne, rd_new_eq, own_new_eq, mp_newm_eq, rd_of_own hI, e1]
      exact ⟨trivial, trivial⟩
    simp (disch := (first | omega | (simp only [size_new, size_newm, size_wr, size_wrm] <;> omega) | fail)) only [go_sem, Nat.reduceBEq, Nat.reduceAdd, Nat.reduceMul, Nat.reduceLeDiff, ↓reduceIte, rd_new_lt, own_new_lt, mp_new_lt, rd_newm_lt, own_newm_lt, mp_newm_lt, rd_wr_ne, own_wr_ne, mp_wr_ne, rd_wrm_ne, own_wrm_ne, mp_wrm_ne, rd_new_eq, own_new_eq, mp_newm_eq, e1, wa, wb]
    refine (entry_Digits_spec eh1.tab (n := (a : Int)) (by omega) (by have := hr.la; omega)).mono ?_
    rintro _ H2 ⟨rfl, f2⟩
    refine And.intro (f2.own o2 (fun h => h)) ?_
    simp (disch := (first | omega | (simp only [size_new, size_newm, size_wr, size_wrm] <;> omega) | fail)) only [go_sem, Nat.reduceBEq, Nat.reduceAdd, Nat.reduceMul, Nat.reduceLeDiff, ↓reduceIte, rd_new_lt, own_new_lt, mp_new_lt, rd_newm_lt, own_newm_lt, mp_newm_lt, rd_wr_ne, own_wr_ne, mp_wr_ne, rd_wrm_ne, own_wrm_ne, mp_wrm_ne, rd_new_eq, own_new_eq, mp_newm_eq, Lib.itoa_nonneg, wa, wb]
    refine (entry_Digits_spec (eh1.fresh f2).tab (n := (b : Int)) (by omega) (by have := hr.lb; omega)).mono ?_
    rintro _ H3 ⟨rfl, f3⟩
    refine And.intro ((f2.trans f3).own o2 (fun h => h)) ?_
    simp (disch := (first | omega | (simp only [size_new, size_newm, size_wr, size_wrm] <;> omega) | fail)) only [go_sem, Nat.reduceBEq, Nat.reduceAdd, Nat.reduceMul, Nat.reduceLeDiff, ↓reduceIte, rd_new_lt, own_new_lt, mp_new_lt, rd_newm_lt, own_newm_lt, mp_newm_lt, rd_wr_ne, own_wr_ne, mp_wr_ne, rd_wrm_ne, own_wrm_ne, mp_wrm_ne, rd_new_eq, own_new_eq, mp_newm_eq, Lib.itoa_nonneg, e1, e3]
    exact ⟨trivial, trivial, trivial, trivial, f2.trans f3⟩
  rintro e H2 ⟨v1, v3, v4, v5, f2⟩
  have o3 := f2.own o1 (fun h => h)
  simp (disch := (first | omega | (simp only [size_new, size_newm, size_wr, size_wrm] <;> omega) | fail)) only [go_sem, Nat.reduceBEq, Nat.reduceAdd, Nat.reduceMul, Nat.reduceLeDiff, ↓reduceIte, rd_new_lt, own_new_lt, mp_new_lt, rd_newm_lt, own_newm_lt, mp_newm_lt, rd_wr_ne, own_wr_ne, mp_wr_ne, rd_wrm_ne, own_wrm_ne, mp_wrm_ne, rd_new_eq, own_new_eq, mp_newm_eq, v1, v3, v4, v5, rd_of_own o3]
  have la := decDigits_len (u := a) (by have := hr.la; omega)
  have lb := decDigits_len (u := b) (by have := hr.lb; omega)
  have lk := itoa_len hr.k0 hr.k1
  have sl0 : Sl (H2.new 9 [strV (wordOf i)]) 1 (.slice (some ⟨H2.size, 0, none⟩) 1 1) 1 ([wordOf i].map strV) (some H2.size) := Sl.lit_at (size := 1) (n := 1) (xs := [strV (wordOf i)]) rfl rfl
  have f3 : Fresh H2 (H2.new 9 [strV (wordOf i)]) := (Ext.refl _ _).new _ _
  have hz2 : (H2.new 9 [strV (wordOf i)]).size = H2.size + 1 := by rw [size_new]
  generalize H2.new 9 [strV (wordOf i)] = H3 at *
  have o4 := f3.own o3 (fun h => h)
  have ones : ∀ ws : List (List UInt8), allOne (ws.map strV) := fun ws v hv => by
    obtain ⟨x, _, rfl⟩ := List.mem_map.1 hv
    rfl
  refine vc_cut (fun e H' => e.find 1 = some (ptr H.size) ∧ e.find 3 = some (ptr x) ∧ ∃ v n ws fp, e.find 6 = some v ∧ n = ws.length ∧ Sl H' 1 v n (ws.map strV) fp ∧ (∀ b, fp = some b → H2.size ≤ b) ∧ ws = wordOf i :: (if handleOf i then [Lib.decDigits a ++ 46 :: Lib.decDigits b] else if heapsOf i = 2 then [Lib.decDigits a, Lib.decDigits b] else if heapsOf i = 1 then [Lib.decDigits a] else []) ∧ Fresh H2 H') ?_ ?_
  · simp (disch := (first | omega | (simp only [size_new, size_newm, size_wr, size_wrm] <;> omega) | fail)) only [go_sem, Nat.reduceBEq, Nat.reduceAdd, Nat.reduceMul, Nat.reduceLeDiff, ↓reduceIte, rd_new_lt, own_new_lt, mp_new_lt, rd_newm_lt, own_newm_lt, mp_newm_lt, rd_wr_ne, own_wr_ne, mp_wr_ne, rd_wrm_ne, own_wrm_ne, mp_wrm_ne, rd_new_eq, own_new_eq, mp_newm_eq, rd_of_own o4]
    have more : ∀ (ys : List (List UInt8)) (n : Nat), ys.length = n → n ≤ 2 → ∀ {K : Value → Hp → Prop}, (∀ v' H' fp', Sl H' 1 v' (1 + n) (([wordOf i] ++ ys).map strV) fp' → (∀ b, fp' = some b → H2.size ≤ b) → Fresh H2 H' → K v' H') →
        AppendV 9 1 16 [.string ⟨#[]⟩] (.slice (some ⟨H2.size, 0, none⟩) 1 1) (.slice (some ⟨H3.size, 0, none⟩) n n) (H3.new 9 (ys.map strV)) K := fun ys n hy hn K hK => by
      have f4 : Fresh H3 (H3.new 9 (ys.map strV)) := (Ext.refl _ _).new _ _
      refine Sl.append (sl0.ext f4 (fun _ _ h => h)) (Sl.lit_at (size := 1) (n := n) (xs := ys.map strV) (by simp [hy]) rfl).rd rfl (ones ys) (by omega) ?_
      intro v' H' fp' s5 e5 hfp
      refine hK v' H' fp' (by rw [List.map_append]; exact s5) ?_ ?_
      · rintro c rfl
        rcases hfp with hfp | ⟨c', hfp, hc1, hc2⟩
        · injection hfp with hfp; omega
        · injection hfp with hfp; have := size_new H3 9 (ys.map strV); omega
      · exact (f3.trans f4).then e5 (fun z (hz : some H2.size = some z) => by injection hz with hz; omega)
    cases hh : handleOf i <;> rw [hh] at o4 <;> simp (disch := (first | omega | (simp only [size_new, size_newm, size_wr, size_wrm] <;> omega) | fail)) only [go_sem, Nat.reduceBEq, Nat.reduceAdd, Nat.reduceMul, Nat.reduceLeDiff, ↓reduceIte, rd_new_lt, own_new_lt, mp_new_lt, rd_newm_lt, own_newm_lt, mp_newm_lt, rd_wr_ne, own_wr_ne, mp_wr_ne, rd_wrm_ne, own_wrm_ne, mp_wrm_ne, rd_new_eq, own_new_eq, mp_newm_eq, rd_of_own o4]
    · refine Both.dec (fun h2 => ?_) (fun h2 => ?_) <;> simp (disch := (first | omega | (simp only [size_new, size_newm, size_wr, size_wrm] <;> omega) | fail)) only [go_sem, Nat.reduceBEq, Nat.reduceAdd, Nat.reduceMul, Nat.reduceLeDiff, ↓reduceIte, rd_new_lt, own_new_lt, mp_new_lt, rd_newm_lt, own_newm_lt, mp_newm_lt, rd_wr_ne, own_wr_ne, mp_wr_ne, rd_wrm_ne, own_wrm_ne, mp_wrm_ne, rd_new_eq, own_new_eq, mp_newm_eq, rd_of_own o4]
      · refine more [Lib.decDigits a, Lib.decDigits b] 2 rfl (by omega) fun v' H' fp' s5 hfp f5 => ?_
        simp (disch := (first | omega | (simp only [size_new, size_newm, size_wr, size_wrm] <;> omega) | fail)) only [go_sem, Nat.reduceBEq, Nat.reduceAdd, Nat.reduceMul, Nat.reduceLeDiff, ↓reduceIte, rd_new_lt, own_new_lt, mp_new_lt, rd_newm_lt, own_newm_lt, mp_newm_lt, rd_wr_ne, own_wr_ne, mp_wr_ne, rd_wrm_ne, own_wrm_ne, mp_wrm_ne, rd_new_eq, own_new_eq, mp_newm_eq]
        exact ⟨trivial, trivial, _, _, _, fp', rfl, rfl, s5, hfp, by rw [if_neg (by simp), if_pos (by omega)]; rfl, f5⟩
      refine Both.dec (fun h1 => ?_) (fun h1 => ?_) <;> simp (disch := (first | omega | (simp only [size_new, size_newm, size_wr, size_wrm] <;> omega) | fail)) only [go_sem, Nat.reduceBEq, Nat.reduceAdd, Nat.reduceMul, Nat.reduceLeDiff, ↓reduceIte, rd_new_lt, own_new_lt, mp_new_lt, rd_newm_lt, own_newm_lt, mp_newm_lt, rd_wr_ne, own_wr_ne, mp_wr_ne, rd_wrm_ne, own_wrm_ne, mp_wrm_ne, rd_new_eq, own_new_eq, mp_newm_eq, rd_of_own o4]
      · refine more [Lib.decDigits a] 1 rfl (by omega) fun v' H' fp' s5 hfp f5 => ?_
        simp (disch := (first | omega | (simp only [size_new, size_newm, size_wr, size_wrm] <;> omega) | fail)) only [go_sem, Nat.reduceBEq, Nat.reduceAdd, Nat.reduceMul, Nat.reduceLeDiff, ↓reduceIte, rd_new_lt, own_new_lt, mp_new_lt, rd_newm_lt, own_newm_lt, mp_newm_lt, rd_wr_ne, own_wr_ne, mp_wr_ne, rd_wrm_ne, own_wrm_ne, mp_wrm_ne, rd_new_eq, own_new_eq, mp_newm_eq]
        exact ⟨trivial, trivial, _, _, _, fp', rfl, rfl, s5, hfp, by rw [if_neg (by simp), if_neg (by omega), if_pos (by omega)]; rfl, f5⟩
      · exact ⟨trivial, trivial, _, _, _, some H2.size, rfl, rfl, sl0, fun b h => by injection h with h; omega, by rw [if_neg (by simp), if_neg (by omega), if_neg (by omega)], f3⟩
    · rw [cat_if _ [46] (by simp only [List.length_singleton]; omega)]
      simp (disch := (first | omega | (simp only [size_new, size_newm, size_wr, size_wrm] <;> omega) | fail)) only [go_sem, Nat.reduceBEq, Nat.reduceAdd, Nat.reduceMul, Nat.reduceLeDiff, ↓reduceIte, rd_new_lt, own_new_lt, mp_new_lt, rd_newm_lt, own_newm_lt, mp_newm_lt, rd_wr_ne, own_wr_ne, mp_wr_ne, rd_wrm_ne, own_wrm_ne, mp_wrm_ne, rd_new_eq, own_new_eq, mp_newm_eq]
      rw [cat_if (Lib.decDigits a ++ [46]) _ (by simp only [List.length_append, List.length_singleton]; omega)]
      simp (disch := (first | omega | (simp only [size_new, size_newm, size_wr, size_wrm] <;> omega) | fail)) only [go_sem, Nat.reduceBEq, Nat.reduceAdd, Nat.reduceMul, Nat.reduceLeDiff, ↓reduceIte, rd_new_lt, own_new_lt, mp_new_lt, rd_newm_lt, own_newm_lt, mp_newm_lt, rd_wr_ne, own_wr_ne, mp_wr_ne, rd_wrm_ne, own_wrm_ne, mp_wrm_ne, rd_new_eq, own_new_eq, mp_newm_eq]
      refine more [Lib.decDigits a ++ [46] ++ Lib.decDigits b] 1 rfl (by omega) fun v' H' fp' s5 hfp f5 => ?_
      simp (disch := (first | omega | (simp only [size_new, size_newm, size_wr, size_wrm] <;> omega) | fail)) only [go_sem, Nat.reduceBEq, Nat.reduceAdd, Nat.reduceMul, Nat.reduceLeDiff, ↓reduceIte, rd_new_lt, own_new_lt, mp_new_lt, rd_newm_lt, own_newm_lt, mp_newm_lt, rd_wr_ne, own_wr_ne, mp_wr_ne, rd_wrm_ne, own_wrm_ne, mp_wrm_ne, rd_new_eq, own_new_eq, mp_newm_eq]
      exact ⟨trivial, trivial, _, _, _, fp', rfl, rfl, s5, hfp, by simp, f5⟩
  rintro e H4 ⟨w1, w3, v, n, ws, fp, w6, rfl, sl4, hfp, hws, f4⟩
  have o5 := f4.own o3 (fun h => h)
  have eh2 := eh1.fresh f2
  refine vc_cut (fun e H' => ∃ v n ws fp, e.find 6 = some v ∧ n = ws.length ∧ Sl H' 1 v n (ws.map strV) fp ∧ ws = wordsR i a b k ∧ Fresh H2 H') ?_ ?_
  · simp (disch := (first | omega | (simp only [size_new, size_newm, size_wr, size_wrm] <;> omega) | fail)) only [go_sem, Nat.reduceBEq, Nat.reduceAdd, Nat.reduceMul, Nat.reduceLeDiff, ↓reduceIte, rd_new_lt, own_new_lt, mp_new_lt, rd_newm_lt, own_newm_lt, mp_newm_lt, rd_wr_ne, own_wr_ne, mp_wr_ne, rd_wrm_ne, own_wrm_ne, mp_wrm_ne, rd_new_eq, own_new_eq, mp_newm_eq, w1, w3, w6, rd_of_own o5]
    have o6 := (f1.trans (f2.trans f4)).own ba (fun h => h)
    cases hh : keyOf i <;> rw [hh] at o5 <;> simp (disch := (first | omega | (simp only [size_new, size_newm, size_wr, size_wrm] <;> omega) | fail)) only [go_sem, Nat.reduceBEq, Nat.reduceAdd, Nat.reduceMul, Nat.reduceLeDiff, ↓reduceIte, rd_new_lt, own_new_lt, mp_new_lt, rd_newm_lt, own_newm_lt, mp_newm_lt, rd_wr_ne, own_wr_ne, mp_wr_ne, rd_wrm_ne, own_wrm_ne, mp_wrm_ne, rd_new_eq, own_new_eq, mp_newm_eq, w1, w3, w6, rd_of_own o6]
    · refine ⟨v, _, ws, fp, rfl, rfl, sl4, ?_, f4⟩
      unfold wordsR
      rw [hws, if_neg (c := keyOf i = true) (by rw [hh]; simp), List.append_nil]
    · refine (entry_Digits_spec (eh2.fresh f4).tab hr.k0 hr.k1).mono ?_
      rintro _ H5 ⟨rfl, f5⟩
      have hlen : ws.length ≤ 3 := by rw [hws]; split <;> (try split) <;> (try split) <;> simp
      have f6 : Fresh H5 (H5.new 9 [strV (Lib.itoa k)]) := (Ext.refl _ _).new _ _
      simp (disch := (first | omega | (simp only [size_new, size_newm, size_wr, size_wrm] <;> omega) | fail)) only [go_sem, Nat.reduceBEq, Nat.reduceAdd, Nat.reduceMul, Nat.reduceLeDiff, ↓reduceIte, rd_new_lt, own_new_lt, mp_new_lt, rd_newm_lt, own_newm_lt, mp_newm_lt, rd_wr_ne, own_wr_ne, mp_wr_ne, rd_wrm_ne, own_wrm_ne, mp_wrm_ne, rd_new_eq, own_new_eq, mp_newm_eq]
      refine Sl.append ((sl4.ext f5 (fun _ _ h => h)).ext f6 (fun _ _ h => h)) (Sl.lit_at (size := 1) (n := 1) (xs := [strV (Lib.itoa k)]) rfl rfl).rd rfl (ones [Lib.itoa k]) (by omega) ?_
      intro v' H' fp' s7 e7 hfp'
      simp (disch := (first | omega | (simp only [size_new, size_newm, size_wr, size_wrm] <;> omega) | fail)) only [go_sem, Nat.reduceBEq, Nat.reduceAdd, Nat.reduceMul, Nat.reduceLeDiff, ↓reduceIte, rd_new_lt, own_new_lt, mp_new_lt, rd_newm_lt, own_newm_lt, mp_newm_lt, rd_wr_ne, own_wr_ne, mp_wr_ne, rd_wrm_ne, own_wrm_ne, mp_wrm_ne, rd_new_eq, own_new_eq, mp_newm_eq]
      refine ⟨v', ws.length + 1, ws ++ [Lib.itoa k], fp', rfl, by simp, by rw [List.map_append]; exact s7, ?_, ?_⟩
      · unfold wordsR
        rw [hws, if_pos (c := keyOf i = true) hh]
        rfl
      · exact (f4.trans (f5.trans f6)).then e7 (fun z hz => hfp z hz)
  rintro e H5 ⟨v', n, ws', fp', u6, rfl, sl5, rfl, f5⟩
  simp (disch := (first | omega | (simp only [size_new, size_newm, size_wr, size_wrm] <;> omega) | fail)) only [go_sem, Nat.reduceBEq, Nat.reduceAdd, Nat.reduceMul, Nat.reduceLeDiff, ↓reduceIte, rd_new_lt, own_new_lt, mp_new_lt, rd_newm_lt, own_newm_lt, mp_newm_lt, rd_wr_ne, own_wr_ne, mp_wr_ne, rd_wrm_ne, own_wrm_ne, mp_wrm_ne, rd_new_eq, own_new_eq, mp_newm_eq, u6]
  have hlen : (wordsR i a b k).length ≤ 4 := by unfold wordsR; rw [List.length_cons, List.length_append]; (split <;> (try split) <;> (try split)) <;> cases keyOf i <;> simp
  refine (strings_Join_spec 32 _ sl5 ?_ (by omega)).mono ?_
  · have := join_le 32 (wordsR i a b k) 50 (words_len hi hr)
    have h8 : (wordsR i a b k).length * 51 ≤ 4 * 51 := Nat.mul_le_mul_right _ hlen
    omega
  rintro _ H6 ⟨rfl, f6⟩
  simp (disch := (first | omega | (simp only [size_new, size_newm, size_wr, size_wrm] <;> omega) | fail)) only [go_sem, Nat.reduceBEq, Nat.reduceAdd, Nat.reduceMul, Nat.reduceLeDiff, ↓reduceIte, rd_new_lt, own_new_lt, mp_new_lt, rd_newm_lt, own_newm_lt, mp_newm_lt, rd_wr_ne, own_wr_ne, mp_wr_ne, rd_wrm_ne, own_wrm_ne, mp_wrm_ne, rd_new_eq, own_new_eq, mp_newm_eq]
  refine ⟨?_, f0.trans (fa.trans (f1.trans (f2.trans (f5.trans f6))))⟩
  rw [if_pos rfl]
  rfl

end Go.Proofs.YtapoboiofpmheaaDoor
