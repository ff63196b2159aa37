/-
  The package shed: a thing is taken out of a pile by the library's container/heap.
-/
import Derived.Test.YteicchpglnamcaaPile2
set_option linter.unusedVariables false
set_option linter.unusedSimpArgs false
namespace Go.Proofs.Yteicchpglnamcaa
open Go Go.Vc

theorem HeapL.congr2 {lt lt' : Int → Int → Bool} {l : List Int} (h : HeapL lt 2 l) (hfg : ∀ z ∈ l, ∀ y ∈ l, lt z y = lt' z y) : HeapL lt' 2 l := by
  intro j h1 h2
  have hp := pa_lt fine2 h1
  have e : ∀ k, k < l.length → l.getD k 0 ∈ l := fun k hk => by
    rw [List.getD_eq_getElem?_getD, List.getElem?_eq_getElem hk]; exact List.getElem_mem hk
  rw [← hfg _ (e j h2) _ (e _ (show pa 2 j < l.length by omega))]
  exact h j h1 h2

theorem dropLast_mem {l at_ : List Int} (h : AtOk l at_) {x : Int} (hx : l[l.length - 1]? = some x) (z : Int) : z ∈ l.dropLast ↔ z ∈ l ∧ z ≠ x := by
  have hl := (List.getElem?_eq_some_iff.1 hx).1
  rw [List.dropLast_eq_take]
  constructor
  · intro hz
    obtain ⟨k, hk⟩ := List.getElem?_of_mem hz
    rw [List.getElem?_take] at hk
    split at hk
    · refine ⟨List.mem_of_getElem? hk, fun e => ?_⟩
      subst e
      have := h.uniq hk hx
      omega
    · cases hk
  · rintro ⟨hz, hne⟩
    obtain ⟨k, hk⟩ := List.getElem?_of_mem hz
    have hkl := (List.getElem?_eq_some_iff.1 hk).1
    have : k ≠ l.length - 1 := fun e => by rw [e, hx] at hk; injection hk with hk; exact hne hk.symm
    exact List.mem_of_getElem? (i := k) (by rw [List.getElem?_take_of_lt (by omega)]; exact hk)

theorem AtOk.dropLast {l at_ : List Int} (h : AtOk l at_) : AtOk l.dropLast at_ := fun i x hx => by
  rw [List.dropLast_eq_take, List.getElem?_take] at hx
  split at hx
  · exact h i x hx
  · cases hx

section
variable {H : Hp} {n c : Nat} {C : Nat → Prop} {rv : Value} {r : Nat} {fp fa : Option Nat} {st : Int} {w : Nw} {l at_ : List Int}

/-- A pile from which a thing came, behind q questions. -/
structure Out (n c : Nat) (C : Nat → Prop) (rv : Value) (r : Nat) (fp fa : Option Nat) (st : Int) (w : Nw) (l at_ : List Int) (x : Int) (H H' : Hp) (l' at' : List Int) (q : Nat) : Prop where
  pile : PileM H' n c C rv r fp fa (min (st + q) 4611686018427387904) w l' at'
  ok : AtOk l' at'
  heap : HeapL (ltW w) 2 l'
  mem : ∀ z, z ∈ l' ↔ z ∈ l ∧ z ≠ x
  len : l'.length + 1 = l.length
  atl : at'.length = at_.length
  off : ∀ z : Int, 0 ≤ z → z ∉ l → at'[z.toNat]? = at_[z.toNat]?
  ext : Ext (fun z => C z ∨ fp = some z ∨ fa = some z ∨ z = r) H H'

theorem pop_out {H1 : Hp} {l1 at1 : List Int} {mm q : Nat} {x : Int} (h : HpTo n c C rv r fp fa st w l at_ mm H H1 l1 at1 q) (hl : 0 < l.length) (hx : l1[l1.length - 1]? = some x) (hh : HeapL (ltW w) 2 (l1.take (l.length - 1))) :
    InvH Try.prog (pv r) "Pop" [] H1 fun v H' => ∃ l' at', Out n c C rv r fp fa st w l at_ x H H' l' at' q := by
  have hlen := h.len
  refine ⟨_, _, n_shed_pile_Pop, ptr r, rfl, methR0 (by kernel_rfl), (pile_Pop_spec h.pile (by omega)).mono ?_⟩
  rintro v H2 ⟨_, m2, e2⟩
  refine ⟨l1.dropLast, at1, m2, h.ok.dropLast, ?_, fun z => by rw [dropLast_mem h.ok hx z, h.mem z], by rw [List.length_dropLast]; omega, h.atl, h.off, (h.ext.mono fun z _ hz => ?_).trans (e2.mono fun z _ hz => .inr (.inr (.inr hz)))⟩
  · rw [List.dropLast_eq_take, hlen]; exact hh
  · rcases hz with hz | hz | hz
    · exact .inl hz
    · exact .inr (.inl hz)
    · exact .inr (.inr (.inl hz))

theorem heap_Remove_spec (m : PileM H n c C rv r fp fa st w l at_) (hat : AtOk l at_) {i : Nat} (hi : i < l.length) (hin : ∀ z ∈ l, InC w.cs z) (hh : HeapL (ltW w) 2 l) :
    CallH Try.prog n_container_heap_Remove [pv r, i64 i] H fun v H' => Post (∃ (l' at' : List Int) (q : Nat), Out n c C rv r fp fa st w l at_ (l.getD i 0) H H' l' at' q ∧ q ≤ 2 * upN 2 ((l.length : Int) - 1)) := by
  have hll := m.ll
  refine c_container_heap_Remove ⟨rfl, ?_⟩
  simp (disch := (first | omega | (simp only [size_new, size_newm, size_wr, size_wrm] <;> omega) | fail)) only [go_sem, Nat.reduceBEq, Nat.reduceAdd, Nat.reduceMul, Nat.reduceLeDiff, ↓reduceIte, rd_new_lt, own_new_lt, mp_new_lt, rd_newm_lt, own_newm_lt, mp_newm_lt, rd_wr_ne, own_wr_ne, mp_wr_ne, rd_wrm_ne, own_wrm_ne, mp_wrm_ne, rd_new_eq, own_new_eq, mp_newm_eq, s_container_heap_Remove]
  refine InvH.mono (K := fun v H' => v = i64 l.length ∧ H = H') ⟨_, _, n_shed_pile_Len, ptr r, rfl, methR0 (by kernel_rfl), pile_Len_spec m⟩ ?_
  rintro _ _ ⟨rfl, rfl⟩
  simp (disch := (first | omega | (simp only [size_new, size_newm, size_wr, size_wrm] <;> omega) | fail)) only [go_sem, Nat.reduceBEq, Nat.reduceAdd, Nat.reduceMul, Nat.reduceLeDiff, ↓reduceIte, rd_new_lt, own_new_lt, mp_new_lt, rd_newm_lt, own_newm_lt, mp_newm_lt, rd_wr_ne, own_wr_ne, mp_wr_ne, rd_wrm_ne, own_wrm_ne, mp_wrm_ne, rd_new_eq, own_new_eq, mp_newm_eq]
  rw [show IntKind.i64.wrap ((l.length : Int) - 1) = ((l.length - 1 : Nat) : Int) by rw [wrap64 (by omega) (by omega)]; omega]
  have h0 := HpTo.refl m hat l.length
  have hgi : l[i]? = some (l.getD i 0) := by rw [List.getD_eq_getElem?_getD, List.getElem?_eq_getElem hi]; rfl
  refine Both.dec (fun he => ?_) (fun he => ?_)
  · simp (disch := (first | omega | (simp only [size_new, size_newm, size_wr, size_wrm] <;> omega) | fail)) only [go_sem, Nat.reduceBEq, Nat.reduceAdd, Nat.reduceMul, Nat.reduceLeDiff, ↓reduceIte, rd_new_lt, own_new_lt, mp_new_lt, rd_newm_lt, own_newm_lt, mp_newm_lt, rd_wr_ne, own_wr_ne, mp_wr_ne, rd_wrm_ne, own_wrm_ne, mp_wrm_ne, rd_new_eq, own_new_eq, mp_newm_eq]
    have hil : i = l.length - 1 := by omega
    refine InvH.mono (pop_out h0 (by omega) (x := l.getD i 0) (by rw [← hil]; exact hgi) (fun j h1 h2 => by
      rw [List.length_take] at h2
      have := pa_lt fine2 h1
      rw [getD_take (by omega), getD_take (by omega)]
      exact hh j h1 (by omega))) ?_
    rintro v H2 ⟨l', at', o⟩
    simp (disch := (first | omega | (simp only [size_new, size_newm, size_wr, size_wrm] <;> omega) | fail)) only [go_sem, Nat.reduceBEq, Nat.reduceAdd, Nat.reduceMul, Nat.reduceLeDiff, ↓reduceIte, rd_new_lt, own_new_lt, mp_new_lt, rd_newm_lt, own_newm_lt, mp_newm_lt, rd_wr_ne, own_wr_ne, mp_wr_ne, rd_wrm_ne, own_wrm_ne, mp_wrm_ne, rd_new_eq, own_new_eq, mp_newm_eq]
    exact ⟨l', at', 0, o, by omega⟩
  · simp (disch := (first | omega | (simp only [size_new, size_newm, size_wr, size_wrm] <;> omega) | fail)) only [go_sem, Nat.reduceBEq, Nat.reduceAdd, Nat.reduceMul, Nat.reduceLeDiff, ↓reduceIte, rd_new_lt, own_new_lt, mp_new_lt, rd_newm_lt, own_newm_lt, mp_newm_lt, rd_wr_ne, own_wr_ne, mp_wr_ne, rd_wrm_ne, own_wrm_ne, mp_wrm_ne, rd_new_eq, own_new_eq, mp_newm_eq]
    have hin1 : i < l.length - 1 := by omega
    refine InvH.mono (h0.swap (Nat.le_refl _) (i := i) (j := l.length - 1) hi (by omega) (by omega)) ?_
    rintro _ H1 ⟨rfl, h1⟩
    simp (disch := (first | omega | (simp only [size_new, size_newm, size_wr, size_wrm] <;> omega) | fail)) only [go_sem, Nat.reduceBEq, Nat.reduceAdd, Nat.reduceMul, Nat.reduceLeDiff, ↓reduceIte, rd_new_lt, own_new_lt, mp_new_lt, rd_newm_lt, own_newm_lt, mp_newm_lt, rd_wr_ne, own_wr_ne, mp_wr_ne, rd_wrm_ne, own_wrm_ne, mp_wrm_ne, rd_new_eq, own_new_eq, mp_newm_eq]
    have hg := getD_swp (l := l) (i := i) (j := l.length - 1) hi (by omega)
    have hl1 := h1.len
    have hA1 : HeapBut (ltW w) 2 ((swp l i (l.length - 1)).take (l.length - 1)) i := by
      have hb := hh.but (ltW_strict w) fine2 i
      refine ⟨fun j h2 h3 h4 h5 => ?_, fun j h2 h3 h4 h5 => ?_⟩
      · rw [List.length_take] at h3
        have := pa_lt fine2 h2
        rw [getD_take (by omega), getD_take (by omega), hg, hg, if_neg (by omega), if_neg h4, if_neg (by omega), if_neg h5]
        exact hb.1 j h2 (by omega) h4 h5
      · rw [List.length_take] at h3
        have := pa_lt fine2 h2
        have := pa_lt fine2 h5
        rw [getD_take (by omega), getD_take (by omega), hg, hg, if_neg (by omega), if_neg (by omega), if_neg (by omega), if_neg (by omega)]
        exact hb.2 j h2 (by omega) h4 h5
    have hin' : ∀ z ∈ swp l i (l.length - 1), InC w.cs z := fun z hz => hin z ((h1.mem z).1 hz)
    have hx1 : (swp l i (l.length - 1))[l.length - 1]? = some (l.getD i 0) := by rw [get_swp hi (by omega), if_pos rfl]; exact hgi
    -- what is so when the heap is made
    have fin : ∀ {H2 : Hp} {l2 at2 : List Int} {q : Nat}, HpTo n c C rv r fp fa (min (st + ((0 : Nat) : Int)) 4611686018427387904) w (swp l i (l.length - 1)) (atSwp l at_ i (l.length - 1)) (l.length - 1) H1 H2 l2 at2 q → HeapL (ltW w) 2 (l2.take (l.length - 1)) →
        InvH Try.prog (pv r) "Pop" [] H2 fun v H' => ∃ l' at', Out n c C rv r fp fa st w l at_ (l.getD i 0) H H' l' at' q := by
      intro H2 l2 at2 q g hheap
      have hst := m.cells.st
      have g' : HpTo n c C rv r fp fa st w l at_ l.length H H2 l2 at2 q := by
        refine ⟨?_, g.ok, fun z => by rw [g.mem z, h1.mem z], g.len.trans hl1, ?_, g.atl.trans h1.atl, fun z hz hm => ?_, h1.ext.trans g.ext⟩
        · have := g.pile
          rw [show min (min (st + ((0 : Nat) : Int)) 4611686018427387904 + (q : Int)) 4611686018427387904 = min (st + (q : Int)) 4611686018427387904 by omega] at this
          exact this
        · rw [List.drop_of_length_le (by rw [g.len]; omega), List.drop_of_length_le (Nat.le_refl _)]
        · rw [g.off z hz (fun h => hm ((h1.mem z).1 h))]; exact h1.off z hz hm
      refine pop_out g' (by omega) ?_ hheap
      have hd := g.drop
      have h2 : (l2.drop (l.length - 1))[0]? = ((swp l i (l.length - 1)).drop (l.length - 1))[0]? := by rw [hd]
      rw [List.getElem?_drop, List.getElem?_drop, Nat.add_zero, hx1] at h2
      rw [g.len, hl1]
      exact h2
    have hmono := upN_mono fine2 ((l.length : Int) - 1).toNat (((l.length - 1 : Nat) : Int) - 1) ((l.length : Int) - 1) (Nat.le_refl _) (by omega)
    refine (heap_down_spec h1.pile h1.ok (i0 := i) (mm := l.length - 1) hin1 (by rw [hl1]; omega) hin' hA1).mono ?_
    rintro _ H2 ⟨b, l2, at2, q1, rfl, g2, hq1, hT, hF⟩
    cases b with
    | true =>
      simp (disch := (first | omega | (simp only [size_new, size_newm, size_wr, size_wrm] <;> omega) | fail)) only [go_sem, Nat.reduceBEq, Nat.reduceAdd, Nat.reduceMul, Nat.reduceLeDiff, ↓reduceIte, rd_new_lt, own_new_lt, mp_new_lt, rd_newm_lt, own_newm_lt, mp_newm_lt, rd_wr_ne, own_wr_ne, mp_wr_ne, rd_wrm_ne, own_wrm_ne, mp_wrm_ne, rd_new_eq, own_new_eq, mp_newm_eq]
      refine InvH.mono (fin g2 (hT rfl)) ?_
      rintro v H3 ⟨l', at', o⟩
      simp (disch := (first | omega | (simp only [size_new, size_newm, size_wr, size_wrm] <;> omega) | fail)) only [go_sem, Nat.reduceBEq, Nat.reduceAdd, Nat.reduceMul, Nat.reduceLeDiff, ↓reduceIte, rd_new_lt, own_new_lt, mp_new_lt, rd_newm_lt, own_newm_lt, mp_newm_lt, rd_wr_ne, own_wr_ne, mp_wr_ne, rd_wrm_ne, own_wrm_ne, mp_wrm_ne, rd_new_eq, own_new_eq, mp_newm_eq]
      exact ⟨l', at', q1, o, by omega⟩
    | false =>
      obtain ⟨e1, e2, hB⟩ := hF rfl
      subst e1 e2
      have hmi := upN_mono fine2 (((l.length - 1 : Nat) : Int) - 1).toNat (i : Int) (((l.length - 1 : Nat) : Int) - 1) (Nat.le_refl _) (by omega)
      simp (disch := (first | omega | (simp only [size_new, size_newm, size_wr, size_wrm] <;> omega) | fail)) only [go_sem, Nat.reduceBEq, Nat.reduceAdd, Nat.reduceMul, Nat.reduceLeDiff, ↓reduceIte, rd_new_lt, own_new_lt, mp_new_lt, rd_newm_lt, own_newm_lt, mp_newm_lt, rd_wr_ne, own_wr_ne, mp_wr_ne, rd_wrm_ne, own_wrm_ne, mp_wrm_ne, rd_new_eq, own_new_eq, mp_newm_eq]
      refine (heap_up_spec g2.pile g2.ok (j := i) (mm := l.length - 1) hin1 (by rw [hl1]; omega) hin' hA1 hB).mono ?_
      rintro _ H3 ⟨rfl, l3, at3, q2, g3, hheap, hq2, _⟩
      simp (disch := (first | omega | (simp only [size_new, size_newm, size_wr, size_wrm] <;> omega) | fail)) only [go_sem, Nat.reduceBEq, Nat.reduceAdd, Nat.reduceMul, Nat.reduceLeDiff, ↓reduceIte, rd_new_lt, own_new_lt, mp_new_lt, rd_newm_lt, own_newm_lt, mp_newm_lt, rd_wr_ne, own_wr_ne, mp_wr_ne, rd_wrm_ne, own_wrm_ne, mp_wrm_ne, rd_new_eq, own_new_eq, mp_newm_eq]
      have g23 : HpTo n c C rv r fp fa (min (st + ((0 : Nat) : Int)) 4611686018427387904) w (swp l i (l.length - 1)) (atSwp l at_ i (l.length - 1)) (l.length - 1) H1 H3 l3 at3 (q1 + q2) := by
        refine ⟨?_, g3.ok, g3.mem, g3.len, g3.drop, g3.atl, g3.off, g2.ext.trans g3.ext⟩
        have := g3.pile
        rw [show min (min (min (st + ((0 : Nat) : Int)) 4611686018427387904 + (q1 : Int)) 4611686018427387904 + (q2 : Int)) 4611686018427387904 = min (min (st + ((0 : Nat) : Int)) 4611686018427387904 + ((q1 + q2 : Nat) : Int)) 4611686018427387904 by omega] at this
        exact this
      refine InvH.mono (fin g23 hheap) ?_
      rintro v H4 ⟨l', at', o⟩
      simp (disch := (first | omega | (simp only [size_new, size_newm, size_wr, size_wrm] <;> omega) | fail)) only [go_sem, Nat.reduceBEq, Nat.reduceAdd, Nat.reduceMul, Nat.reduceLeDiff, ↓reduceIte, rd_new_lt, own_new_lt, mp_new_lt, rd_newm_lt, own_newm_lt, mp_newm_lt, rd_wr_ne, own_wr_ne, mp_wr_ne, rd_wrm_ne, own_wrm_ne, mp_wrm_ne, rd_new_eq, own_new_eq, mp_newm_eq]
      exact ⟨l', at', q1 + q2, o, by omega⟩

end

end Go.Proofs.Yteicchpglnamcaa
