/-
  The package shed: two heaps become one.
-/
import Derived.Test.YteicchpglnamcaaShed3
import Derived.Test.YteicchpglnamcaaJoinW
set_option linter.unusedVariables false
set_option linter.unusedSimpArgs false
namespace Go.Proofs.Yteicchpglnamcaa
open Go Go.Vc

/-- The piles when one takes the other's place, and the other is gone. -/
theorem getTwoP {ps : List (Option Pl)} {a b : Nat} {T : Pl} (ha : a < ps.length) (hb : b < ps.length) (hab : a ≠ b) {h : Nat} {Q : Pl} (hQ : ((ps.set a (some T)).set b none)[h]? = some (some Q)) :
    (h = a ∧ Q = T) ∨ (h ≠ a ∧ h ≠ b ∧ ps[h]? = some (some Q)) := by
  by_cases hh : h = b
  · subst hh
    rw [List.getElem?_set_self (by simpa using hb)] at hQ
    cases hQ
  · rw [List.getElem?_set_ne (Ne.symm hh)] at hQ
    by_cases h2 : h = a
    · subst h2
      rw [List.getElem?_set_self ha] at hQ
      simp only [Option.some.injEq] at hQ
      exact .inl ⟨rfl, hQ.symm⟩
    · rw [List.getElem?_set_ne (Ne.symm h2)] at hQ
      exact .inr ⟨h2, hh, hQ⟩

theorem ShedM.two {H : Hp} {n c f cc : Nat} {C : Nat → Prop} {fa : Option Nat} {st : Int} {w : Nw} {ps : List (Option Pl)} {at_ : List Int} (m : ShedM H n c C (.slice (some ⟨f, 0, none⟩) ps.length cc) (some f) fa st w ps at_) {a b : Nat} (hab : a ≠ b) {T : Pl} (hT : ps[a]? = some (some T) ∨ ps[b]? = some (some T))
    (ha : a < ps.length) (hb : b < ps.length) {lb : List Value} (hf : H.own f = some lb) :
    ShedM (H.wr f ((lb.set a (ptr T.r)).set b (.pointer none))) n c C (.slice (some ⟨f, 0, none⟩) ps.length cc) (some f) fa st w ((ps.set a (some T)).set b none) at_ ∧
      Ext (fun z => z = f) H (H.wr f ((lb.set a (ptr T.r)).set b (.pointer none))) := by
  have e : Ext (fun z => z = f) H (H.wr f ((lb.set a (ptr T.r)).set b (.pointer none))) := (Ext.refl (fun z => z = f) _).wr (fun _ => rfl) _
  have hfp := m.frd f rfl
  obtain ⟨av, ho, hav⟩ := m.own
  have hTr : ∀ (h : Nat) Q, ((ps.set a (some T)).set b none)[h]? = some (some Q) → ∃ h', ps[h']? = some (some Q) ∧ ((h' = h ∧ h ≠ a ∧ h ≠ b) ∨ (h = a ∧ (h' = a ∨ h' = b))) := fun h Q hQ => by
    rcases getTwoP ha hb hab hQ with ⟨rfl, rfl⟩ | ⟨h1, h2, h3⟩
    · rcases hT with hT | hT
      · exact ⟨_, hT, .inr ⟨rfl, .inl rfl⟩⟩
      · exact ⟨_, hT, .inr ⟨rfl, .inr rfl⟩⟩
    · exact ⟨h, h3, .inl ⟨rfl, h1, h2⟩⟩
  refine ⟨⟨⟨av, e.own ho (Ne.symm hfp.2.1), hav.ext e (fun x hx hz => hfp.2.2 (by rw [hx, hz]))⟩, m.cells.ext e (fun x hx hz => hfp.1 (hz ▸ hx)), ?_, fun h Q hQ => ?_, m.nC, m.frd, m.fad, fun h Q hQ x hx => ?_, fun h Q hQ => ?_, fun h h' Q Q' hQ hQ' hne x hx hx' => ?_⟩, e⟩
  · have h1 := (m.sl.set1 hf a (ptr T.r)).set1 (own_wr_same hf) b (.pointer none)
    rw [wr_wr] at h1
    rw [List.length_set, List.length_set, List.map_set, List.map_set]
    exact h1
  · obtain ⟨h', h1, _⟩ := hTr h Q hQ
    obtain ⟨sv, q1, q2⟩ := m.pile h' Q h1
    have hno : ∀ x, Q.S x → x ≠ f := fun x hx hz => (m.pd h' Q h1 x hx).2.2.1 (congrArg some hz.symm)
    exact ⟨sv, e.own q1 (hno _ (.inl rfl)), q2.ext e (fun x hx => hno x (.inr hx))⟩
  · obtain ⟨h', h1, _⟩ := hTr h Q hQ
    exact m.pd h' Q h1 x hx
  · obtain ⟨h', h1, _⟩ := hTr h Q hQ
    exact m.pr h' Q h1
  · obtain ⟨g, h1, h2⟩ := hTr h Q hQ
    obtain ⟨g', h3, h4⟩ := hTr h' Q' hQ'
    exact m.pp g g' Q Q' h1 h3 (by omega) x hx hx'

theorem ShedL.join {w : Nw} {ps : List (Option Pl)} {at_ at' : List Int} (l : ShedL w ps at_) {a b : Int} (ha : w.has a) (hb : w.has b) (hab : a ≠ b) {Ra Rb T : Pl} (hRa : ps[a.toNat]? = some (some Ra)) (hRb : ps[b.toNat]? = some (some Rb))
    (hok : HeapL (ltW (w.join a b)) 2 T.l) (hato : AtOk T.l at') (hmem : ∀ z, z ∈ T.l ↔ z ∈ Ra.l ∨ z ∈ Rb.l) (hlen : T.l.length = Ra.l.length + Rb.l.length) (hatl : at'.length = at_.length)
    (hoff : ∀ z : Int, 0 ≤ z → z ∉ Ra.l → z ∉ Rb.l → at'[z.toNat]? = at_[z.toNat]?) : ShedL (w.join a b) ((ps.set a.toNat (some T)).set b.toNat none) at' := by
  have ha1 := ha.1
  have hb1 := hb.1
  have hla := (List.getElem?_eq_some_iff.1 hRa).1
  have hlb := (List.getElem?_eq_some_iff.1 hRb).1
  have hne : a.toNat ≠ b.toNat := by omega
  have haa : ((a.toNat : Nat) : Int) = a := by omega
  have hbb : ((b.toNat : Nat) : Int) = b := by omega
  refine ⟨by rw [List.length_set, List.length_set, l.hl]; simp [Nw.join], fun h => ?_, ?_, fun h Q hQ => ?_, fun h Q hQ => ?_, fun h Q hQ z => ?_, fun h Q hQ => ?_, by rw [hatl, l.atl]; simp [Nw.join]⟩
  · show (w.hs.set b.toNat false)[h]? = some true ↔ _
    by_cases h1 : h = b.toNat
    · subst h1
      rw [List.getElem?_set_self (by rw [← l.hl]; exact hlb), List.getElem?_set_self (by simpa using hlb)]
      simp
    · rw [List.getElem?_set_ne (Ne.symm h1), List.getElem?_set_ne (Ne.symm h1)]
      by_cases h2 : h = a.toNat
      · subst h2
        rw [List.getElem?_set_self hla]
        exact ⟨fun _ => ⟨_, rfl⟩, fun _ => ha.2⟩
      · rw [List.getElem?_set_ne (Ne.symm h2)]
        exact l.hs h
  · rw [List.getElem?_set_ne (by omega), List.getElem?_set_ne (by omega)]
    exact l.h0
  · rcases getTwoP hla hlb hne hQ with ⟨rfl, rfl⟩ | ⟨h1, h2, h3⟩
    · exact hok
    · exact (l.ok h Q h3).congr2 fun z _ y _ => (ltW_join w a b z y).symm
  · rcases getTwoP hla hlb hne hQ with ⟨rfl, rfl⟩ | ⟨h1, h2, h3⟩
    · exact hato
    · exact (l.ato h Q h3).offs fun z hz z0 => hoff z z0 (l.apart h3 hRa h1 hz) (l.apart h3 hRb h2 hz)
  · rw [join_get]
    rcases getTwoP hla hlb hne hQ with ⟨rfl, rfl⟩ | ⟨h1, h2, h3⟩
    · rw [hmem z, l.mem _ Ra hRa z, l.mem _ Rb hRb z, haa, hbb]
      cases w.cs[z.toNat]? with
      | none => simp
      | some c =>
        obtain ⟨c1, c2⟩ := c
        simp only [Option.map_some, Option.some.injEq, Prod.mk.injEq]
        constructor
        · rintro (⟨z0, e, rfl, rfl⟩ | ⟨z0, e, rfl, rfl⟩)
          · exact ⟨z0, _, by rw [if_neg hab]⟩
          · exact ⟨z0, _, by rw [if_pos rfl]⟩
        · rintro ⟨z0, e, he⟩
          by_cases hcb : c1 = b
          · exact .inr ⟨z0, c2, hcb, rfl⟩
          · rw [if_neg hcb] at he
            exact .inl ⟨z0, c2, (Prod.mk.inj he).1, rfl⟩
    · rw [l.mem h Q h3 z]
      cases w.cs[z.toNat]? with
      | none => simp
      | some c =>
        obtain ⟨c1, c2⟩ := c
        simp only [Option.map_some, Option.some.injEq, Prod.mk.injEq]
        constructor
        · rintro ⟨z0, e, rfl, rfl⟩
          exact ⟨z0, _, by rw [if_neg (by omega)]⟩
        · rintro ⟨z0, e, he⟩
          by_cases hcb : c1 = b
          · rw [if_pos hcb] at he
            exact absurd (Prod.mk.inj he).1 (by omega)
          · rw [if_neg hcb] at he
            exact ⟨z0, c2, (Prod.mk.inj he).1, rfl⟩
  · rw [Nw.len_join w hab (by omega) (by omega)]
    rcases getTwoP hla hlb hne hQ with ⟨rfl, rfl⟩ | ⟨h1, h2, h3⟩
    · rw [if_pos haa]
      have e1 := l.len _ Ra hRa
      have e2 := l.len _ Rb hRb
      rw [haa] at e1
      rw [hbb] at e2
      omega
    · rw [if_neg (by omega), if_neg (by omega)]
      exact l.len h Q h3

set_option maxHeartbeats 1000000 in
theorem shed_Meld_spec {H : Hp} {n : Nat} {S : Nat → Prop} {st : Int} {w : Nw} (h : ShedAt H n S st w) (a b : Int) : CallH Try.prog n_shed_Nest_Meld [ptr n, i64 a, i64 b] H fun v H' => Post (
    (¬ (w.has a ∧ w.has b ∧ a ≠ b) ∧ v = .bool false ∧ H = H') ∨
    ((w.has a ∧ w.has b ∧ a ≠ b) ∧ v = .bool true ∧ ∃ q : Nat, (q : Int) ≤ min (w.len a) (w.len b) * (upN 2 (w.len a + w.len b) : Nat) ∧ ∃ S', ShedAt H' n S' (min (st + q) 4611686018427387904) (w.join a b) ∧ Ext S H H' ∧ ∀ z, S' z → S z ∨ H.size ≤ z)) := by
  obtain ⟨c, C, rv, fr, fa, ps, at_, m, l, hS⟩ := h
  obtain ⟨av, ho, hav⟩ := m.own
  refine c_shed_Nest_Meld ⟨rfl, ?_⟩
  simp (disch := (first | omega | (simp only [size_new, size_newm, size_wr, size_wrm] <;> omega) | fail)) only [go_sem, Nat.reduceBEq, Nat.reduceAdd, Nat.reduceMul, Nat.reduceLeDiff, ↓reduceIte, rd_new_lt, own_new_lt, mp_new_lt, rd_newm_lt, own_newm_lt, mp_newm_lt, rd_wr_ne, own_wr_ne, mp_wr_ne, rd_wrm_ne, own_wrm_ne, mp_wrm_ne, rd_new_eq, own_new_eq, mp_newm_eq, s_shed_Nest_Meld, rd_of_own ho]
  refine (cellsN_Join_spec m.cells a b).mono ?_
  rintro _ H1 (⟨hno, rfl, rfl⟩ | ⟨⟨ha, hb, hab⟩, rfl, c1, e1⟩)
  · simp (disch := (first | omega | (simp only [size_new, size_newm, size_wr, size_wrm] <;> omega) | fail)) only [go_sem, Nat.reduceBEq, Nat.reduceAdd, Nat.reduceMul, Nat.reduceLeDiff, ↓reduceIte, rd_new_lt, own_new_lt, mp_new_lt, rd_newm_lt, own_newm_lt, mp_newm_lt, rd_wr_ne, own_wr_ne, mp_wr_ne, rd_wrm_ne, own_wrm_ne, mp_wrm_ne, rd_new_eq, own_new_eq, mp_newm_eq]
    exact .inl ⟨hno, rfl, rfl⟩
  obtain ⟨Ra, hRa⟩ := l.hasR ha
  obtain ⟨Rb, hRb⟩ := l.hasR hb
  have ha1 := ha.1
  have hb1 := hb.1
  have hla := (List.getElem?_eq_some_iff.1 hRa).1
  have hlb := (List.getElem?_eq_some_iff.1 hRb).1
  have m1 := m.cellsTo c1 e1
  obtain ⟨av1, o1, hav1⟩ := m1.own
  obtain ⟨f, cc, lb, rfl, rfl, of, ga, la⟩ := m1.atp hRa
  obtain ⟨f', cc', lb', hv, hf', of', gb, lb2⟩ := m1.atp hRb
  injection hf' with hf'
  subst hf'
  rw [of] at of'
  injection of' with of'
  subst of'
  simp (disch := (first | omega | (simp only [size_new, size_newm, size_wr, size_wrm] <;> omega) | fail)) only [go_sem, Nat.reduceBEq, Nat.reduceAdd, Nat.reduceMul, Nat.reduceLeDiff, ↓reduceIte, rd_new_lt, own_new_lt, mp_new_lt, rd_newm_lt, own_newm_lt, mp_newm_lt, rd_wr_ne, own_wr_ne, mp_wr_ne, rd_wrm_ne, own_wrm_ne, mp_wrm_ne, rd_new_eq, own_new_eq, mp_newm_eq, rd_of_own o1]
  refine ⟨by omega, ?_⟩
  simp (disch := (first | omega | (simp only [size_new, size_newm, size_wr, size_wrm] <;> omega) | fail)) only [go_sem, Nat.reduceBEq, Nat.reduceAdd, Nat.reduceMul, Nat.reduceLeDiff, ↓reduceIte, rd_new_lt, own_new_lt, mp_new_lt, rd_newm_lt, own_newm_lt, mp_newm_lt, rd_wr_ne, own_wr_ne, mp_wr_ne, rd_wrm_ne, own_wrm_ne, mp_wrm_ne, rd_new_eq, own_new_eq, mp_newm_eq, rd_of_own of, rd_of_own o1, Nat.mul_one, ga, plV]
  refine ⟨by omega, ?_⟩
  simp (disch := (first | omega | (simp only [size_new, size_newm, size_wr, size_wrm] <;> omega) | fail)) only [go_sem, Nat.reduceBEq, Nat.reduceAdd, Nat.reduceMul, Nat.reduceLeDiff, ↓reduceIte, rd_new_lt, own_new_lt, mp_new_lt, rd_newm_lt, own_newm_lt, mp_newm_lt, rd_wr_ne, own_wr_ne, mp_wr_ne, rd_wrm_ne, own_wrm_ne, mp_wrm_ne, rd_new_eq, own_new_eq, mp_newm_eq, rd_of_own of, Nat.mul_one, gb, plV]
  refine vc_cut (fun e H' => e.find 0 = some (ptr n) ∧ e.find 1 = some (i64 a) ∧ e.find 2 = some (i64 b) ∧ H' = H1 ∧ ∃ T F : Pl, e.find 7 = some (ptr T.r) ∧ e.find 8 = some (ptr F.r) ∧
    ((T = Ra ∧ F = Rb ∧ Rb.l.length ≤ Ra.l.length) ∨ (T = Rb ∧ F = Ra ∧ Ra.l.length < Rb.l.length))) ?_ ?_
  · simp (disch := (first | omega | (simp only [size_new, size_newm, size_wr, size_wrm] <;> omega) | fail)) only [go_sem, Nat.reduceBEq, Nat.reduceAdd, Nat.reduceMul, Nat.reduceLeDiff, ↓reduceIte, rd_new_lt, own_new_lt, mp_new_lt, rd_newm_lt, own_newm_lt, mp_newm_lt, rd_wr_ne, own_wr_ne, mp_wr_ne, rd_wrm_ne, own_wrm_ne, mp_wrm_ne, rd_new_eq, own_new_eq, mp_newm_eq]
    refine (pile_Len_spec (m1.toPile hRa)).mono ?_
    rintro _ _ ⟨rfl, rfl⟩
    simp (disch := (first | omega | (simp only [size_new, size_newm, size_wr, size_wrm] <;> omega) | fail)) only [go_sem, Nat.reduceBEq, Nat.reduceAdd, Nat.reduceMul, Nat.reduceLeDiff, ↓reduceIte, rd_new_lt, own_new_lt, mp_new_lt, rd_newm_lt, own_newm_lt, mp_newm_lt, rd_wr_ne, own_wr_ne, mp_wr_ne, rd_wrm_ne, own_wrm_ne, mp_wrm_ne, rd_new_eq, own_new_eq, mp_newm_eq]
    refine (pile_Len_spec (m1.toPile hRb)).mono ?_
    rintro _ _ ⟨rfl, rfl⟩
    simp (disch := (first | omega | (simp only [size_new, size_newm, size_wr, size_wrm] <;> omega) | fail)) only [go_sem, Nat.reduceBEq, Nat.reduceAdd, Nat.reduceMul, Nat.reduceLeDiff, ↓reduceIte, rd_new_lt, own_new_lt, mp_new_lt, rd_newm_lt, own_newm_lt, mp_newm_lt, rd_wr_ne, own_wr_ne, mp_wr_ne, rd_wrm_ne, own_wrm_ne, mp_wrm_ne, rd_new_eq, own_new_eq, mp_newm_eq]
    refine Both.dec (fun hlt => ?_) (fun hlt => ?_) <;> simp (disch := (first | omega | (simp only [size_new, size_newm, size_wr, size_wrm] <;> omega) | fail)) only [go_sem, Nat.reduceBEq, Nat.reduceAdd, Nat.reduceMul, Nat.reduceLeDiff, ↓reduceIte, rd_new_lt, own_new_lt, mp_new_lt, rd_newm_lt, own_newm_lt, mp_newm_lt, rd_wr_ne, own_wr_ne, mp_wr_ne, rd_wrm_ne, own_wrm_ne, mp_wrm_ne, rd_new_eq, own_new_eq, mp_newm_eq]
    · exact ⟨trivial, trivial, trivial, trivial, Rb, Ra, rfl, rfl, .inr ⟨rfl, rfl, by omega⟩⟩
    · exact ⟨trivial, trivial, trivial, trivial, Ra, Rb, rfl, rfl, .inl ⟨rfl, rfl, by omega⟩⟩
  rintro e H1' ⟨e0, ea, eb, hH1, T, F, eT, eF, hTF⟩
  obtain rfl := hH1.symm
  have haa : ((a.toNat : Nat) : Int) = a := by omega
  have hbb : ((b.toNat : Nat) : Int) = b := by omega
  have hne : a.toNat ≠ b.toNat := by omega
  have hT : ps[a.toNat]? = some (some T) ∨ ps[b.toNat]? = some (some T) := by
    rcases hTF with ⟨rfl, rfl, _⟩ | ⟨rfl, rfl, _⟩
    · exact .inl hRa
    · exact .inr hRb
  obtain ⟨iT, iF, hT', hF, hiTF, hpos⟩ : ∃ iT iF : Nat, ps[iT]? = some (some T) ∧ ps[iF]? = some (some F) ∧ iT ≠ iF ∧ 0 < iF := by
    rcases hTF with ⟨rfl, rfl, _⟩ | ⟨rfl, rfl, _⟩
    · exact ⟨_, _, hRa, hRb, hne, by omega⟩
    · exact ⟨_, _, hRb, hRa, Ne.symm hne, by omega⟩
  have hmemTF : ∀ z, (z ∈ T.l ∨ z ∈ F.l) ↔ (z ∈ Ra.l ∨ z ∈ Rb.l) := fun z => by
    rcases hTF with ⟨rfl, rfl, _⟩ | ⟨rfl, rfl, _⟩
    · exact Iff.rfl
    · exact Or.comm
  have eLa := l.len _ Ra hRa
  have eLb := l.len _ Rb hRb
  rw [haa] at eLa
  rw [hbb] at eLb
  have hlen : T.l.length + F.l.length = Ra.l.length + Rb.l.length ∧ ((F.l.length : Nat) : Int) = min (w.len a) (w.len b) := by
    rcases hTF with ⟨rfl, rfl, _⟩ | ⟨rfl, rfl, _⟩ <;> omega
  clear hTF
  have hdisj : ∀ z ∈ F.l, z ∉ T.l := fun z hz => l.apart hF hT' (Ne.symm hiTF) hz
  have hInF : ∀ (i : Nat) Q, ps[i]? = some (some Q) → ∀ z ∈ Q.l, InC (w.join a b).cs z := fun i Q hQ z hz => by
    obtain ⟨z0, e, he⟩ := (l.mem i Q hQ z).1 hz
    have := l.pos hQ
    exact (InC_join w (by omega) (by omega) z).2 ⟨z0, _, he, by simp only; omega⟩
  have hcsl := m.cells.csl
  have hll : Ra.l.length + Rb.l.length ≤ 65536 := by
    have h1 := ((w.join a b).len_le a).2
    rw [Nw.len_join w hab (by omega) (by omega), if_pos rfl] at h1
    have h2 : (w.join a b).cs.length = w.cs.length := by simp [Nw.join]
    omega
  have hstb := m.cells.st
  obtain ⟨m2, e2⟩ := m1.two hne hT hla hlb of
  obtain ⟨sF, oF1, sF1⟩ := m1.pile iF F hF
  have hFno : ∀ x, F.S x → x ≠ f := fun x hx hz => (m.pd iF F hF x hx).2.2.1 (congrArg some hz.symm)
  have oF2 := e2.own oF1 (hFno _ (.inl rfl))
  have sF2 := sF1.ext e2 (fun x hx => hFno x (.inr hx))
  have of1 : (H1.wr f (lb.set a.toNat (ptr T.r))).own f = some (lb.set a.toNat (ptr T.r)) := own_wr_same of
  have hll2 : lb.length = (lb.set a.toNat (ptr T.r)).length := (List.length_set ..).symm
  have hbl := (List.getElem?_eq_some_iff.1 gb).1
  have hal := (List.getElem?_eq_some_iff.1 ga).1
  simp (disch := (first | omega | (simp only [size_new, size_newm, size_wr, size_wrm] <;> omega) | fail)) only [go_sem, Nat.reduceBEq, Nat.reduceAdd, Nat.reduceMul, Nat.reduceLeDiff, ↓reduceIte, rd_new_lt, own_new_lt, mp_new_lt, rd_newm_lt, own_newm_lt, mp_newm_lt, rd_wr_ne, own_wr_ne, mp_wr_ne, rd_wrm_ne, own_wrm_ne, mp_wrm_ne, rd_new_eq, own_new_eq, mp_newm_eq, e0, ea, eb, eT, eF, rd_of_own o1]
  refine ⟨by omega, ?_⟩
  simp (disch := (first | omega | (simp only [size_new, size_newm, size_wr, size_wrm] <;> omega) | fail)) only [go_sem, Nat.reduceBEq, Nat.reduceAdd, Nat.reduceMul, Nat.reduceLeDiff, ↓reduceIte, rd_new_lt, own_new_lt, mp_new_lt, rd_newm_lt, own_newm_lt, mp_newm_lt, rd_wr_ne, own_wr_ne, mp_wr_ne, rd_wrm_ne, own_wrm_ne, mp_wrm_ne, rd_new_eq, own_new_eq, mp_newm_eq, e0, ea, eb, eT, eF, of, Nat.mul_one]
  refine ⟨by omega, ?_⟩
  simp (disch := (first | omega | (simp only [size_new, size_newm, size_wr, size_wrm] <;> omega) | fail)) only [go_sem, Nat.reduceBEq, Nat.reduceAdd, Nat.reduceMul, Nat.reduceLeDiff, ↓reduceIte, rd_new_lt, own_new_lt, mp_new_lt, rd_newm_lt, own_newm_lt, mp_newm_lt, rd_wr_ne, own_wr_ne, mp_wr_ne, rd_wrm_ne, own_wrm_ne, mp_wrm_ne, rd_new_eq, own_new_eq, mp_newm_eq, Nat.zero_add]
  refine ⟨by omega, ?_⟩
  simp (disch := (first | omega | (simp only [size_new, size_newm, size_wr, size_wrm] <;> omega) | fail)) only [go_sem, Nat.reduceBEq, Nat.reduceAdd, Nat.reduceMul, Nat.reduceLeDiff, ↓reduceIte, rd_new_lt, own_new_lt, mp_new_lt, rd_newm_lt, own_newm_lt, mp_newm_lt, rd_wr_ne, own_wr_ne, mp_wr_ne, rd_wrm_ne, own_wrm_ne, mp_wrm_ne, rd_new_eq, own_new_eq, mp_newm_eq, of1, Nat.mul_one]
  refine ⟨by rw [List.length_set]; omega, ?_⟩
  simp (disch := (first | omega | (simp only [size_new, size_newm, size_wr, size_wrm] <;> omega) | fail)) only [go_sem, Nat.reduceBEq, Nat.reduceAdd, Nat.reduceMul, Nat.reduceLeDiff, ↓reduceIte, rd_new_lt, own_new_lt, mp_new_lt, rd_newm_lt, own_newm_lt, mp_newm_lt, rd_wr_ne, own_wr_ne, mp_wr_ne, rd_wrm_ne, own_wrm_ne, mp_wrm_ne, rd_new_eq, own_new_eq, mp_newm_eq, Nat.zero_add]
  generalize H1.wr f ((lb.set a.toNat (ptr T.r)).set b.toNat (.pointer none)) = H2 at *
  obtain ⟨a3, c3, rfl⟩ := RdS.val2 sF2.rd
  simp (disch := (first | omega | (simp only [size_new, size_newm, size_wr, size_wrm] <;> omega) | fail)) only [go_sem, Nat.reduceBEq, Nat.reduceAdd, Nat.reduceMul, Nat.reduceLeDiff, ↓reduceIte, rd_new_lt, own_new_lt, mp_new_lt, rd_newm_lt, own_newm_lt, mp_newm_lt, rd_wr_ne, own_wr_ne, mp_wr_ne, rd_wrm_ne, own_wrm_ne, mp_wrm_ne, rd_new_eq, own_new_eq, mp_newm_eq, e0, ea, eb, eT, eF, rd_of_own oF2]
  have hslt := m1.slt
  have z1 := e1.size
  have z2 := e2.size
  have hU : ∀ j : Nat, j ≤ F.l.length → upN 2 ((T.l.length + j : Nat) : Int) ≤ upN 2 (w.len a + w.len b) := fun j hj => upN_mono fine2 (w.len a + w.len b).toNat _ _ (Nat.le_refl _) (by omega)
  generalize upN 2 (w.len a + w.len b) = U at *
  have hFd : ∀ x, F.fp = some x → ¬ (C x ∨ T.S x ∨ fa = some x) := fun x hx hc => by
    have h1 := m.pd iF F hF x (.inr hx)
    rcases hc with hc | hc | hc
    · exact h1.1 hc
    · exact m.pp iT iF T F hT' hF hiTF x hc (.inr hx)
    · exact h1.2.2.2 hc
  have hg0 : ∀ (T' : Pl), ((ps.set a.toNat (some T')).set b.toNat none)[a.toNat]? = some (some T') := fun T' => by
    rw [List.getElem?_set_ne (Ne.symm hne), List.getElem?_set_self hla]
  refine LoopV.intro (fun k env H' => ∃ (j : Nat) (T' : Pl) (q : Nat) (at' : List Int), env = [(7, ptr T.r), (56, .slice a3 F.l.length c3), (57, i64 F.l.length), (58, i64 j)] ∧ k = F.l.length - j ∧ j ≤ F.l.length ∧ T'.r = T.r ∧
      ShedM H' n c C (.slice (some ⟨f, 0, none⟩) ps.length cc) (some f) fa (min (st + q) 4611686018427387904) (w.join a b) ((ps.set a.toNat (some T')).set b.toNat none) at' ∧ HeapL (ltW (w.join a b)) 2 T'.l ∧ AtOk T'.l at' ∧ at'.length = at_.length ∧
      (∀ z : Int, 0 ≤ z → z ∉ Ra.l → z ∉ Rb.l → at'[z.toNat]? = at_[z.toNat]?) ∧
      (∀ z, z ∈ T'.l ↔ z ∈ T.l ∨ z ∈ F.l.take j) ∧ T'.l.length = T.l.length + j ∧ q ≤ j * U ∧ (∀ z, T'.S z → T.S z ∨ H2.size ≤ z) ∧ Ext (fun z => C z ∨ T.S z ∨ fa = some z) H2 H') F.l.length
    ⟨0, T, 0, at_, rfl, by omega, by omega, rfl, by rw [show min (st + ((0 : Nat) : Int)) 4611686018427387904 = st by omega]; exact m2, (l.ok iT T hT').congr2 fun z _ y _ => (ltW_join w a b z y).symm, l.ato iT T hT', rfl, fun _ _ _ _ => rfl,
      fun z => by simp, rfl, by omega, fun z hz => .inl hz, Ext.refl _ _⟩ ?_
  rintro k env H4 ⟨j, T', q, at', rfl, rfl, hj, hr, m4, hok, hato, hatl, hoff, hmem, hlen4, hq, hTS, e4⟩
  simp (disch := (first | omega | (simp only [size_new, size_newm, size_wr, size_wrm] <;> omega) | fail)) only [go_sem, Nat.reduceBEq, Nat.reduceAdd, Nat.reduceMul, Nat.reduceLeDiff, ↓reduceIte, rd_new_lt, own_new_lt, mp_new_lt, rd_newm_lt, own_newm_lt, mp_newm_lt, rd_wr_ne, own_wr_ne, mp_wr_ne, rd_wrm_ne, own_wrm_ne, mp_wrm_ne, rd_new_eq, own_new_eq, mp_newm_eq]
  have hg4 := hg0 T'
  refine Both.dec (fun hlt => ?_) (fun hlt => ?_) <;> simp (disch := (first | omega | (simp only [size_new, size_newm, size_wr, size_wrm] <;> omega) | fail)) only [go_sem, Nat.reduceBEq, Nat.reduceAdd, Nat.reduceMul, Nat.reduceLeDiff, ↓reduceIte, rd_new_lt, own_new_lt, mp_new_lt, rd_newm_lt, own_newm_lt, mp_newm_lt, rd_wr_ne, own_wr_ne, mp_wr_ne, rd_wrm_ne, own_wrm_ne, mp_wrm_ne, rd_new_eq, own_new_eq, mp_newm_eq]
  · obtain ⟨x, hx⟩ : ∃ x, F.l[j]? = some x := ⟨_, List.getElem?_eq_getElem (by omega)⟩
    have hxF := List.mem_of_getElem? hx
    have sF4 := sF2.ext e4 (fun x hx => hFd x hx)
    obtain ⟨bb, bo, bc, bl, q1, q2, q3, q4⟩ := RdS.get sF4.rd (i := j) (j := 0) (x := i64 x) (by omega) (by simp [hx])
    injection q1 with q1 _ q1'
    subst q1 q1'
    refine ⟨by omega, ?_⟩
    simp (disch := (first | omega | (simp only [size_new, size_newm, size_wr, size_wrm] <;> omega) | fail)) only [go_sem, Nat.reduceBEq, Nat.reduceAdd, Nat.reduceMul, Nat.reduceLeDiff, ↓reduceIte, rd_new_lt, own_new_lt, mp_new_lt, rd_newm_lt, own_newm_lt, mp_newm_lt, rd_wr_ne, own_wr_ne, mp_wr_ne, rd_wrm_ne, own_wrm_ne, mp_wrm_ne, rd_new_eq, own_new_eq, mp_newm_eq, q2, Int.toNat_natCast, show bl[bo + j * 1]? = some (i64 x) from q4]
    rw [← hr]
    have hxT : x ∉ T'.l := fun hm => by
      rcases (hmem x).1 hm with h | h
      · exact hdisj x hxF h
      · obtain ⟨i, hi⟩ := List.getElem?_of_mem h
        rw [List.getElem?_take] at hi
        split at hi
        · have := (l.ato iF F hF).uniq hi hx
          omega
        · cases hi
    have hInT : ∀ z ∈ T'.l, InC (w.join a b).cs z := fun z hz => by
      rcases (hmem z).1 hz with h | h
      · exact hInF iT T hT' z h
      · exact hInF iF F hF z (List.mem_of_mem_take h)
    have hxin := hInF iF F hF x hxF
    obtain ⟨hx0, xe, hxe, _⟩ := id hxin
    have hxl := (List.getElem?_eq_some_iff.1 hxe).1
    have hjl : (w.join a b).cs.length = w.cs.length := by simp [Nw.join]
    refine (heap_Push_spec (m4.toPile hg4) hato (by omega) ⟨hx0, by rw [hatl, l.atl]; omega⟩ hxT hxin hInT hok).mono ?_
    rintro _ H5 ⟨rfl, fp', l', at2, q5, pm, hat5, hheap5, hmem5, hlen5, hatl5, hoff5, hq5, hq05, e5, hfp5⟩
    simp (disch := (first | omega | (simp only [size_new, size_newm, size_wr, size_wrm] <;> omega) | fail)) only [go_sem, Nat.reduceBEq, Nat.reduceAdd, Nat.reduceMul, Nat.reduceLeDiff, ↓reduceIte, rd_new_lt, own_new_lt, mp_new_lt, rd_newm_lt, own_newm_lt, mp_newm_lt, rd_wr_ne, own_wr_ne, mp_wr_ne, rd_wrm_ne, own_wrm_ne, mp_wrm_ne, rd_new_eq, own_new_eq, mp_newm_eq]
    have hT5 : ∀ z, (C z ∨ T'.fp = some z ∨ fa = some z ∨ z = T'.r) → C z ∨ T'.S z ∨ fa = some z := fun z hz => by
      rcases hz with hz | hz | hz | hz
      · exact .inl hz
      · exact .inr (.inl (.inr hz))
      · exact .inr (.inr hz)
      · exact .inr (.inl (.inl hz))
    have m5 := m4.setPile hg4 (P' := ⟨T'.r, fp', l'⟩) rfl pm hfp5 e5 hT5
    rw [List.set_comm _ _ (Ne.symm hne), List.set_set, show min (min (st + (q : Int)) 4611686018427387904 + ((q5 : Nat) : Int)) 4611686018427387904 = min (st + ((q + q5 : Nat) : Int)) 4611686018427387904 by omega] at m5
    have z4 := e4.size
    have hx2 := (hmemTF x).1 (.inr hxF)
    have hU5 := hU j hj
    rw [← hlen4] at hU5
    rw [wrap64 (n := (j : Int) + 1) (by omega) (by omega), hr]
    refine ⟨F.l.length - (j + 1), by omega, j + 1, ⟨T'.r, fp', l'⟩, q + q5, at2, rfl, rfl, by omega, hr, m5, hheap5, hat5, by omega, fun z z0 h1 h2 => ?_, fun z => ?_, by show l'.length = _; omega, ?_, fun z hz => ?_, e4.trans' e5 (fun z hzl hz => ?_)⟩
    · rw [hoff5 z z0 (fun e => by rw [e] at h1 h2; exact hx2.elim h1 h2) (fun hm => ?_), hoff z z0 h1 h2]
      rcases (hmem z).1 hm with h3 | h3
      · exact ((hmemTF z).1 (.inl h3)).elim h1 h2
      · exact ((hmemTF z).1 (.inr (List.mem_of_mem_take h3))).elim h1 h2
    · show z ∈ l' ↔ _
      rw [hmem5 z, hmem z, List.take_add_one, hx]
      simp only [Option.toList_some, List.mem_append, List.mem_singleton]
      constructor
      · rintro (h | h | h)
        · exact .inr (.inr h)
        · exact .inl h
        · exact .inr (.inl h)
      · rintro (h | h | h)
        · exact .inr (.inl h)
        · exact .inr (.inr h)
        · exact .inl h
    · rw [Nat.add_mul, Nat.one_mul]; omega
    · rcases hz with hz | hz
      · exact hTS z (.inl hz)
      · rcases hfp5 with h | ⟨y, h, h7⟩
        · exact hTS z (.inr (h ▸ hz))
        · simp only at hz
          rw [h] at hz; injection hz with hz; exact .inr (by omega)
    · rcases hT5 z hz with hz | hz | hz
      · exact .inl hz
      · rcases hTS z hz with h | h
        · exact .inr (.inl h)
        · exact absurd hzl (by omega)
      · exact .inr (.inr hz)
  · have hjL : j = F.l.length := by omega
    subst hjL
    have hmS : ∀ z, (C z ∨ T.S z ∨ fa = some z) → S z := fun z hz => (hS z).1 (by
      rcases hz with hz | hz | hz
      · exact .inl hz
      · exact .inr (.inr (.inr (.inr ⟨_, T, hT', hz⟩)))
      · exact .inr (.inr (.inr (.inl hz))))
    refine .inr ⟨⟨ha, hb, hab⟩, rfl, q, ?_, ShedS n C (some f) fa ((ps.set a.toNat (some T')).set b.toNat none), ⟨c, C, _, some f, fa, _, at', m4, l.join ha hb hab hRa hRb hok hato (fun z => ?_) (by omega) hatl hoff, fun z => Iff.rfl⟩, ?_, fun z hz => ?_⟩
    · rw [← hlen.2, ← Int.natCast_mul]
      exact Int.ofNat_le.2 hq
    · rw [hmem z, List.take_length, hmemTF z]
    · exact (e1.mono fun z _ hz => hmS z (.inl hz)).trans ((e2.mono fun z _ hz => (hS z).1 (.inr (.inr (.inl (by rw [hz]))))).trans (e4.mono fun z _ hz => hmS z hz))
    · rcases hz with hz | rfl | hz | hz | ⟨i, Q, hQ, hz⟩
      · exact .inl ((hS z).1 (.inl hz))
      · exact .inl ((hS z).1 (.inr (.inl rfl)))
      · exact .inl ((hS z).1 (.inr (.inr (.inl hz))))
      · exact .inl (hmS z (.inr (.inr hz)))
      · rcases getTwoP hla hlb hne hQ with ⟨rfl, rfl⟩ | ⟨h5, h6, h7⟩
        · rcases hTS z hz with h | h
          · exact .inl (hmS z (.inr (.inl h)))
          · exact .inr (by omega)
        · exact .inl ((hS z).1 (.inr (.inr (.inr (.inr ⟨i, Q, h7, hz⟩)))))

end Go.Proofs.Yteicchpglnamcaa
