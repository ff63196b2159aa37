/-
  The package dary: two heaps become one: the rows of the joined nest.
-/
import Derived.Test.YteicchpglnamcaaDary4
set_option linter.unusedVariables false
set_option linter.unusedSimpArgs false
namespace Go.Proofs.Yteicchpglnamcaa
open Go Go.Vc

/-- The rows when one takes the other's place, and the other is gone. -/
theorem getTwo {rs : List (Option Rw)} {a b : Nat} {T : Rw} (ha : a < rs.length) (hb : b < rs.length) (hab : a ≠ b) {h : Nat} {Q : Rw} (hQ : ((rs.set a (some T)).set b none)[h]? = some (some Q)) :
    (h = a ∧ Q = T) ∨ (h ≠ a ∧ h ≠ b ∧ rs[h]? = some (some Q)) := by
  by_cases hh : h = b
  · subst hh
    rw [List.getElem?_set_self (by simpa using hb)] at hQ
    cases hQ
  · rw [List.getElem?_set_ne (Ne.symm hh)] at hQ
    by_cases h2 : h = a
    · subst h2
      rw [List.getElem?_set_self ha] at hQ
      simp only [Option.some.injEq] at hQ
      exact .inl ⟨rfl, hQ.symm⟩
    · rw [List.getElem?_set_ne (Ne.symm h2)] at hQ
      exact .inr ⟨h2, hh, hQ⟩

theorem DaryM.two {H : Hp} {n c f cc : Nat} {C : Nat → Prop} {d st : Int} {w : Nw} {rs : List (Option Rw)} (m : DaryM H n c C (.slice (some ⟨f, 0, none⟩) rs.length cc) (some f) d st w rs) {a b : Nat} (hab : a ≠ b) {T : Rw} (hT : rs[a]? = some (some T) ∨ rs[b]? = some (some T))
    (ha : a < rs.length) (hb : b < rs.length) {lb : List Value} (hf : H.own f = some lb) :
    DaryM ((H.wr f (lb.set a (ptr T.r))).wr f ((lb.set a (ptr T.r)).set b (.pointer none))) n c C (.slice (some ⟨f, 0, none⟩) rs.length cc) (some f) d st w ((rs.set a (some T)).set b none) ∧
      Ext (fun z => z = f) H ((H.wr f (lb.set a (ptr T.r))).wr f ((lb.set a (ptr T.r)).set b (.pointer none))) := by
  have e : Ext (fun z => z = f) H ((H.wr f (lb.set a (ptr T.r))).wr f ((lb.set a (ptr T.r)).set b (.pointer none))) := ((Ext.refl (fun z => z = f) _).wr (fun _ => rfl) _).wr (fun _ => rfl) _
  have hfp := m.fpd f rfl
  have hTr : ∀ (h : Nat) Q, ((rs.set a (some T)).set b none)[h]? = some (some Q) → ∃ h', rs[h']? = some (some Q) ∧ ((h' = h ∧ h ≠ a ∧ h ≠ b) ∨ (h = a ∧ (h' = a ∨ h' = b))) := fun h Q hQ => by
    rcases getTwo ha hb hab hQ with ⟨rfl, rfl⟩ | ⟨h1, h2, h3⟩
    · rcases hT with hT | hT
      · exact ⟨_, hT, .inr ⟨rfl, .inl rfl⟩⟩
      · exact ⟨_, hT, .inr ⟨rfl, .inr rfl⟩⟩
    · exact ⟨h, h3, .inl ⟨rfl, h1, h2⟩⟩
  refine ⟨⟨e.own m.own (Ne.symm hfp.1), m.cells.ext e (fun x hx hz => hfp.2 (hz ▸ hx)), ?_, fun h Q hQ => ?_, m.nC, m.fpd, fun h Q hQ x hx => ?_, fun h h' Q Q' hQ hQ' hne x hx hx' => ?_⟩, e⟩
  · have h1 := (m.sl.set1 hf a (ptr T.r)).set1 (own_wr_same hf) b (.pointer none)
    rw [List.length_set, List.length_set, List.map_set, List.map_set]
    exact h1
  · obtain ⟨h', h1, _⟩ := hTr h Q hQ
    exact (m.row h' Q h1).ext e (fun x hx hz => (m.rowd h' Q h1 x hx).2.2 (congrArg some hz.symm))
  · obtain ⟨h', h1, _⟩ := hTr h Q hQ
    exact m.rowd h' Q h1 x hx
  · obtain ⟨g, h1, h2⟩ := hTr h Q hQ
    obtain ⟨g', h3, h4⟩ := hTr h' Q' hQ'
    exact m.rowrow g g' Q Q' h1 h3 (by omega) x hx hx'

theorem DaryL.join {d : Int} {w : Nw} {rs : List (Option Rw)} (l : DaryL d w rs) {a b : Int} (ha : w.has a) (hb : w.has b) (hab : a ≠ b) {Ra Rb T : Rw} (hRa : rs[a.toNat]? = some (some Ra)) (hRb : rs[b.toNat]? = some (some Rb))
    (hok : HeapOn (ltW (w.join a b)) d T.l T.pl) (hmem : ∀ z, z ∈ T.l ↔ z ∈ Ra.l ∨ z ∈ Rb.l) (hlen : T.l.length = Ra.l.length + Rb.l.length) : DaryL d (w.join a b) ((rs.set a.toNat (some T)).set b.toNat none) := by
  have ha1 := ha.1
  have hb1 := hb.1
  have hla := (List.getElem?_eq_some_iff.1 hRa).1
  have hlb := (List.getElem?_eq_some_iff.1 hRb).1
  have hne : a.toNat ≠ b.toNat := by omega
  have haa : ((a.toNat : Nat) : Int) = a := by omega
  have hbb : ((b.toNat : Nat) : Int) = b := by omega
  refine ⟨l.fine, by rw [List.length_set, List.length_set, l.hl]; simp [Nw.join], fun h => ?_, ?_, fun h Q hQ => ?_, fun h Q hQ z => ?_, fun h Q hQ => ?_⟩
  · show (w.hs.set b.toNat false)[h]? = some true ↔ _
    by_cases h1 : h = b.toNat
    · subst h1
      rw [List.getElem?_set_self (by rw [← l.hl]; exact hlb), List.getElem?_set_self (by simpa using hlb)]
      simp
    · rw [List.getElem?_set_ne (Ne.symm h1), List.getElem?_set_ne (Ne.symm h1)]
      by_cases h2 : h = a.toNat
      · subst h2
        rw [List.getElem?_set_self hla]
        exact ⟨fun _ => ⟨_, rfl⟩, fun _ => ha.2⟩
      · rw [List.getElem?_set_ne (Ne.symm h2)]
        exact l.hs h
  · rw [List.getElem?_set_ne (by omega), List.getElem?_set_ne (by omega)]
    exact l.h0
  · rcases getTwo hla hlb hne hQ with ⟨rfl, rfl⟩ | ⟨h1, h2, h3⟩
    · exact hok
    · exact HeapOn.congr l.fine (l.ok h Q h3) fun z _ y _ => (ltW_join w a b z y).symm
  · rw [join_get]
    rcases getTwo hla hlb hne hQ with ⟨rfl, rfl⟩ | ⟨h1, h2, h3⟩
    · rw [hmem z, l.mem _ Ra hRa z, l.mem _ Rb hRb z, haa, hbb]
      cases w.cs[z.toNat]? with
      | none => simp
      | some c =>
        obtain ⟨c1, c2⟩ := c
        simp only [Option.map_some, Option.some.injEq, Prod.mk.injEq]
        constructor
        · rintro (⟨z0, e, rfl, rfl⟩ | ⟨z0, e, rfl, rfl⟩)
          · exact ⟨z0, _, by rw [if_neg hab]⟩
          · exact ⟨z0, _, by rw [if_pos rfl]⟩
        · rintro ⟨z0, e, he⟩
          by_cases hcb : c1 = b
          · exact .inr ⟨z0, c2, hcb, rfl⟩
          · rw [if_neg hcb] at he
            exact .inl ⟨z0, c2, (Prod.mk.inj he).1, rfl⟩
    · rw [l.mem h Q h3 z]
      cases w.cs[z.toNat]? with
      | none => simp
      | some c =>
        obtain ⟨c1, c2⟩ := c
        simp only [Option.map_some, Option.some.injEq, Prod.mk.injEq]
        constructor
        · rintro ⟨z0, e, rfl, rfl⟩
          exact ⟨z0, _, by rw [if_neg (by omega)]⟩
        · rintro ⟨z0, e, he⟩
          by_cases hcb : c1 = b
          · rw [if_pos hcb] at he
            exact absurd (Prod.mk.inj he).1 (by omega)
          · rw [if_neg hcb] at he
            exact ⟨z0, c2, (Prod.mk.inj he).1, rfl⟩
  · rw [Nw.len_join w hab (by omega) (by omega)]
    rcases getTwo hla hlb hne hQ with ⟨rfl, rfl⟩ | ⟨h1, h2, h3⟩
    · rw [if_pos haa]
      have e1 := l.len _ Ra hRa
      have e2 := l.len _ Rb hRb
      rw [haa] at e1
      rw [hbb] at e2
      omega
    · rw [if_neg (by omega), if_neg (by omega)]
      exact l.len h Q h3

end Go.Proofs.Yteicchpglnamcaa
