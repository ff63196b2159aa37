/-
  A nest that is played beside the document's: where both stand.
-/
import Derived.Test.YteicchpglnamcaaDo
import Derived.Test.YteicchpglnamcaaAtN
set_option linter.unusedVariables false
set_option linter.unusedSimpArgs false
namespace Go.Proofs.Yteicchpglnamcaa
open Go Go.Vc

/-- A nest that tells w, and the document's nest w' in a block of its own. -/
structure RunS (I : Hp → (Nat → Prop) → Int → Nw → Prop) (Hh H : Hp) (nb : Nat) (S A : Nat → Prop) (st : Int) (x0 x1 : Value) (w w' : Nw) : Prop where
  nest : I H S st w
  own : H.own nb = some [x0, x1]
  ref : NestR H (.agg [x0, x1].toArray) w' A
  fr : Fresh Hh H
  sb : ∀ z, S z → Hh.size ≤ z ∧ z ≠ nb
  ab : ∀ b, A b → b < H.size ∧ ¬ S b ∧ b ≠ nb
  nbb : Hh.size ≤ nb

section
variable {ov : Value} {I : Hp → (Nat → Prop) → Int → Nw → Prop} {lim : Int → Int} {rows : Bool} (ho : NestS ov I lim rows) {Hh H : Hp} {nb : Nat} {S A : Nat → Prop} {st : Int} {x0 x1 : Value} {w w' : Nw}
include ho

theorem RunS.fresh (h : RunS I Hh H nb S A st x0 x1 w w') {H' : Hp} (e : Fresh H H') : RunS I Hh H' nb S A st x0 x1 w w' :=
  ⟨(ho.teller S st w).keep _ _ _ h.nest e (fun _ _ h => h), e.own h.own (fun h => h), h.ref.fresh e, h.fr.trans e, h.sb, fun b hb => ⟨Nat.lt_of_lt_of_le (h.ab b hb).1 e.size, (h.ab b hb).2⟩, h.nbb⟩

/-- The nest alone has turned. -/
theorem RunS.op (h : RunS I Hh H nb S A st x0 x1 w w') {H' : Hp} {S' : Nat → Prop} {st' : Int} {w2 : Nw} (i : I H' S' st' w2) (e : Ext S H H') (hS : ∀ z, S' z → S z ∨ H.size ≤ z) : RunS I Hh H' nb S' A st' x0 x1 w2 w' := by
  have _ := ho.lim0
  have hnb := own_lt h.own
  have hz := h.fr.size
  refine ⟨i, e.own h.own (fun hs => (h.sb nb hs).2 rfl), h.ref.ext e (fun b hb => (h.ab b hb).2.1), h.fr.then e (fun z hz => (h.sb z hz).1), fun z hz => ?_, fun b hb => ⟨Nat.lt_of_lt_of_le (h.ab b hb).1 e.size, fun hs => ?_, (h.ab b hb).2.2⟩, h.nbb⟩
  · rcases hS z hz with h1 | h1
    · exact h.sb z h1
    · omega
  · rcases hS b hs with h1 | h1
    · exact (h.ab b hb).2.1 h1
    · have := (h.ab b hb).1; omega

theorem RunS.nx (h : RunS I Hh H nb S A st x0 x1 w w') {H' : Hp} {w2 : Nw} {m : Int} (n : Nx I S st H H' w2 m) : ∃ S' st', RunS I Hh H' nb S' A st' x0 x1 w2 w' ∧ Ext S H H' ∧ ∀ z, S' z → S z ∨ H.size ≤ z := by
  obtain ⟨q, S', _, i, e, hS⟩ := n
  exact ⟨S', _, h.op ho i e hS, e, hS⟩

theorem RunS.ult (h : RunS I Hh H nb S A st x0 x1 w w') : ∀ z, S z → z < H.size := (ho.teller S st w).ult H h.nest

/-- Behind an act done to both. -/
theorem RunS.done (h : RunS I Hh H nb S A st x0 x1 w w) {H2 : Hp} {cost : Int} {v : Value} {T : TypeId} (d : DoPost I S A st H w cost v H2) :
    ∃ ya yb yc yd w2 S2 A2 q, v = .tuple [.agg [(.slice ya w2.hs.length yb), (.slice yc w2.cs.length yd)].toArray, .bool true].toArray ∧ (q : Int) ≤ cost ∧ 0 ≤ q ∧ H2.own nb = some [x0, x1] ∧ w2.cs.length = w.cs.length ∧ H2.size ≠ nb ∧
      (∀ b l, H.own b = some l → ¬ S b → b ≠ nb → (((H2.new T [.slice none 0 0, .slice none 0 0]).wr H2.size [(.slice ya w2.hs.length yb), (.slice yc w2.cs.length yd)]).wr nb [(.slice ya w2.hs.length yb), (.slice yc w2.cs.length yd)]).own b = some l) ∧ ((H2.new T [.slice none 0 0, .slice none 0 0]).wr H2.size [(.slice ya w2.hs.length yb), (.slice yc w2.cs.length yd)]).own H2.size = some [(.slice ya w2.hs.length yb), (.slice yc w2.cs.length yd)] ∧
      ((H2.new T [.slice none 0 0, .slice none 0 0]).wr H2.size [(.slice ya w2.hs.length yb), (.slice yc w2.cs.length yd)]).own nb = some [x0, x1] ∧
      RunS I Hh (((H2.new T [.slice none 0 0, .slice none 0 0]).wr H2.size [(.slice ya w2.hs.length yb), (.slice yc w2.cs.length yd)]).wr nb [(.slice ya w2.hs.length yb), (.slice yc w2.cs.length yd)]) nb S2 A2 (min (st + q) 4611686018427387904) (.slice ya w2.hs.length yb) (.slice yc w2.cs.length yd) w2 w2 ∧ (∀ z, S2 z → S z ∨ H.size ≤ z) := by
  obtain ⟨wv, w2, A2, q, S2, rfl, n2, hA2, hq, i2, e2, hS2, hl⟩ := d
  obtain ⟨ha, hc, ca, cc, rfl, -⟩ := id n2
  have hnb := own_lt h.own
  have z2 := e2.size
  have o2 := e2.own h.own (fun hs => (h.sb nb hs).2 rfl)
  have hS2' : ∀ z, S2 z → z ≠ nb := fun z hz => by
    rcases hS2 z hz with h1 | h1
    · exact (h.sb z h1).2
    · omega
  have e3 : Fresh H2 ((H2.new T [.slice none 0 0, .slice none 0 0]).wr H2.size [.slice ha w2.hs.length hc, .slice ca w2.cs.length cc]) := ((Ext.refl _ _).new _ _).wr (fun h => absurd h (Nat.lt_irrefl _)) _
  have o3 : ((H2.new T [.slice none 0 0, .slice none 0 0]).wr H2.size [.slice ha w2.hs.length hc, .slice ca w2.cs.length cc]).own H2.size = some [.slice ha w2.hs.length hc, .slice ca w2.cs.length cc] := own_wr_same (own_new _ _ _)
  have o3' := e3.own o2 (fun h => h)
  have e4 : Ext (fun z => z = nb) ((H2.new T [.slice none 0 0, .slice none 0 0]).wr H2.size [.slice ha w2.hs.length hc, .slice ca w2.cs.length cc]) (((H2.new T [.slice none 0 0, .slice none 0 0]).wr H2.size [.slice ha w2.hs.length hc, .slice ca w2.cs.length cc]).wr nb [.slice ha w2.hs.length hc, .slice ca w2.cs.length cc]) := (Ext.refl (fun z => z = nb) _).wr (fun _ => rfl) _
  have hz := h.fr.size
  have z3 := e3.size
  have z4 := e4.size
  have hA2n : ∀ b, A2 b → b ≠ nb := fun b hb e => by
    rcases (hA2 b hb).2.2 with h1 | h1
    · exact (h.ab b h1).2.2 e
    · omega
  refine ⟨ha, hc, ca, cc, w2, S2, A2, q, rfl, hq, by omega, o2, hl, by omega, fun b l hb hs hn => e4.own (e3.own (e2.own hb hs) (fun h => h)) hn, o3, o3', ⟨?_, own_wr_same o3', ?_, ?_, fun z hz' => ⟨?_, hS2' z hz'⟩, fun b hb => ⟨?_, (hA2 b hb).2.1, hA2n b hb⟩, h.nbb⟩, hS2⟩
  · exact (ho.teller S2 _ w2).keep _ _ _ ((ho.teller S2 _ w2).keep _ _ _ i2 e3 (fun _ _ h => h)) e4 (fun z hz => hS2' z hz)
  · exact (n2.fresh e3).ext e4 (fun b hb => hA2n b hb)
  · exact (((h.fr.then e2 (fun z hz => (h.sb z hz).1)).trans e3).then e4 (fun z hz => by rw [hz]; exact h.nbb))
  · rcases hS2 z hz' with h1 | h1
    · exact (h.sb z h1).1
    · omega
  · have := (hA2 b hb).1; omega
end

end Go.Proofs.Yteicchpglnamcaa
