/-
  The package dary: two heaps become one (begun: what the joined nest's order is).
-/
import Derived.Test.YteicchpglnamcaaDary3
import Derived.Test.YteicchpglnamcaaJoinW
set_option linter.unusedVariables false
set_option linter.unusedSimpArgs false
namespace Go.Proofs.Yteicchpglnamcaa
open Go Go.Vc

theorem ltW_join (w : Nw) (a b x y : Int) : ltW (w.join a b) x y = ltW w x y := by
  have key : ∀ z : Int, (w.join a b).key z = w.key z ∧ (w.join a b).seq z = w.seq z := fun z => by
    unfold Nw.key Nw.seq
    simp only [List.getD_eq_getElem?_getD, join_get]
    cases w.cs[z.toNat]? with
    | none => exact ⟨rfl, rfl⟩
    | some c =>
      simp only [Option.map_some, Option.getD_some]
      split <;> exact ⟨rfl, rfl⟩
  unfold ltW
  rw [(key x).1, (key x).2, (key y).1, (key y).2]

theorem InC_join (w : Nw) {a b : Int} (ha : 0 < a) (hb : 0 < b) (x : Int) : InC (w.join a b).cs x ↔ InC w.cs x := by
  unfold InC
  rw [join_get]
  cases w.cs[x.toNat]? with
  | none => simp
  | some c =>
    simp only [Option.map_some, Option.some.injEq, exists_eq_left']
    split
    · rename_i h
      simp only [h]
      omega
    · exact Iff.rfl

theorem DaryM.at_ {H : Hp} {n c : Nat} {C : Nat → Prop} {rv : Value} {fp : Option Nat} {d st : Int} {w : Nw} {rs : List (Option Rw)} (m : DaryM H n c C rv fp d st w rs) {i : Nat} {o : Option Rw} (h : rs[i]? = some o) :
    ∃ f cc lb, rv = .slice (some ⟨f, 0, none⟩) rs.length cc ∧ fp = some f ∧ H.own f = some lb ∧ lb[i]? = some (rwV o) ∧ i < rs.length := by
  have hi := (List.getElem?_eq_some_iff.1 h).1
  obtain ⟨hl, hm⟩ := id m.sl
  cases fp with
  | none => obtain ⟨e, _⟩ := hm; omega
  | some f =>
    obtain ⟨lb, cc, hv, ho, h1, h2, h3⟩ := hm
    refine ⟨f, cc, lb, hv, rfl, ho, ?_, hi⟩
    have h4 : (rs.map rwV)[i]? = some (rwV o) := by rw [List.getElem?_map, h]; rfl
    rw [← h3, List.getElem?_take_of_lt (by omega)] at h4
    exact h4

end Go.Proofs.Yteicchpglnamcaa
