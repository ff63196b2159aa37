/-
  Plain law: a graph's edges by their numbers.
-/
import Derived.Test.YtbnaicgmnadkgaaCutP
import Derived.Test.YtbnaicgmnadkgaaEds
import Derived.Test.YtbnaicgmnadkgaaGraphC
set_option linter.unusedVariables false
set_option linter.unusedSimpArgs false
namespace Go.Proofs.Ytbnaicgmnadkgaa
open Go Go.Vc

def fE (es : List Ed) (i : Int) : E2 := match es[i.toNat]? with | some e => (e.f.toNat, e.t.toNat) | none => (0, 0)
def wE (es : List Ed) (i : Int) : Int := match es[i.toNat]? with | some e => e.w | none => 0
theorem fE_at {es : List Ed} {i : Nat} {e : Ed} (h : es[i]? = some e) : fE es (i : Int) = (e.f.toNat, e.t.toNat) := by unfold fE; rw [Int.toNat_natCast, h]
theorem wE_at {es : List Ed} {i : Nat} {e : Ed} (h : es[i]? = some e) : wE es (i : Int) = e.w := by unfold wE; rw [Int.toNat_natCast, h]

def InE (es : List Ed) (i : Int) : Prop := 0 ≤ i ∧ i < es.length
theorem InE.get {es : List Ed} {i : Int} (h : InE es i) : ∃ (k : Nat) (e : Ed), i = (k : Int) ∧ es[k]? = some e ∧ k < es.length :=
  ⟨i.toNat, _, by have := h.1; omega, List.getElem?_eq_getElem (by have := h.1; have := h.2; omega), by have := h.1; have := h.2; omega⟩

/-- All numbers of edges. -/
def allI (n : Nat) : List Int := (List.range n).map fun i : Nat => (i : Int)
theorem allI_mem {n : Nat} {i : Int} : i ∈ allI n ↔ 0 ≤ i ∧ i < n := by
  unfold allI
  rw [List.mem_map]
  constructor
  · rintro ⟨k, hk, rfl⟩; rw [List.mem_range] at hk; omega
  · intro h; exact ⟨i.toNat, List.mem_range.2 (by omega), by omega⟩
theorem allI_succ (n : Nat) : allI (n + 1) = allI n ++ [(n : Int)] := by unfold allI; rw [List.range_succ, List.map_append]; rfl
theorem allI_len (n : Nat) : (allI n).length = n := by simp [allI]
theorem allI_get {n i : Nat} (h : i < n) : (allI n)[i]? = some (i : Int) := by unfold allI; rw [List.getElem?_map, List.getElem?_range h]; rfl

theorem ends_lt {n : Int} {es : List Ed} (h : RightG n es) {i : Int} (hi : InE es i) : (fE es i).1 < n.toNat ∧ (fE es i).2 < n.toNat := by
  obtain ⟨k, e, rfl, he, _⟩ := hi.get
  rw [fE_at he]
  have := h.ends e (List.mem_of_getElem? he)
  simp only
  omega

/-- The parts, as a list. -/
def partL (n : Nat) (ks : List E2) : List Int := (List.range n).map fun v => (partF ks v : Int)
theorem partL_len (n : Nat) (ks : List E2) : (partL n ks).length = n := by simp [partL]
theorem partL_get {n : Nat} (ks : List E2) {v : Nat} (h : v < n) : (partL n ks)[v]? = some (partF ks v : Int) := by unfold partL; rw [List.getElem?_map, List.getElem?_range h]; rfl
theorem partL_nil (n : Nat) : partL n [] = allI n := rfl
theorem partL_snoc (n : Nat) (ks : List E2) (e : E2) : partL n (ks ++ [e]) = (partL n ks).map fun x => if x = ((max (partF ks e.1) (partF ks e.2) : Nat) : Int) then ((min (partF ks e.1) (partF ks e.2) : Nat) : Int) else x := by
  unfold partL
  rw [List.map_map]
  refine List.map_congr_left fun v _ => ?_
  rw [partF_snoc]
  unfold joinF
  simp only [Function.comp_apply]
  by_cases h : partF ks v = max (partF ks e.1) (partF ks e.2)
  · rw [if_pos h, if_pos (by rw [h])]
  · rw [if_neg h, if_neg (by omega)]

/-- Do edges make a forest that spans a graph? -/
structure SpanG (n : Int) (es : List Ed) (ks : List Int) : Prop where
  ins : ∀ i ∈ ks, InE es i
  acyc : Acyc (ks.map (fE es))
  all : ∀ u v, Hang ((allI es.length).map (fE es)) u v → Hang (ks.map (fE es)) u v

theorem all_in {es : List Ed} {i : Int} : i ∈ allI es.length ↔ InE es i := allI_mem
theorem SpanG.sub {n : Int} {es : List Ed} {ks : List Int} (h : SpanG n es ks) : ∀ i ∈ ks, i ∈ allI es.length := fun i hi => all_in.2 (h.ins i hi)
theorem SpanG.iff {n : Int} {es : List Ed} {ks : List Int} (h : SpanG n es ks) (u v : Nat) : Hang (ks.map (fE es)) u v ↔ Hang ((allI es.length).map (fE es)) u v :=
  ⟨hang_sub fun x hx => by obtain ⟨i, hi, rfl⟩ := List.mem_map.1 hx; exact List.mem_map.2 ⟨i, h.sub i hi, rfl⟩, h.all u v⟩
theorem SpanG.bound {n : Int} {es : List Ed} {ks : List Int} (hr : RightG n es) (h : SpanG n es ks) : ∀ i ∈ ks, (fE es i).1 < n.toNat ∧ (fE es i).2 < n.toNat := fun i hi => ends_lt hr (h.ins i hi)

/-- An edge's weight is no greater than any of the way that it closes: the document's word and the program's. -/
def LocG (es : List Ed) (ks : List Int) : Prop := Loc (fE es) (wE es) (allI es.length) ks

/-- The lightest of all: taken in order. -/
theorem least_iff {n : Int} {es : List Ed} (hr : RightG n es) {ks L : List Int} (h : SpanG n es ks) (hL : L.Perm (allI es.length)) (hs : L.Pairwise fun i j => wE es i ≤ wE es j) :
    (ks.map (wE es)).sum = ((greedy (fE es) L).map (wE es)).sum ↔ LocG es ks := by
  obtain ⟨g1, g2, g3⟩ := greedy_ok (e := fE es) L
  have hsub : ∀ i ∈ greedy (fE es) L, i ∈ allI es.length := fun i hi => hL.mem_iff.1 (g2 i hi)
  have hb : ∀ i ∈ allI es.length, (fE es i).1 < n.toNat ∧ (fE es i).2 < n.toNat := fun i hi => ends_lt hr (all_in.1 hi)
  have l1 := span_len (n := n.toNat) (E := allI es.length) hsub g1 hb (fun i hi => g3 i (hL.mem_iff.2 hi))
  have l2 := span_len (n := n.toNat) (E := allI es.length) h.sub h.acyc hb (fun i hi => h.all _ _ (hang_mem (List.mem_map.2 ⟨i, hi, rfl⟩)))
  have hloc : Loc (fE es) (wE es) (allI es.length) (greedy (fE es) L) := fun i hi => greedy_loc (e := fE es) hs i (hL.mem_iff.2 hi)
  have := (loc_least (n := n.toNat) hsub g1 h.sub h.acyc hb (by omega) hloc).2
  exact ⟨fun he => this.1 he.symm, fun hl => (this.2 hl).symm⟩

end Go.Proofs.Ytbnaicgmnadkgaa
