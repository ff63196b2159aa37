/-
  A slice of the call's own of slices of the call's own, of numbers.
-/
import Derived.Test.YtbnaicgmnadkgaaBase
import Derived.Test.YtbnaicgmnadkgaaArgs
set_option linter.unusedVariables false
set_option linter.unusedSimpArgs false
namespace Go.Proofs.Ytbnaicgmnadkgaa
open Go Go.Vc

theorem ones_nums (l : List Int) : allOne (l.map i64) := fun v hv => by
  obtain ⟨x, _, rfl⟩ := List.mem_map.1 hv
  rfl

theorem padZ_slc (n : Nat) : padZ [.slice none 0 0] n = List.replicate n (.slice none 0 0) := by
  unfold padZ
  induction n with
  | zero => rfl
  | succ n ih => rw [List.replicate_succ, List.flatten_cons, ih, List.replicate_succ]; rfl

/-- n slices in the block b, from B on all their blocks; no two share one. -/
structure Sll (H : Hp) (B b n : Nat) (xs : Nat → List Int) (fp : Nat → Option Nat) : Prop where
  rep : ∃ svs : List Value, H.own b = some svs ∧ svs.length = n ∧ ∀ i, i < n → ∃ sv, svs[i]? = some sv ∧ Sl H 1 sv (xs i).length ((xs i).map i64) (fp i)
  base : B ≤ b
  low : ∀ i, i < n → ∀ p, fp i = some p → B ≤ p ∧ p ≠ b
  apart : ∀ i j p, i < n → j < n → fp i = some p → fp j = some p → i = j

theorem Sll.lt {H : Hp} {B b n : Nat} {xs : Nat → List Int} {fp : Nat → Option Nat} (h : Sll H B b n xs fp) : b < H.size := by
  obtain ⟨svs, h1, _⟩ := h.rep
  exact own_lt h1

theorem Sll.ext {H H' : Hp} {B b n : Nat} {xs : Nat → List Int} {fp : Nat → Option Nat} {S : Nat → Prop} (h : Sll H B b n xs fp) (e : Ext S H H') (hb : ¬ S b) (hs : ∀ i p, i < n → fp i = some p → ¬ S p) : Sll H' B b n xs fp := by
  obtain ⟨svs, h1, h2, h3⟩ := h.rep
  refine ⟨⟨svs, e.own h1 hb, h2, fun i hi => ?_⟩, h.base, h.low, h.apart⟩
  obtain ⟨sv, h4, h5⟩ := h3 i hi
  exact ⟨sv, h4, h5.ext e (fun p hp => hs i p hi hp)⟩
theorem Sll.fresh {H H' : Hp} {B b n : Nat} {xs : Nat → List Int} {fp : Nat → Option Nat} (h : Sll H B b n xs fp) (e : Fresh H H') : Sll H' B b n xs fp := h.ext e (fun h => h) (fun _ _ _ _ h => h)

theorem Sll.get {H : Hp} {B b n : Nat} {xs : Nat → List Int} {fp : Nat → Option Nat} (h : Sll H B b n xs fp) {i : Nat} (hi : i < n) : ∃ svs sv, H.own b = some svs ∧ svs.length = n ∧ svs[i]? = some sv ∧ Sl H 1 sv (xs i).length ((xs i).map i64) (fp i) := by
  obtain ⟨svs, h1, h2, h3⟩ := h.rep
  obtain ⟨sv, h4, h5⟩ := h3 i hi
  exact ⟨svs, sv, h1, h2, h4, h5⟩

/-- All empty. -/
theorem Sll.new {T B n : Nat} (H : Hp) (hB : B ≤ H.size) {l : List Value} (hl : l = List.replicate n (.slice none 0 0)) : Sll (H.new T l) B H.size n (fun _ => []) (fun _ => none) := by
  refine ⟨⟨l, own_new _ _ _, by rw [hl]; simp, fun i hi => ⟨.slice none 0 0, by rw [hl, List.getElem?_replicate, if_pos hi], Sl.nil _ _⟩⟩, hB, fun i hi p hp => (by cases hp), fun i j p _ _ hp => (by cases hp)⟩

def putL (xs : Nat → List Int) (i : Nat) (l : List Int) : Nat → List Int := fun k => if k = i then l else xs k
def putO (fp : Nat → Option Nat) (i : Nat) (o : Option Nat) : Nat → Option Nat := fun k => if k = i then o else fp k

/-- One slice of them has changed (in its own block, or into a new one), and is stored. -/
theorem Sll.put {H H' : Hp} {B b n : Nat} {xs : Nat → List Int} {fp : Nat → Option Nat} (h : Sll H B b n xs fp) {i : Nat} (hi : i < n) {l : List Int} {sv : Value} {o : Option Nat} (e : Ext (fun z => fp i = some z) H H') (s : Sl H' 1 sv l.length (l.map i64) o)
    (ho : o = fp i ∨ ∃ p, o = some p ∧ H.size ≤ p ∧ p < H'.size) {svs : List Value} (hsv : H.own b = some svs) : H'.own b = some svs ∧ Sll (H'.wr b (svs.set i sv)) B b n (putL xs i l) (putO fp i o) := by
  obtain ⟨svs', h1, h2, h3⟩ := h.rep
  rw [hsv] at h1
  injection h1 with h1
  subst h1
  have hbS : ¬ fp i = some b := fun hh => (h.low i hi b hh).2 rfl
  have hown := e.own hsv hbS
  have hb := own_lt hsv
  have hob : ∀ p, o = some p → p ≠ b := fun p hp => by
    rcases ho with ho | ⟨q, hq, hq1, _⟩
    · rw [ho] at hp; exact (h.low i hi p hp).2
    · rw [hp] at hq; injection hq with hq; omega
  refine ⟨hown, ⟨_, own_wr_same hown, by simpa using h2, fun k hk => ?_⟩, h.base, fun k hk p hp => ?_, fun k k' p hk hk' hp hp' => ?_⟩
  · have ew : Ext (fun z => z = b) H' (H'.wr b (svs.set i sv)) := (Ext.refl (fun z => z = b) _).wr (fun _ => rfl) _
    unfold putL putO
    by_cases hki : k = i
    · subst hki
      refine ⟨sv, by rw [List.getElem?_set_self (by omega)], ?_⟩
      rw [if_pos rfl, if_pos rfl]
      exact s.ext ew (fun p hp => hob p hp)
    · obtain ⟨sv', h4, h5⟩ := h3 k hk
      refine ⟨sv', by rw [List.getElem?_set_ne (Ne.symm hki)]; exact h4, ?_⟩
      rw [if_neg hki, if_neg hki]
      exact (h5.ext e (fun p hp hp' => hki (h.apart k i p hk hi hp hp'))).ext ew (fun p hp => (h.low k hk p hp).2)
  · unfold putO at hp
    by_cases hki : k = i
    · rw [if_pos hki] at hp
      refine ⟨?_, hob p hp⟩
      rcases ho with ho | ⟨q, hq, hq1, _⟩
      · rw [ho] at hp; exact (h.low i hi p hp).1
      · rw [hp] at hq; injection hq with hq; have := h.base; omega
    · rw [if_neg hki] at hp; exact h.low k hk p hp
  · have lt : ∀ j p, j < n → fp j = some p → p < H.size := fun j p hj hp => by
      obtain ⟨_, _, h5⟩ := h3 j hj
      rw [hp] at h5
      exact Sl.lt h5
    unfold putO at hp hp'
    by_cases hki : k = i <;> by_cases hki' : k' = i
    · omega
    · rw [if_pos hki] at hp
      rw [if_neg hki'] at hp'
      rcases ho with ho | ⟨q, hq, hq1, _⟩
      · rw [ho] at hp; have := h.apart i k' p hi hk' hp hp'; omega
      · rw [hp] at hq; injection hq with hq; have := lt k' p hk' hp'; omega
    · rw [if_neg hki] at hp
      rw [if_pos hki'] at hp'
      rcases ho with ho | ⟨q, hq, hq1, _⟩
      · rw [ho] at hp'; have := h.apart k i p hk hi hp hp'; omega
      · rw [hp'] at hq; injection hq with hq; have := lt k p hk hp; omega
    · rw [if_neg hki] at hp
      rw [if_neg hki'] at hp'
      exact h.apart k k' p hk hk' hp hp'

/-- One slice of them has changed in its own block, its value as it was. -/
theorem Sll.turn {H H' : Hp} {B b n : Nat} {xs : Nat → List Int} {fp : Nat → Option Nat} (h : Sll H B b n xs fp) {i : Nat} (hi : i < n) {l : List Int} {sv : Value} {svs : List Value} (hsv : H.own b = some svs) (hi2 : svs[i]? = some sv) (e : Ext (fun z => fp i = some z) H H') (s : Sl H' 1 sv l.length (l.map i64) (fp i)) :
    Sll H' B b n (putL xs i l) fp := by
  obtain ⟨svs', h1, h2, h3⟩ := h.rep
  rw [hsv] at h1
  injection h1 with h1
  subst h1
  have hbS : ¬ fp i = some b := fun hh => (h.low i hi b hh).2 rfl
  refine ⟨⟨svs, e.own hsv hbS, h2, fun k hk => ?_⟩, h.base, h.low, h.apart⟩
  unfold putL
  by_cases hki : k = i
  · subst hki
    exact ⟨sv, hi2, by rw [if_pos rfl]; exact s⟩
  · obtain ⟨sv', h4, h5⟩ := h3 k hk
    exact ⟨sv', h4, by rw [if_neg hki]; exact h5.ext e (fun p hp hp' => hki (h.apart k i p hk hi hp hp'))⟩

end Go.Proofs.Ytbnaicgmnadkgaa
