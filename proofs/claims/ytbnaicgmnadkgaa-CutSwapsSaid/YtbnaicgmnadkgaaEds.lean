/-
  Edges, as they lie in memory.
-/
import Derived.Test.YtbnaicgmnadkgaaBase
import Derived.Test.YtbnaicgmnadkgaaArgs
set_option linter.unusedVariables false
set_option linter.unusedSimpArgs false
namespace Go.Proofs.Ytbnaicgmnadkgaa
open Go Go.Vc

/-- An edge: from, to, weight. -/
structure Ed where
  f : Int
  t : Int
  w : Int
  deriving DecidableEq

/-- A graph that can be. -/
structure RightG (n : Int) (es : List Ed) : Prop where
  n0 : 0 ≤ n
  n1 : n ≤ 4096
  len : es.length ≤ 65536
  ends : ∀ e ∈ es, 0 ≤ e.f ∧ e.f < n ∧ 0 ≤ e.t ∧ e.t < n

def cellsE (e : Ed) : List Value := [i64 e.f, i64 e.t, i64 e.w]
def flatE (es : List Ed) : List Value := es.flatMap cellsE
theorem flatE_cons (e : Ed) (es : List Ed) : flatE (e :: es) = cellsE e ++ flatE es := rfl
theorem flatE_app (a b : List Ed) : flatE (a ++ b) = flatE a ++ flatE b := List.flatMap_append ..
theorem ones_ed (es : List Ed) : allOne (flatE es) := fun v hv => by
  obtain ⟨r, _, h⟩ := List.mem_flatMap.1 hv
  simp only [cellsE, List.mem_cons, List.not_mem_nil, or_false] at h
  rcases h with rfl | rfl | rfl <;> rfl

theorem flatE_len (es : List Ed) : (flatE es).length = es.length * 3 := by
  induction es with
  | nil => rfl
  | cons r rs ih => rw [flatE_cons, List.length_append, ih, List.length_cons]; show 3 + _ = _; omega

theorem flatE_at : ∀ (rs : List Ed) (i : Nat) (r : Ed), rs[i]? = some r → ((flatE rs).drop (i * 3)).take 3 = cellsE r := by
  intro rs
  induction rs with
  | nil => intro i r h; simp at h
  | cons x rs ih =>
    intro i r h
    cases i with
    | zero =>
      simp only [List.getElem?_cons_zero, Option.some.injEq] at h
      subst h
      rw [flatE_cons, Nat.zero_mul, List.drop_zero]
      exact List.take_left' rfl
    | succ i =>
      rw [flatE_cons, show (i + 1) * 3 = 3 + i * 3 by omega, ← List.drop_drop, List.drop_left' (by rfl)]
      exact ih i r (by simpa using h)

theorem RdS.edge {H : Hp} {a : Option Addr} {n c : Nat} {rs : List Ed} (h : RdS H 3 (.slice a n c) n (flatE rs)) {i : Nat} {r : Ed} (hx : rs[i]? = some r) :
    i < n ∧ ∃ b o lb, a = some ⟨b, o, none⟩ ∧ H.rd b = some lb ∧ o + i * 3 + 3 ≤ lb.length ∧ (lb.drop (o + i * 3)).take 3 = cellsE r := by
  obtain ⟨hl, hv⟩ := h
  rw [flatE_len] at hl
  have hi : i < rs.length := by
    rcases Nat.lt_or_ge i rs.length with h | h
    · exact h
    · rw [List.getElem?_eq_none h] at hx; cases hx
  refine ⟨by omega, ?_⟩
  rcases hv with ⟨hn, _⟩ | ⟨b, o, c2, l, hs, hrd, hle, ht⟩
  · omega
  · injection hs with hs1 hs2 hs3
    refine ⟨b, o, l, hs1, hrd, by omega, ?_⟩
    have h7 := flatE_at rs i r hx
    rw [← ht, List.drop_take, List.take_take, List.drop_drop, Nat.min_eq_left (by omega)] at h7
    exact h7

theorem edge_eqVs (a b c a' b' c' : Int) : eqVs [(0, (none, .int)), (1, (none, .int)), (2, (none, .int))] [i64 a, i64 b, i64 c] [i64 a', i64 b', i64 c'] = some (decide (a = a') && (decide (b = b') && decide (c = c'))) := by
  by_cases h1 : a = a' <;> by_cases h2 : b = b' <;> by_cases h3 : c = c' <;> simp [eqVs, partL, eqV, simpleEq, h1, h2, h3]

theorem slv_val {H : Hp} {v : Value} {size n : Nat} {xs : List Value} {fp : Option Nat} (h : Sl H size v n xs fp) : ∃ a c, v = .slice a n c ∧ n ≤ c := by
  obtain ⟨_, h⟩ := h
  cases fp with
  | none => obtain ⟨rfl, rfl⟩ := h; exact ⟨_, _, rfl, Nat.le_refl _⟩
  | some b => obtain ⟨l, c, rfl, _, hc, _⟩ := h; exact ⟨_, _, rfl, hc⟩

theorem RdS.num {H : Hp} {a : Option Addr} {n c : Nat} {xs : List Int} (h : RdS H 1 (.slice a n c) n (xs.map i64)) {i : Nat} {x : Int} (hx : xs[i]? = some x) :
    i < n ∧ ∃ b o lb, a = some ⟨b, o, none⟩ ∧ H.rd b = some lb ∧ lb[o + i]? = some (i64 x) := by
  obtain ⟨hl, hv⟩ := h
  rw [List.length_map, Nat.mul_one] at hl
  have hi := (List.getElem?_eq_some_iff.1 hx).1
  refine ⟨by omega, ?_⟩
  rcases hv with ⟨hn, _⟩ | ⟨b, o, c2, l, hs, hrd, hle, ht⟩
  · omega
  · injection hs with hs1 hs2 hs3
    refine ⟨b, o, l, hs1, hrd, ?_⟩
    have h7 : (xs.map i64)[i]? = some (i64 x) := by rw [List.getElem?_map, hx]; rfl
    rw [← ht, List.getElem?_take, if_pos (by omega), List.getElem?_drop] at h7
    exact h7

/-- One field of an edge. -/
theorem RdS.edgeAt {H : Hp} {a : Option Addr} {n c : Nat} {rs : List Ed} (h : RdS H 3 (.slice a n c) n (flatE rs)) {i : Nat} {r : Ed} (hx : rs[i]? = some r) :
    i < n ∧ ∃ b o lb, a = some ⟨b, o, none⟩ ∧ H.rd b = some lb ∧ o + i * 3 + 3 ≤ lb.length ∧ (lb.drop (o + i * 3)).take 3 = cellsE r ∧ lb[o + i * 3]? = some (i64 r.f) ∧ lb[o + i * 3 + 1]? = some (i64 r.t) ∧ lb[o + i * 3 + 2]? = some (i64 r.w) := by
  obtain ⟨h1, b, o, lb, h2, h3, h4, h5⟩ := RdS.edge h hx
  have key : ∀ k v, (cellsE r)[k]? = some v → lb[o + i * 3 + k]? = some v := fun k v hv => by
    rw [← h5, List.getElem?_take] at hv
    split at hv
    · rw [List.getElem?_drop] at hv; exact hv
    · cases hv
  exact ⟨h1, b, o, lb, h2, h3, h4, h5, by simpa using key 0 _ rfl, key 1 _ rfl, key 2 _ rfl⟩

end Go.Proofs.Ytbnaicgmnadkgaa
