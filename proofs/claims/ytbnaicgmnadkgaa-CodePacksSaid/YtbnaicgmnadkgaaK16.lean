/-
  Texts put behind each other by a program: Push, Eds, Enc27, Byt, Pk27, CodeQ, CfI, CloneI, Words27, Sub, Unp27, Slc.
-/
import Derived.Test.YtbnaicgmnadkgaaK0
import Derived.Test.YtbnaicgmnadkgaaK8
import Derived.Test.YtbnaicgmnadkgaaK13
import Derived.Test.YtbnaicgmnadkgaaK15
/-
  A number more at the end of a slice of the call's own.
-/
set_option linter.unusedVariables false
set_option linter.unusedSimpArgs false
namespace Go.Proofs.Ytbnaicgmnadkgaa
open Go Go.Vc

theorem ones_is (l : List Int) : allOne (l.map i64) := fun v hv => by
  obtain ⟨x, _, rfl⟩ := List.mem_map.1 hv
  rfl

theorem pushO {H : Hp} {T B : Nat} {w : Value} {xs : List Int} {fp : Option Nat} {K : Value → Hp → Prop} (hfp : ∀ b, fp = some b → B ≤ b) (hB : B ≤ H.size) (s : Sl H 1 w xs.length (xs.map i64) fp) (x : Int) (hl : xs.length ≤ 1000000000000)
    (hk : ∀ w' H' fp', (∀ b, fp' = some b → B ≤ b) → Sl H' 1 w' (xs ++ [x]).length ((xs ++ [x]).map i64) fp' → Ext (fun z => B ≤ z) H H' → K w' H') :
    AppendV T 1 8 [i64 0] w (.slice (some ⟨H.size, 0, none⟩) 1 1) (H.new T [i64 x]) K := by
  have fl : Fresh H (H.new T [i64 x]) := (Ext.refl _ _).new _ _
  refine Sl.append (s.ext fl (fun _ _ h => h)) (Sl.lit_at (size := 1) (n := 1) (xs := [i64 x]) rfl rfl).rd rfl (ones_is [x]) (by omega) ?_
  intro v' H' fp' s' e' hf'
  refine hk v' H' fp' (fun b hb => ?_) (by rw [List.length_append, List.map_append]; exact s') ⟨Nat.le_trans fl.size e'.size, fun z hz hn => ?_⟩
  · rcases hf' with h | ⟨b', hb', h1, h2⟩
    · exact hfp b (by rw [← h]; exact hb)
    · rw [hb] at hb'; injection hb' with hb'; have := fl.size; omega
  · rw [e'.keep z (Nat.lt_of_lt_of_le hz fl.size) (fun h => hn (hfp z h)), fl.keep z hz (fun h => h)]

/-- Of a block of its own at once. -/
theorem pushS {H : Hp} {T B b : Nat} {w : Value} {xs : List Int} {K : Value → Hp → Prop} (hb : B ≤ b) (hB : B ≤ H.size) (s : Sl H 1 w xs.length (xs.map i64) (some b)) (x : Int) (hl : xs.length ≤ 1000000000000)
    (hk : ∀ w' H' b', B ≤ b' → Sl H' 1 w' (xs ++ [x]).length ((xs ++ [x]).map i64) (some b') → Ext (fun z => B ≤ z) H H' → K w' H') :
    AppendV T 1 8 [i64 0] w (.slice (some ⟨H.size, 0, none⟩) 1 1) (H.new T [i64 x]) K := by
  refine pushO (fun b' h => by injection h with h; omega) hB s x hl fun w' H' fp' hf s' e' => ?_
  cases fp' with
  | none =>
    obtain ⟨_, h0, _⟩ := s'
    simp at h0
  | some b' => exact hk w' H' b' (hf b' rfl) s' e'

/-- Just its own block may have changed. -/
theorem pushE {H : Hp} {T b : Nat} {w : Value} {xs : List Int} {K : Value → Hp → Prop} (s : Sl H 1 w xs.length (xs.map i64) (some b)) (x : Int) (hl : xs.length ≤ 1000000000000)
    (hk : ∀ w' H' b', (b' = b ∨ H.size ≤ b') → Sl H' 1 w' (xs ++ [x]).length ((xs ++ [x]).map i64) (some b') → Ext (fun z => z = b) H H' → K w' H') :
    AppendV T 1 8 [i64 0] w (.slice (some ⟨H.size, 0, none⟩) 1 1) (H.new T [i64 x]) K := by
  have fl : Fresh H (H.new T [i64 x]) := (Ext.refl _ _).new _ _
  refine Sl.append (s.ext fl (fun _ _ h => h)) (Sl.lit_at (size := 1) (n := 1) (xs := [i64 x]) rfl rfl).rd rfl (ones_is [x]) (by omega) ?_
  intro v' H' fp' s' e' hf'
  have e2 : Ext (fun z => z = b) H H' := ⟨Nat.le_trans fl.size e'.size, fun z hz hn => by
    rw [e'.keep z (Nat.lt_of_lt_of_le hz fl.size) (fun h => hn (by injection h with h; exact h.symm)), fl.keep z hz (fun h => h)]⟩
  have s2 : Sl H' 1 v' (xs ++ [x]).length ((xs ++ [x]).map i64) fp' := by rw [List.length_append, List.map_append]; exact s'
  rcases hf' with rfl | ⟨b', rfl, h1, h2⟩
  · exact hk v' H' b (.inl rfl) s2 e2
  · rw [size_new] at h1
    exact hk v' H' b' (.inr (by omega)) s2 e2

/-- Other numbers at the end. -/
theorem pushL {H : Hp} {T B : Nat} {w u : Value} {xs ys : List Int} {fp : Option Nat} {K : Value → Hp → Prop} (hfp : ∀ b, fp = some b → B ≤ b) (hB : B ≤ H.size) (s : Sl H 1 w xs.length (xs.map i64) fp) (r : RdS H 1 u ys.length (ys.map i64)) (hl : xs.length + ys.length ≤ 1000000000000)
    (hk : ∀ w' H' fp', (∀ b, fp' = some b → B ≤ b) → Sl H' 1 w' (xs ++ ys).length ((xs ++ ys).map i64) fp' → Ext (fun z => B ≤ z) H H' → K w' H') :
    AppendV T 1 8 [i64 0] w u H K := by
  refine Sl.append s r rfl (ones_is ys) (by omega) ?_
  intro v' H' fp' s' e' hf'
  refine hk v' H' fp' (fun b hb => ?_) (by rw [List.length_append, List.map_append]; exact s') ⟨e'.size, fun z hz hn => e'.keep z hz (fun h => hn (hfp z h))⟩
  rcases hf' with h | ⟨b', hb', h1, h2⟩
  · exact hfp b (by rw [← h]; exact hb)
  · rw [hb] at hb'; injection hb' with hb'; omega

/-- A slice of numbers that is read, cell by cell. -/
theorem Sl.num {H : Hp} {a : Option Addr} {n c : Nat} {xs : List Int} {b : Nat} (h : Sl H 1 (.slice a n c) n (xs.map i64) (some b)) {i : Nat} {x : Int} (hx : xs[i]? = some x) :
    i < n ∧ a = some ⟨b, 0, none⟩ ∧ ∃ lb, H.own b = some lb ∧ lb[i]? = some (i64 x) := by
  have hl := h.1
  rw [List.length_map, Nat.mul_one] at hl
  have hi := (List.getElem?_eq_some_iff.1 hx).1
  obtain ⟨_, l, c2, hs, ho, hc, hle, ht⟩ := h
  injection hs with hs1 hs2 hs3
  refine ⟨by omega, hs1, l, ho, ?_⟩
  have h7 : (xs.map i64)[i]? = some (i64 x) := by rw [List.getElem?_map, hx]; rfl
  rw [← ht, List.getElem?_take, if_pos (by omega)] at h7
  exact h7

end Go.Proofs.Ytbnaicgmnadkgaa

/-
  Edges, as they lie in memory.
-/
set_option linter.unusedVariables false
set_option linter.unusedSimpArgs false
namespace Go.Proofs.Ytbnaicgmnadkgaa
open Go Go.Vc

/-- An edge: from, to, weight. -/
structure Ed where
  f : Int
  t : Int
  w : Int
  deriving DecidableEq

/-- A graph that can be. -/
structure RightG (n : Int) (es : List Ed) : Prop where
  n0 : 0 ≤ n
  n1 : n ≤ 4096
  len : es.length ≤ 65536
  ends : ∀ e ∈ es, 0 ≤ e.f ∧ e.f < n ∧ 0 ≤ e.t ∧ e.t < n

def cellsE (e : Ed) : List Value := [i64 e.f, i64 e.t, i64 e.w]
def flatE (es : List Ed) : List Value := es.flatMap cellsE
theorem flatE_cons (e : Ed) (es : List Ed) : flatE (e :: es) = cellsE e ++ flatE es := rfl
theorem flatE_app (a b : List Ed) : flatE (a ++ b) = flatE a ++ flatE b := List.flatMap_append ..
theorem ones_ed (es : List Ed) : allOne (flatE es) := fun v hv => by
  obtain ⟨r, _, h⟩ := List.mem_flatMap.1 hv
  simp only [cellsE, List.mem_cons, List.not_mem_nil, or_false] at h
  rcases h with rfl | rfl | rfl <;> rfl

theorem flatE_len (es : List Ed) : (flatE es).length = es.length * 3 := by
  induction es with
  | nil => rfl
  | cons r rs ih => rw [flatE_cons, List.length_append, ih, List.length_cons]; show 3 + _ = _; omega

theorem flatE_at : ∀ (rs : List Ed) (i : Nat) (r : Ed), rs[i]? = some r → ((flatE rs).drop (i * 3)).take 3 = cellsE r := by
  intro rs
  induction rs with
  | nil => intro i r h; simp at h
  | cons x rs ih =>
    intro i r h
    cases i with
    | zero =>
      simp only [List.getElem?_cons_zero, Option.some.injEq] at h
      subst h
      rw [flatE_cons, Nat.zero_mul, List.drop_zero]
      exact List.take_left' rfl
    | succ i =>
      rw [flatE_cons, show (i + 1) * 3 = 3 + i * 3 by omega, ← List.drop_drop, List.drop_left' (by rfl)]
      exact ih i r (by simpa using h)

theorem RdS.edge {H : Hp} {a : Option Addr} {n c : Nat} {rs : List Ed} (h : RdS H 3 (.slice a n c) n (flatE rs)) {i : Nat} {r : Ed} (hx : rs[i]? = some r) :
    i < n ∧ ∃ b o lb, a = some ⟨b, o, none⟩ ∧ H.rd b = some lb ∧ o + i * 3 + 3 ≤ lb.length ∧ (lb.drop (o + i * 3)).take 3 = cellsE r := by
  obtain ⟨hl, hv⟩ := h
  rw [flatE_len] at hl
  have hi : i < rs.length := by
    rcases Nat.lt_or_ge i rs.length with h | h
    · exact h
    · rw [List.getElem?_eq_none h] at hx; cases hx
  refine ⟨by omega, ?_⟩
  rcases hv with ⟨hn, _⟩ | ⟨b, o, c2, l, hs, hrd, hle, ht⟩
  · omega
  · injection hs with hs1 hs2 hs3
    refine ⟨b, o, l, hs1, hrd, by omega, ?_⟩
    have h7 := flatE_at rs i r hx
    rw [← ht, List.drop_take, List.take_take, List.drop_drop, Nat.min_eq_left (by omega)] at h7
    exact h7

theorem edge_eqVs (a b c a' b' c' : Int) : eqVs [(0, (none, .int)), (1, (none, .int)), (2, (none, .int))] [i64 a, i64 b, i64 c] [i64 a', i64 b', i64 c'] = some (decide (a = a') && (decide (b = b') && decide (c = c'))) := by
  by_cases h1 : a = a' <;> by_cases h2 : b = b' <;> by_cases h3 : c = c' <;> simp [eqVs, partL, eqV, simpleEq, h1, h2, h3]

theorem slv_val {H : Hp} {v : Value} {size n : Nat} {xs : List Value} {fp : Option Nat} (h : Sl H size v n xs fp) : ∃ a c, v = .slice a n c ∧ n ≤ c := by
  obtain ⟨_, h⟩ := h
  cases fp with
  | none => obtain ⟨rfl, rfl⟩ := h; exact ⟨_, _, rfl, Nat.le_refl _⟩
  | some b => obtain ⟨l, c, rfl, _, hc, _⟩ := h; exact ⟨_, _, rfl, hc⟩

theorem RdS.num {H : Hp} {a : Option Addr} {n c : Nat} {xs : List Int} (h : RdS H 1 (.slice a n c) n (xs.map i64)) {i : Nat} {x : Int} (hx : xs[i]? = some x) :
    i < n ∧ ∃ b o lb, a = some ⟨b, o, none⟩ ∧ H.rd b = some lb ∧ lb[o + i]? = some (i64 x) := by
  obtain ⟨hl, hv⟩ := h
  rw [List.length_map, Nat.mul_one] at hl
  have hi := (List.getElem?_eq_some_iff.1 hx).1
  refine ⟨by omega, ?_⟩
  rcases hv with ⟨hn, _⟩ | ⟨b, o, c2, l, hs, hrd, hle, ht⟩
  · omega
  · injection hs with hs1 hs2 hs3
    refine ⟨b, o, l, hs1, hrd, ?_⟩
    have h7 : (xs.map i64)[i]? = some (i64 x) := by rw [List.getElem?_map, hx]; rfl
    rw [← ht, List.getElem?_take, if_pos (by omega), List.getElem?_drop] at h7
    exact h7

/-- One field of an edge. -/
theorem RdS.edgeAt {H : Hp} {a : Option Addr} {n c : Nat} {rs : List Ed} (h : RdS H 3 (.slice a n c) n (flatE rs)) {i : Nat} {r : Ed} (hx : rs[i]? = some r) :
    i < n ∧ ∃ b o lb, a = some ⟨b, o, none⟩ ∧ H.rd b = some lb ∧ o + i * 3 + 3 ≤ lb.length ∧ (lb.drop (o + i * 3)).take 3 = cellsE r ∧ lb[o + i * 3]? = some (i64 r.f) ∧ lb[o + i * 3 + 1]? = some (i64 r.t) ∧ lb[o + i * 3 + 2]? = some (i64 r.w) := by
  obtain ⟨h1, b, o, lb, h2, h3, h4, h5⟩ := RdS.edge h hx
  have key : ∀ k v, (cellsE r)[k]? = some v → lb[o + i * 3 + k]? = some v := fun k v hv => by
    rw [← h5, List.getElem?_take] at hv
    split at hv
    · rw [List.getElem?_drop] at hv; exact hv
    · cases hv
  exact ⟨h1, b, o, lb, h2, h3, h4, h5, by simpa using key 0 _ rfl, key 1 _ rfl, key 2 _ rfl⟩

end Go.Proofs.Ytbnaicgmnadkgaa

/-
  The bits of symbols, the symbols of bits: the document's way.
-/
set_option linter.unusedVariables false
set_option linter.unusedSimpArgs false
namespace Go.Proofs.Ytbnaicgmnadkgaa
open Go Go.Vc

def encW (ws : List (List Bool)) : List Int → List Bool → Option (List Bool)
  | [], out => some out
  | s :: r, out => if s < 0 ∨ (ws.length : Int) ≤ s ∨ 1048576 < out.length + (ws.getD s.toNat []).length then none else encW ws r (out ++ ws.getD s.toNat [])
def encV : Option (List Bool) → Value
  | some o => .tuple [strB o, i64 0].toArray
  | none => .tuple [strV [], i64 201].toArray

theorem words_at {ws : List (List Bool)} {s : Nat} (h : s < ws.length) : (ws.map strB)[s]? = some (strB (ws.getD s [])) := by
  rw [List.getElem?_map, of_lt h]
  rfl
theorem drop_at {α : Type} {l : List α} {i : Nat} {x : α} (h : l[i]? = some x) : l.drop i = x :: l.drop (i + 1) := by
  obtain ⟨h1, h2⟩ := List.getElem?_eq_some_iff.1 h
  rw [List.drop_eq_getElem_cons h1, h2]
theorem getD_le {ws : List (List Bool)} {n : Nat} (h : ∀ w ∈ ws, w.length ≤ n) (s : Nat) : (ws.getD s []).length ≤ n := by
  by_cases hs : s < ws.length
  · exact h _ (List.mem_of_getElem? (of_lt hs))
  · rw [List.getD_eq_getElem?_getD, List.getElem?_eq_none (by omega)]
    exact Nat.zero_le _

set_option maxRecDepth 100000 in
set_option maxHeartbeats 2000000 in
theorem ref27_Encode_spec {H : Hp} {wb c : Nat} {a : Option Addr} {ws : List (List Bool)} {xs : List Int} (hw : H.own wb = some (ws.map strB)) (hx : RdS H 1 (.slice a xs.length c) xs.length (xs.map i64)) (hwl : ws.length ≤ 1000000) (hl : ∀ w ∈ ws, w.length ≤ 1000) (hxl : xs.length ≤ 1000000000) :
    CallH Try.prog n_ref27_Encode [.slice (some ⟨wb, 0, none⟩) ws.length ws.length, .slice a xs.length c] H fun v H' => Post (v = encV (encW ws xs []) ∧ H = H') := by
  refine c_ref27_Encode ⟨rfl, ?_⟩
  simp (disch := (first | omega | (simp only [size_new, size_newm, size_wr, size_wrm] <;> omega) | fail)) only [go_sem, Nat.reduceBEq, Nat.reduceAdd, Nat.reduceMul, Nat.reduceLeDiff, ↓reduceIte, rd_new_lt, own_new_lt, mp_new_lt, rd_newm_lt, own_newm_lt, mp_newm_lt, rd_wr_ne, own_wr_ne, mp_wr_ne, rd_wrm_ne, own_wrm_ne, mp_wrm_ne, rd_new_eq, own_new_eq, mp_newm_eq, s_ref27_Encode]
  refine LoopV.intro (fun m env H' => H' = H ∧ ∃ (j : Nat) (out : List Bool), m = xs.length - j ∧ j ≤ xs.length ∧ encW ws xs [] = encW ws (xs.drop j) out ∧ out.length ≤ 1048576 ∧
    env = [(0, .slice (some ⟨wb, 0, none⟩) ws.length ws.length), (6, strB out), (9, .slice a xs.length c), (10, i64 xs.length), (11, i64 j)]) xs.length ⟨rfl, 0, [], by omega, by omega, rfl, by simp, rfl⟩ ?_
  rintro m env H1 ⟨rfl, j, out, hm, hj, he, ho, rfl⟩
  simp (disch := (first | omega | (simp only [size_new, size_newm, size_wr, size_wrm] <;> omega) | fail)) only [go_sem, Nat.reduceBEq, Nat.reduceAdd, Nat.reduceMul, Nat.reduceLeDiff, ↓reduceIte, rd_new_lt, own_new_lt, mp_new_lt, rd_newm_lt, own_newm_lt, mp_newm_lt, rd_wr_ne, own_wr_ne, mp_wr_ne, rd_wrm_ne, own_wrm_ne, mp_wrm_ne, rd_new_eq, own_new_eq, mp_newm_eq]
  refine Both.dec (fun hlt => ?_) (fun hlt => ?_) <;> simp (disch := (first | omega | (simp only [size_new, size_newm, size_wr, size_wrm] <;> omega) | fail)) only [go_sem, Nat.reduceBEq, Nat.reduceAdd, Nat.reduceMul, Nat.reduceLeDiff, ↓reduceIte, rd_new_lt, own_new_lt, mp_new_lt, rd_newm_lt, own_newm_lt, mp_newm_lt, rd_wr_ne, own_wr_ne, mp_wr_ne, rd_wrm_ne, own_wrm_ne, mp_wrm_ne, rd_new_eq, own_new_eq, mp_newm_eq]
  · obtain ⟨x, hxj⟩ : ∃ x, xs[j]? = some x := ⟨_, List.getElem?_eq_getElem (by omega)⟩
    obtain ⟨_, b, o, lb, rfl, hrd, hcell⟩ := RdS.num hx hxj
    rw [drop_at hxj] at he
    refine ⟨⟨by omega, by omega⟩, ?_⟩
    simp (disch := (first | omega | (simp only [size_new, size_newm, size_wr, size_wrm] <;> omega) | fail)) only [go_sem, Nat.reduceBEq, Nat.reduceAdd, Nat.reduceMul, Nat.reduceLeDiff, ↓reduceIte, rd_new_lt, own_new_lt, mp_new_lt, rd_newm_lt, own_newm_lt, mp_newm_lt, rd_wr_ne, own_wr_ne, mp_wr_ne, rd_wrm_ne, own_wrm_ne, mp_wrm_ne, rd_new_eq, own_new_eq, mp_newm_eq, hrd, Int.toNat_natCast, Nat.mul_one, hcell]
    refine Both.dec (fun g1 => ?_) (fun g1 => ?_) <;> simp (disch := (first | omega | (simp only [size_new, size_newm, size_wr, size_wrm] <;> omega) | fail)) only [go_sem, Nat.reduceBEq, Nat.reduceAdd, Nat.reduceMul, Nat.reduceLeDiff, ↓reduceIte, rd_new_lt, own_new_lt, mp_new_lt, rd_newm_lt, own_newm_lt, mp_newm_lt, rd_wr_ne, own_wr_ne, mp_wr_ne, rd_wrm_ne, own_wrm_ne, mp_wrm_ne, rd_new_eq, own_new_eq, mp_newm_eq]
    · rw [he, encW, if_pos (.inl g1)]
      exact ⟨rfl, rfl⟩
    refine Both.dec (fun g2 => ?_) (fun g2 => ?_) <;> simp (disch := (first | omega | (simp only [size_new, size_newm, size_wr, size_wrm] <;> omega) | fail)) only [go_sem, Nat.reduceBEq, Nat.reduceAdd, Nat.reduceMul, Nat.reduceLeDiff, ↓reduceIte, rd_new_lt, own_new_lt, mp_new_lt, rd_newm_lt, own_newm_lt, mp_newm_lt, rd_wr_ne, own_wr_ne, mp_wr_ne, rd_wrm_ne, own_wrm_ne, mp_wrm_ne, rd_new_eq, own_new_eq, mp_newm_eq]
    · rw [he, encW, if_pos (.inr (.inl (by omega)))]
      exact ⟨rfl, rfl⟩
    have hwx := words_at (ws := ws) (s := x.toNat) (by omega)
    have hgl := getD_le hl x.toNat
    refine ⟨⟨by omega, by omega⟩, ?_⟩
    simp (disch := (first | omega | (simp only [size_new, size_newm, size_wr, size_wrm] <;> omega) | fail)) only [go_sem, Nat.reduceBEq, Nat.reduceAdd, Nat.reduceMul, Nat.reduceLeDiff, ↓reduceIte, rd_new_lt, own_new_lt, mp_new_lt, rd_newm_lt, own_newm_lt, mp_newm_lt, rd_wr_ne, own_wr_ne, mp_wr_ne, rd_wrm_ne, own_wrm_ne, mp_wrm_ne, rd_new_eq, own_new_eq, mp_newm_eq, rd_of_own hw, Nat.mul_one, Nat.zero_add, hwx]
    rw [size_str, size_str, List.length_map, List.length_map, wrap64 (n := (out.length : Int) + ((ws.getD x.toNat []).length : Int)) (by omega) (by omega)]
    refine Both.dec (fun g3 => ?_) (fun g3 => ?_) <;> simp (disch := (first | omega | (simp only [size_new, size_newm, size_wr, size_wrm] <;> omega) | fail)) only [go_sem, Nat.reduceBEq, Nat.reduceAdd, Nat.reduceMul, Nat.reduceLeDiff, ↓reduceIte, rd_new_lt, own_new_lt, mp_new_lt, rd_newm_lt, own_newm_lt, mp_newm_lt, rd_wr_ne, own_wr_ne, mp_wr_ne, rd_wrm_ne, own_wrm_ne, mp_wrm_ne, rd_new_eq, own_new_eq, mp_newm_eq]
    · rw [he, encW, if_pos (.inr (.inr (by omega)))]
      exact ⟨rfl, rfl⟩
    refine ⟨⟨by omega, by omega⟩, ?_⟩
    simp (disch := (first | omega | (simp only [size_new, size_newm, size_wr, size_wrm] <;> omega) | fail)) only [go_sem, Nat.reduceBEq, Nat.reduceAdd, Nat.reduceMul, Nat.reduceLeDiff, ↓reduceIte, rd_new_lt, own_new_lt, mp_new_lt, rd_newm_lt, own_newm_lt, mp_newm_lt, rd_wr_ne, own_wr_ne, mp_wr_ne, rd_wrm_ne, own_wrm_ne, mp_wrm_ne, rd_new_eq, own_new_eq, mp_newm_eq, rd_of_own hw, Nat.mul_one, Nat.zero_add, hwx]
    rw [cat_sz _ _ (by rw [List.length_map, List.length_map]; omega)]
    simp (disch := (first | omega | (simp only [size_new, size_newm, size_wr, size_wrm] <;> omega) | fail)) only [go_sem, Nat.reduceBEq, Nat.reduceAdd, Nat.reduceMul, Nat.reduceLeDiff, ↓reduceIte, rd_new_lt, own_new_lt, mp_new_lt, rd_newm_lt, own_newm_lt, mp_newm_lt, rd_wr_ne, own_wr_ne, mp_wr_ne, rd_wrm_ne, own_wrm_ne, mp_wrm_ne, rd_new_eq, own_new_eq, mp_newm_eq]
    rw [wrap64 (n := (j : Int) + 1) (by omega) (by omega)]
    have hno : ¬ (x < 0 ∨ (ws.length : Int) ≤ x ∨ 1048576 < out.length + (ws.getD x.toNat []).length) := by omega
    rw [encW, if_neg hno] at he
    exact ⟨xs.length - (j + 1), by omega, trivial, j + 1, _, rfl, by omega, he, by rw [List.length_append]; omega, by rw [← List.map_append]; rfl⟩
  · have hj2 : j = xs.length := by omega
    subst hj2
    rw [List.drop_length] at he
    rw [he]
    exact ⟨rfl, rfl⟩

theorem bt_inj {a b : Bool} (h : bt a = bt b) : a = b := by cases a <;> cases b <;> first | rfl | (exact absurd h (by decide))
theorem mapbt_inj {a b : List Bool} (h : a.map bt = b.map bt) : a = b := by
  induction a generalizing b with
  | nil =>
    cases b with
    | nil => rfl
    | cons y b => simp at h
  | cons x a ih =>
    cases b with
    | nil => simp at h
    | cons y b =>
      rw [List.map_cons, List.map_cons, List.cons.injEq] at h
      rw [bt_inj h.1, ih h.2]

/-- Symbols, as numbers. -/
abbrev natI (out : List Nat) : List Int := out.map fun (s : Nat) => (s : Int)

/-- What is read of bits: symbols, or the error. -/
def DecP (ws : List (List Bool)) (bits : List UInt8) (H' : Hp) (v : Value) : Prop :=
  (∃ out : List Nat, InW ws out ∧ (bitsOf ws out).map bt = bits ∧ bits.length ≤ 1048576 ∧ ∃ a c, v = .tuple [.slice a out.length c, i64 0].toArray ∧ RdS H' 1 (.slice a out.length c) out.length ((natI out).map i64)) ∨
  ((∀ out, InW ws out → (bitsOf ws out).map bt = bits → 1048576 < bits.length) ∧ v = .tuple [.slice none 0 0, i64 201].toArray)

theorem stuckT {ws : List (List Bool)} (hf : FreeW ws) {bits rest : List UInt8} {out : List Nat} (ho : InW ws out) (e : (bitsOf ws out).map bt ++ rest = bits) (hr : rest ≠ []) (hno : ∀ w ∈ ws, ¬ w.map bt <+: rest) : ∀ out', InW ws out' → (bitsOf ws out').map bt ≠ bits := by
  intro out' h' e'
  have h1 : (bitsOf ws out).map bt ++ rest = (bitsOf ws out').map bt := e.trans e'.symm
  have h2 : rest = ((bitsOf ws out').drop (bitsOf ws out).length).map bt := by
    rw [List.map_drop, ← h1, List.drop_left' (by simp)]
  have h3 : bitsOf ws out ++ (bitsOf ws out').drop (bitsOf ws out).length = bitsOf ws out' := by
    apply mapbt_inj
    rw [List.map_append, ← h2, h1]
  refine hf.stuck ho (fun e0 => hr (by rw [h2, e0]; rfl)) (fun w hw hp => hno w hw ?_) out' h' h3
  rw [h2]
  obtain ⟨t, ht⟩ := hp
  exact ⟨t.map bt, by rw [← List.map_append, ht]⟩

theorem InW.snoc {ws : List (List Bool)} {out : List Nat} (h : InW ws out) {s : Nat} (hs : s < ws.length) : InW ws (out ++ [s]) := fun z hz => by
  rcases List.mem_append.1 hz with hz | hz
  · exact h z hz
  · rw [List.mem_singleton.1 hz]; exact hs
theorem bitsOf_snoc (ws : List (List Bool)) (out : List Nat) (s : Nat) : bitsOf ws (out ++ [s]) = bitsOf ws out ++ ws.getD s [] := by
  rw [bitsOf_app, bitsOf_cons]
  show _ ++ (_ ++ []) = _
  rw [List.append_nil]

set_option maxRecDepth 100000 in
set_option maxHeartbeats 4000000 in
theorem ref27_Decode_spec {H : Hp} {wb : Nat} {ws : List (List Bool)} {bits : List UInt8} (hf : FreeW ws) (hw : H.own wb = some (ws.map strB)) (hwl : ws.length ≤ 1000000) (hl : ∀ w ∈ ws, w.length ≤ 1000) (hbl : bits.length ≤ 1000000000) :
    CallH Try.prog n_ref27_Decode [.slice (some ⟨wb, 0, none⟩) ws.length ws.length, strV bits] H fun v H' => Post (Fresh H H' ∧ DecP ws bits H' v) := by
  refine c_ref27_Decode ⟨rfl, ?_⟩
  simp (disch := (first | omega | (simp only [size_new, size_newm, size_wr, size_wrm] <;> omega) | fail)) only [go_sem, Nat.reduceBEq, Nat.reduceAdd, Nat.reduceMul, Nat.reduceLeDiff, ↓reduceIte, rd_new_lt, own_new_lt, mp_new_lt, rd_newm_lt, own_newm_lt, mp_newm_lt, rd_wr_ne, own_wr_ne, mp_wr_ne, rd_wrm_ne, own_wrm_ne, mp_wrm_ne, rd_new_eq, own_new_eq, mp_newm_eq, s_ref27_Decode]
  rw [size_str]
  refine Both.dec (fun g1 => ?_) (fun g1 => ?_) <;> simp (disch := (first | omega | (simp only [size_new, size_newm, size_wr, size_wrm] <;> omega) | fail)) only [go_sem, Nat.reduceBEq, Nat.reduceAdd, Nat.reduceMul, Nat.reduceLeDiff, ↓reduceIte, rd_new_lt, own_new_lt, mp_new_lt, rd_newm_lt, own_newm_lt, mp_newm_lt, rd_wr_ne, own_wr_ne, mp_wr_ne, rd_wrm_ne, own_wrm_ne, mp_wrm_ne, rd_new_eq, own_new_eq, mp_newm_eq]
  · exact ⟨Ext.refl _ _, .inr ⟨fun _ _ _ => by omega, rfl⟩⟩
  have f0 : Fresh H (H.new 3 []) := (Ext.refl _ _).new _ _
  have s0 : Sl (H.new 3 []) 1 (.slice (some ⟨H.size, 0, none⟩) 0 0) (natI []).length ((natI []).map i64) (some H.size) := Sl.lit_at (size := 1) (n := 0) (xs := []) rfl rfl
  generalize H.new 3 [] = H1 at *
  refine LoopV.intro (fun m env H' => ∃ (rest : List UInt8) (out : List Nat) (w : Value) (b : Nat), m = rest.length ∧ Fresh H H' ∧ InW ws out ∧ (bitsOf ws out).map bt ++ rest = bits ∧ H.size ≤ b ∧ Sl H' 1 w (natI out).length ((natI out).map i64) (some b) ∧ out.length + rest.length ≤ bits.length ∧
    env = [(0, .slice (some ⟨wb, 0, none⟩) ws.length ws.length), (1, strV rest), (6, w)]) bits.length ⟨bits, [], _, _, rfl, f0, (by intro s hs; cases hs), rfl, Nat.le_refl _, s0, by simp, rfl⟩ ?_
  clear s0 f0
  rintro m env H2 ⟨rest, out, w, b, rfl, f2, hin, heq, hb, s2, hlen, rfl⟩
  have hw2 := f2.own hw (fun h => h)
  simp (disch := (first | omega | (simp only [size_new, size_newm, size_wr, size_wrm] <;> omega) | fail)) only [go_sem, Nat.reduceBEq, Nat.reduceAdd, Nat.reduceMul, Nat.reduceLeDiff, ↓reduceIte, rd_new_lt, own_new_lt, mp_new_lt, rd_newm_lt, own_newm_lt, mp_newm_lt, rd_wr_ne, own_wr_ne, mp_wr_ne, rd_wrm_ne, own_wrm_ne, mp_wrm_ne, rd_new_eq, own_new_eq, mp_newm_eq]
  rw [eq_none]
  refine Both.dec (fun hz => ?_) (fun hz => ?_) <;> simp (disch := (first | omega | (simp only [size_new, size_newm, size_wr, size_wrm] <;> omega) | fail)) only [go_sem, Nat.reduceBEq, Nat.reduceAdd, Nat.reduceMul, Nat.reduceLeDiff, ↓reduceIte, rd_new_lt, own_new_lt, mp_new_lt, rd_newm_lt, own_newm_lt, mp_newm_lt, rd_wr_ne, own_wr_ne, mp_wr_ne, rd_wrm_ne, own_wrm_ne, mp_wrm_ne, rd_new_eq, own_new_eq, mp_newm_eq]
  · have hz1 : rest = [] := by simpa using hz
    subst hz1
    rw [List.append_nil] at heq
    obtain ⟨a, c, rfl⟩ := rds_isS s2.rd
    have r2 := s2.rd
    rw [List.length_map] at r2
    refine ⟨f2, .inl ⟨out, hin, heq, by omega, a, c, ?_, r2⟩⟩
    rw [List.length_map]
    rfl
  have hz1 : rest ≠ [] := by simpa using hz
  refine LoopV.intro (fun m env H' => H' = H2 ∧ ∃ (j : Nat) (next : Int), m = ws.length - j ∧ j ≤ ws.length ∧ ((next = -1 ∧ ∀ w ∈ ws.take j, ¬ w.map bt <+: rest) ∨ ∃ s : Nat, next = (s : Int) ∧ s < ws.length ∧ (ws.getD s []).map bt <+: rest) ∧
    env = [(0, .slice (some ⟨wb, 0, none⟩) ws.length ws.length), (1, strV rest), (6, w), (7, i64 next), (16, .slice (some ⟨wb, 0, none⟩) ws.length ws.length), (17, i64 ws.length), (18, i64 j)]) ws.length ⟨rfl, 0, -1, by omega, by omega, .inl ⟨rfl, by simp⟩, rfl⟩ ?_
  rintro m env H3 ⟨rfl, j, next, hm, hj, hnx, rfl⟩
  simp (disch := (first | omega | (simp only [size_new, size_newm, size_wr, size_wrm] <;> omega) | fail)) only [go_sem, Nat.reduceBEq, Nat.reduceAdd, Nat.reduceMul, Nat.reduceLeDiff, ↓reduceIte, rd_new_lt, own_new_lt, mp_new_lt, rd_newm_lt, own_newm_lt, mp_newm_lt, rd_wr_ne, own_wr_ne, mp_wr_ne, rd_wrm_ne, own_wrm_ne, mp_wrm_ne, rd_new_eq, own_new_eq, mp_newm_eq]
  refine Both.dec (fun hlt => ?_) (fun hlt => ?_) <;> simp (disch := (first | omega | (simp only [size_new, size_newm, size_wr, size_wrm] <;> omega) | fail)) only [go_sem, Nat.reduceBEq, Nat.reduceAdd, Nat.reduceMul, Nat.reduceLeDiff, ↓reduceIte, rd_new_lt, own_new_lt, mp_new_lt, rd_newm_lt, own_newm_lt, mp_newm_lt, rd_wr_ne, own_wr_ne, mp_wr_ne, rd_wrm_ne, own_wrm_ne, mp_wrm_ne, rd_new_eq, own_new_eq, mp_newm_eq]
  · have hj2 : j < ws.length := by omega
    have hwx := words_at hj2
    have hgl := getD_le hl j
    refine ⟨⟨by omega, by omega⟩, ?_⟩
    simp (disch := (first | omega | (simp only [size_new, size_newm, size_wr, size_wrm] <;> omega) | fail)) only [go_sem, Nat.reduceBEq, Nat.reduceAdd, Nat.reduceMul, Nat.reduceLeDiff, ↓reduceIte, rd_new_lt, own_new_lt, mp_new_lt, rd_newm_lt, own_newm_lt, mp_newm_lt, rd_wr_ne, own_wr_ne, mp_wr_ne, rd_wrm_ne, own_wrm_ne, mp_wrm_ne, rd_new_eq, own_new_eq, mp_newm_eq, rd_of_own hw2, Int.toNat_natCast, Nat.mul_one, Nat.zero_add, hwx]
    refine (ref27_begins_spec H3 rest ((ws.getD j []).map bt) (by omega) (by rw [List.length_map]; omega)).mono ?_
    rintro _ _ ⟨rfl, rfl⟩
    simp (disch := (first | omega | (simp only [size_new, size_newm, size_wr, size_wrm] <;> omega) | fail)) only [go_sem, Nat.reduceBEq, Nat.reduceAdd, Nat.reduceMul, Nat.reduceLeDiff, ↓reduceIte, rd_new_lt, own_new_lt, mp_new_lt, rd_newm_lt, own_newm_lt, mp_newm_lt, rd_wr_ne, own_wr_ne, mp_wr_ne, rd_wrm_ne, own_wrm_ne, mp_wrm_ne, rd_new_eq, own_new_eq, mp_newm_eq]
    refine Both.dec (fun hp => ?_) (fun hp => ?_) <;> simp (disch := (first | omega | (simp only [size_new, size_newm, size_wr, size_wrm] <;> omega) | fail)) only [go_sem, Nat.reduceBEq, Nat.reduceAdd, Nat.reduceMul, Nat.reduceLeDiff, ↓reduceIte, rd_new_lt, own_new_lt, mp_new_lt, rd_newm_lt, own_newm_lt, mp_newm_lt, rd_wr_ne, own_wr_ne, mp_wr_ne, rd_wrm_ne, own_wrm_ne, mp_wrm_ne, rd_new_eq, own_new_eq, mp_newm_eq]
    · rw [wrap64 (n := (j : Int) + 1) (by omega) (by omega)]
      exact ⟨ws.length - (j + 1), by omega, trivial, j + 1, j, rfl, by omega, .inr ⟨j, rfl, hj2, hp⟩, rfl⟩
    · rw [wrap64 (n := (j : Int) + 1) (by omega) (by omega)]
      refine ⟨ws.length - (j + 1), by omega, trivial, j + 1, next, rfl, by omega, ?_, rfl⟩
      rcases hnx with ⟨h1, h2⟩ | h1
      · refine .inl ⟨h1, fun v hv => ?_⟩
        rw [List.take_add_one, of_lt hj2] at hv
        rcases List.mem_append.1 hv with hv | hv
        · exact h2 v hv
        · have : v = ws.getD j [] := by simpa using hv
          rw [this]; exact hp
      · exact .inr h1
  have hj2 : j = ws.length := by omega
  subst hj2
  rw [List.take_length] at hnx
  refine Both.dec (fun hn => ?_) (fun hn => ?_) <;> simp (disch := (first | omega | (simp only [size_new, size_newm, size_wr, size_wrm] <;> omega) | fail)) only [go_sem, Nat.reduceBEq, Nat.reduceAdd, Nat.reduceMul, Nat.reduceLeDiff, ↓reduceIte, rd_new_lt, own_new_lt, mp_new_lt, rd_newm_lt, own_newm_lt, mp_newm_lt, rd_wr_ne, own_wr_ne, mp_wr_ne, rd_wrm_ne, own_wrm_ne, mp_wrm_ne, rd_new_eq, own_new_eq, mp_newm_eq]
  · refine ⟨f2, .inr ⟨fun out' h' e' => ?_, rfl⟩⟩
    rcases hnx with ⟨h1, h2⟩ | ⟨s, h1, _⟩
    · exact absurd e' (stuckT hf hin heq hz1 h2 out' h')
    · omega
  obtain ⟨s, rfl, hs, hp⟩ : ∃ s : Nat, next = (s : Int) ∧ s < ws.length ∧ (ws.getD s []).map bt <+: rest := by
    rcases hnx with ⟨h1, _⟩ | h1
    · omega
    · exact h1
  have hwx := words_at hs
  have hgl := getD_le hl s
  have hne : 0 < (ws.getD s []).length := List.length_pos_iff.2 (hf.ne _ (List.mem_of_getElem? (of_lt hs)))
  obtain ⟨rest', hr'⟩ := hp
  have hrl : rest.length = (ws.getD s []).length + rest'.length := by rw [← hr', List.length_append, List.length_map]
  refine pushS (B := H.size) hb f2.size s2 (s : Int) (by rw [List.length_map]; omega) fun w' H' b' hb' s' e' => ?_
  simp (disch := (first | omega | (simp only [size_new, size_newm, size_wr, size_wrm] <;> omega) | fail)) only [go_sem, Nat.reduceBEq, Nat.reduceAdd, Nat.reduceMul, Nat.reduceLeDiff, ↓reduceIte, rd_new_lt, own_new_lt, mp_new_lt, rd_newm_lt, own_newm_lt, mp_newm_lt, rd_wr_ne, own_wr_ne, mp_wr_ne, rd_wrm_ne, own_wrm_ne, mp_wrm_ne, rd_new_eq, own_new_eq, mp_newm_eq]
  have f4 : Fresh H H' := f2.then e' (fun z hz => by omega)
  have hw4 := f4.own hw (fun h => h)
  refine ⟨⟨by omega, by omega⟩, ?_⟩
  simp (disch := (first | omega | (simp only [size_new, size_newm, size_wr, size_wrm] <;> omega) | fail)) only [go_sem, Nat.reduceBEq, Nat.reduceAdd, Nat.reduceMul, Nat.reduceLeDiff, ↓reduceIte, rd_new_lt, own_new_lt, mp_new_lt, rd_newm_lt, own_newm_lt, mp_newm_lt, rd_wr_ne, own_wr_ne, mp_wr_ne, rd_wrm_ne, own_wrm_ne, mp_wrm_ne, rd_new_eq, own_new_eq, mp_newm_eq, rd_of_own hw4, Int.toNat_natCast, Nat.mul_one, Nat.zero_add, hwx]
  rw [size_str, size_str, List.length_map, ext_str]
  refine ⟨⟨by omega, by omega, by omega⟩, ?_⟩
  simp (disch := (first | omega | (simp only [size_new, size_newm, size_wr, size_wrm] <;> omega) | fail)) only [go_sem, Nat.reduceBEq, Nat.reduceAdd, Nat.reduceMul, Nat.reduceLeDiff, ↓reduceIte, rd_new_lt, own_new_lt, mp_new_lt, rd_newm_lt, own_newm_lt, mp_newm_lt, rd_wr_ne, own_wr_ne, mp_wr_ne, rd_wrm_ne, own_wrm_ne, mp_wrm_ne, rd_new_eq, own_new_eq, mp_newm_eq]
  have hdr : (rest.take rest.length).drop (ws.getD s []).length = rest' := by
    rw [List.take_length, ← hr', List.drop_left' (by simp)]
  rw [hdr]
  refine ⟨rest'.length, by omega, rest', out ++ [s], w', b', rfl, f4, hin.snoc hs, ?_, hb', ?_, by simp; omega, rfl⟩
  · rw [bitsOf_snoc, List.map_append, List.append_assoc, hr', heq]
  · have e2 : natI (out ++ [s]) = natI out ++ [(s : Int)] := by simp [natI]
    rw [e2]
    exact s'

end Go.Proofs.Ytbnaicgmnadkgaa

/-
  Slices of bytes: whether something holds of one of them, whether two are alike; are they bits: the program's way.
-/
set_option linter.unusedVariables false
set_option linter.unusedSimpArgs false
namespace Go.Proofs.Ytbnaicgmnadkgaa
open Go Go.Vc

set_option maxHeartbeats 1000000 in
theorem IndexFuncB_spec {H : Hp} {a : Option Addr} {c : Nat} {xs : List Nat} (f : FuncId) (q : Nat → Bool) (h1 : RdS H 1 (.slice a xs.length c) xs.length (u8s xs)) (hcal : callable Try.prog f = true)
    (hf : ∀ x, x ∈ xs → CallH Try.prog f [.int .u8 (x : Int)] H fun v H'' => Post (v = .bool (q x) ∧ H'' = H)) (hm : xs.length ≤ 1000000000) :
    CallH Try.prog n_slices_IndexFunc_byte_byte [.slice a xs.length c, .func (.func f) #[] #[]] H fun v H' => Post (∃ i : Int, v = i64 i ∧ (0 ≤ i ↔ xs.any q = true) ∧ H' = H) := by
  refine c_slices_IndexFunc_byte_byte ⟨rfl, ?_⟩
  simp (disch := (first | omega | (simp only [size_new, size_newm, size_wr, size_wrm] <;> omega) | fail)) only [go_sem, Nat.reduceBEq, Nat.reduceAdd, Nat.reduceMul, Nat.reduceLeDiff, ↓reduceIte, rd_new_lt, own_new_lt, mp_new_lt, rd_newm_lt, own_newm_lt, mp_newm_lt, rd_wr_ne, own_wr_ne, mp_wr_ne, rd_wrm_ne, own_wrm_ne, mp_wrm_ne, rd_new_eq, own_new_eq, mp_newm_eq, s_slices_IndexFunc_byte_byte]
  refine LoopV.intro (fun m env H' => H' = H ∧ ∃ j : Nat, m = xs.length - j ∧ j ≤ xs.length ∧ (∀ e ∈ xs.take j, q e = false) ∧ env = [(0, .slice a xs.length c), (1, .func (.func f) #[] #[]), (7, i64 xs.length), (8, i64 j)]) xs.length ⟨rfl, 0, by omega, by omega, by simp, rfl⟩ ?_
  rintro m env H1 ⟨rfl, j, hmj, hj, hall, rfl⟩
  simp (disch := (first | omega | (simp only [size_new, size_newm, size_wr, size_wrm] <;> omega) | fail)) only [go_sem, Nat.reduceBEq, Nat.reduceAdd, Nat.reduceMul, Nat.reduceLeDiff, ↓reduceIte, rd_new_lt, own_new_lt, mp_new_lt, rd_newm_lt, own_newm_lt, mp_newm_lt, rd_wr_ne, own_wr_ne, mp_wr_ne, rd_wrm_ne, own_wrm_ne, mp_wrm_ne, rd_new_eq, own_new_eq, mp_newm_eq]
  refine Both.dec (fun hlt => ?_) (fun hlt => ?_) <;> simp (disch := (first | omega | (simp only [size_new, size_newm, size_wr, size_wrm] <;> omega) | fail)) only [go_sem, Nat.reduceBEq, Nat.reduceAdd, Nat.reduceMul, Nat.reduceLeDiff, ↓reduceIte, rd_new_lt, own_new_lt, mp_new_lt, rd_newm_lt, own_newm_lt, mp_newm_lt, rd_wr_ne, own_wr_ne, mp_wr_ne, rd_wrm_ne, own_wrm_ne, mp_wrm_ne, rd_new_eq, own_new_eq, mp_newm_eq]
  · have hj2 : j < xs.length := by omega
    obtain ⟨e, he⟩ : ∃ e, xs[j]? = some e := ⟨_, List.getElem?_eq_getElem hj2⟩
    obtain ⟨_, b, o, lb, rfl, hrd2, hcell⟩ := RdS.byte h1 he
    refine ⟨⟨by omega, by omega⟩, ?_⟩
    have hmem := List.mem_of_getElem? he
    simp (disch := (first | omega | (simp only [size_new, size_newm, size_wr, size_wrm] <;> omega) | fail)) only [go_sem, Nat.reduceBEq, Nat.reduceAdd, Nat.reduceMul, Nat.reduceLeDiff, ↓reduceIte, rd_new_lt, own_new_lt, mp_new_lt, rd_newm_lt, own_newm_lt, mp_newm_lt, rd_wr_ne, own_wr_ne, mp_wr_ne, rd_wrm_ne, own_wrm_ne, mp_wrm_ne, rd_new_eq, own_new_eq, mp_newm_eq, hrd2, Int.toNat_natCast, Nat.mul_one, hcell]
    refine ⟨hcal, ?_⟩
    refine CallH.mono (by simpa using hf e hmem) ?_
    rintro _ H2 ⟨rfl, rfl⟩
    simp (disch := (first | omega | (simp only [size_new, size_newm, size_wr, size_wrm] <;> omega) | fail)) only [go_sem, Nat.reduceBEq, Nat.reduceAdd, Nat.reduceMul, Nat.reduceLeDiff, ↓reduceIte, rd_new_lt, own_new_lt, mp_new_lt, rd_newm_lt, own_newm_lt, mp_newm_lt, rd_wr_ne, own_wr_ne, mp_wr_ne, rd_wrm_ne, own_wrm_ne, mp_wrm_ne, rd_new_eq, own_new_eq, mp_newm_eq]
    cases hx : q e
    · simp (disch := (first | omega | (simp only [size_new, size_newm, size_wr, size_wrm] <;> omega) | fail)) only [go_sem, Nat.reduceBEq, Nat.reduceAdd, Nat.reduceMul, Nat.reduceLeDiff, ↓reduceIte, rd_new_lt, own_new_lt, mp_new_lt, rd_newm_lt, own_newm_lt, mp_newm_lt, rd_wr_ne, own_wr_ne, mp_wr_ne, rd_wrm_ne, own_wrm_ne, mp_wrm_ne, rd_new_eq, own_new_eq, mp_newm_eq]
      rw [wrap64 (n := (j : Int) + 1) (by omega) (by omega)]
      refine ⟨xs.length - (j + 1), by omega, trivial, j + 1, rfl, by omega, ?_, rfl⟩
      intro e' he'
      rw [List.take_add_one, he] at he'
      rcases List.mem_append.1 he' with he' | he'
      · exact hall e' he'
      · have : e' = e := by simpa using he'
        rw [this]; exact hx
    · simp (disch := (first | omega | (simp only [size_new, size_newm, size_wr, size_wrm] <;> omega) | fail)) only [go_sem, Nat.reduceBEq, Nat.reduceAdd, Nat.reduceMul, Nat.reduceLeDiff, ↓reduceIte, rd_new_lt, own_new_lt, mp_new_lt, rd_newm_lt, own_newm_lt, mp_newm_lt, rd_wr_ne, own_wr_ne, mp_wr_ne, rd_wrm_ne, own_wrm_ne, mp_wrm_ne, rd_new_eq, own_new_eq, mp_newm_eq]
      exact ⟨j, rfl, ⟨fun _ => List.any_eq_true.2 ⟨e, hmem, hx⟩, fun _ => by omega⟩, rfl⟩
  · refine ⟨-1, rfl, ?_, rfl⟩
    have hj2 : j = xs.length := by omega
    subst hj2
    rw [List.take_length] at hall
    have : xs.any q = false := List.any_eq_false.2 fun e he => by rw [hall e he]; simp
    rw [this]
    simp

theorem ContainsFuncB_spec {H : Hp} {a : Option Addr} {c : Nat} {xs : List Nat} (f : FuncId) (q : Nat → Bool) (h1 : RdS H 1 (.slice a xs.length c) xs.length (u8s xs)) (hcal : callable Try.prog f = true)
    (hf : ∀ x, x ∈ xs → CallH Try.prog f [.int .u8 (x : Int)] H fun v H'' => Post (v = .bool (q x) ∧ H'' = H)) (hm : xs.length ≤ 1000000000) :
    CallH Try.prog n_slices_ContainsFunc_byte_byte [.slice a xs.length c, .func (.func f) #[] #[]] H fun v H' => Post (v = .bool (xs.any q) ∧ H' = H) := by
  refine c_slices_ContainsFunc_byte_byte ⟨rfl, ?_⟩
  simp (disch := (first | omega | (simp only [size_new, size_newm, size_wr, size_wrm] <;> omega) | fail)) only [go_sem, Nat.reduceBEq, Nat.reduceAdd, Nat.reduceMul, Nat.reduceLeDiff, ↓reduceIte, rd_new_lt, own_new_lt, mp_new_lt, rd_newm_lt, own_newm_lt, mp_newm_lt, rd_wr_ne, own_wr_ne, mp_wr_ne, rd_wrm_ne, own_wrm_ne, mp_wrm_ne, rd_new_eq, own_new_eq, mp_newm_eq, s_slices_ContainsFunc_byte_byte]
  refine (IndexFuncB_spec f q h1 hcal hf hm).mono ?_
  rintro _ H1 ⟨i, rfl, hi, rfl⟩
  simp (disch := (first | omega | (simp only [size_new, size_newm, size_wr, size_wrm] <;> omega) | fail)) only [go_sem, Nat.reduceBEq, Nat.reduceAdd, Nat.reduceMul, Nat.reduceLeDiff, ↓reduceIte, rd_new_lt, own_new_lt, mp_new_lt, rd_newm_lt, own_newm_lt, mp_newm_lt, rd_wr_ne, own_wr_ne, mp_wr_ne, rd_wrm_ne, own_wrm_ne, mp_wrm_ne, rd_new_eq, own_new_eq, mp_newm_eq]
  refine ⟨congrArg Value.bool ?_, rfl⟩
  cases hx : xs.any q
  · exact decide_eq_false fun h => by have := hi.1 h; rw [hx] at this; cases this
  · exact decide_eq_true (hi.2 hx)

set_option maxHeartbeats 1000000 in
theorem EqualB_spec {H : Hp} {a a' : Option Addr} {c c' : Nat} {xs ys : List Nat} (h1 : RdS H 1 (.slice a xs.length c) xs.length (u8s xs)) (h2 : RdS H 1 (.slice a' ys.length c') ys.length (u8s ys)) (hm : xs.length ≤ 1000000000) (hm2 : ys.length ≤ 1000000000) :
    CallH Try.prog n_slices_Equal_byte_byte [.slice a xs.length c, .slice a' ys.length c'] H fun v H' => Post (v = .bool (decide (xs = ys)) ∧ H' = H) := by
  refine c_slices_Equal_byte_byte ⟨rfl, ?_⟩
  simp (disch := (first | omega | (simp only [size_new, size_newm, size_wr, size_wrm] <;> omega) | fail)) only [go_sem, Nat.reduceBEq, Nat.reduceAdd, Nat.reduceMul, Nat.reduceLeDiff, ↓reduceIte, rd_new_lt, own_new_lt, mp_new_lt, rd_newm_lt, own_newm_lt, mp_newm_lt, rd_wr_ne, own_wr_ne, mp_wr_ne, rd_wrm_ne, own_wrm_ne, mp_wrm_ne, rd_new_eq, own_new_eq, mp_newm_eq, s_slices_Equal_byte_byte]
  refine Both.dec (fun hlen => ?_) (fun hlen => ?_) <;> simp (disch := (first | omega | (simp only [size_new, size_newm, size_wr, size_wrm] <;> omega) | fail)) only [go_sem, Nat.reduceBEq, Nat.reduceAdd, Nat.reduceMul, Nat.reduceLeDiff, ↓reduceIte, rd_new_lt, own_new_lt, mp_new_lt, rd_newm_lt, own_newm_lt, mp_newm_lt, rd_wr_ne, own_wr_ne, mp_wr_ne, rd_wrm_ne, own_wrm_ne, mp_wrm_ne, rd_new_eq, own_new_eq, mp_newm_eq]
  rotate_left
  · exact ⟨congrArg Value.bool (decide_eq_false (fun e => hlen (by rw [e]))).symm, rfl⟩
  have hlen : xs.length = ys.length := by omega
  refine LoopV.intro (fun m env H' => H' = H ∧ ∃ j : Nat, m = xs.length - j ∧ j ≤ xs.length ∧ xs.take j = ys.take j ∧ env = [(0, .slice a xs.length c), (1, .slice a' ys.length c'), (12, i64 xs.length), (13, i64 j)]) xs.length ⟨rfl, 0, by omega, by omega, rfl, rfl⟩ ?_
  rintro m env H1 ⟨rfl, j, hmj, hj, htk, rfl⟩
  simp (disch := (first | omega | (simp only [size_new, size_newm, size_wr, size_wrm] <;> omega) | fail)) only [go_sem, Nat.reduceBEq, Nat.reduceAdd, Nat.reduceMul, Nat.reduceLeDiff, ↓reduceIte, rd_new_lt, own_new_lt, mp_new_lt, rd_newm_lt, own_newm_lt, mp_newm_lt, rd_wr_ne, own_wr_ne, mp_wr_ne, rd_wrm_ne, own_wrm_ne, mp_wrm_ne, rd_new_eq, own_new_eq, mp_newm_eq]
  refine Both.dec (fun hlt => ?_) (fun hlt => ?_) <;> simp (disch := (first | omega | (simp only [size_new, size_newm, size_wr, size_wrm] <;> omega) | fail)) only [go_sem, Nat.reduceBEq, Nat.reduceAdd, Nat.reduceMul, Nat.reduceLeDiff, ↓reduceIte, rd_new_lt, own_new_lt, mp_new_lt, rd_newm_lt, own_newm_lt, mp_newm_lt, rd_wr_ne, own_wr_ne, mp_wr_ne, rd_wrm_ne, own_wrm_ne, mp_wrm_ne, rd_new_eq, own_new_eq, mp_newm_eq]
  · obtain ⟨e, he⟩ : ∃ e, xs[j]? = some e := ⟨_, List.getElem?_eq_getElem (by omega)⟩
    obtain ⟨e', he'⟩ : ∃ e, ys[j]? = some e := ⟨_, List.getElem?_eq_getElem (by omega)⟩
    obtain ⟨_, b, o, lb, rfl, hrd, hcell⟩ := RdS.byte h1 he
    obtain ⟨_, b', o', lb', rfl, hrd', hcell'⟩ := RdS.byte h2 he'
    refine ⟨⟨by omega, by omega⟩, ?_⟩
    simp (disch := (first | omega | (simp only [size_new, size_newm, size_wr, size_wrm] <;> omega) | fail)) only [go_sem, Nat.reduceBEq, Nat.reduceAdd, Nat.reduceMul, Nat.reduceLeDiff, ↓reduceIte, rd_new_lt, own_new_lt, mp_new_lt, rd_newm_lt, own_newm_lt, mp_newm_lt, rd_wr_ne, own_wr_ne, mp_wr_ne, rd_wrm_ne, own_wrm_ne, mp_wrm_ne, rd_new_eq, own_new_eq, mp_newm_eq, hrd, Int.toNat_natCast, Nat.mul_one, hcell]
    refine ⟨⟨by omega, by omega⟩, ?_⟩
    simp (disch := (first | omega | (simp only [size_new, size_newm, size_wr, size_wrm] <;> omega) | fail)) only [go_sem, Nat.reduceBEq, Nat.reduceAdd, Nat.reduceMul, Nat.reduceLeDiff, ↓reduceIte, rd_new_lt, own_new_lt, mp_new_lt, rd_newm_lt, own_newm_lt, mp_newm_lt, rd_wr_ne, own_wr_ne, mp_wr_ne, rd_wrm_ne, own_wrm_ne, mp_wrm_ne, rd_new_eq, own_new_eq, mp_newm_eq, hrd', Int.toNat_natCast, Nat.mul_one, hcell']
    refine Both.dec (fun hn => ?_) (fun hn => ?_) <;> simp (disch := (first | omega | (simp only [size_new, size_newm, size_wr, size_wrm] <;> omega) | fail)) only [go_sem, Nat.reduceBEq, Nat.reduceAdd, Nat.reduceMul, Nat.reduceLeDiff, ↓reduceIte, rd_new_lt, own_new_lt, mp_new_lt, rd_newm_lt, own_newm_lt, mp_newm_lt, rd_wr_ne, own_wr_ne, mp_wr_ne, rd_wrm_ne, own_wrm_ne, mp_wrm_ne, rd_new_eq, own_new_eq, mp_newm_eq]
    · rw [wrap64 (n := (j : Int) + 1) (by omega) (by omega)]
      refine ⟨xs.length - (j + 1), by omega, trivial, j + 1, rfl, by omega, ?_, rfl⟩
      rw [List.take_add_one, List.take_add_one, htk, he, he', show e = e' by omega]
    · refine ⟨congrArg Value.bool (decide_eq_false (fun h => hn ?_)).symm, rfl⟩
      rw [h, he'] at he
      injection he with he
      rw [he]
  · have hj2 : j = xs.length := by omega
    subst hj2
    rw [List.take_length, hlen, List.take_length] at htk
    exact ⟨congrArg Value.bool (decide_eq_true htk).symm, rfl⟩

theorem code_right_1_spec (H : Hp) (x : Nat) : CallH Try.prog n_code_right_1 [.int .u8 (x : Int)] H fun v H' => Post (v = .bool (!decide (x = 48) && !decide (x = 49)) ∧ H' = H) := by
  refine c_code_right_1 ⟨rfl, ?_⟩
  simp (disch := (first | omega | (simp only [size_new, size_newm, size_wr, size_wrm] <;> omega) | fail)) only [go_sem, Nat.reduceBEq, Nat.reduceAdd, Nat.reduceMul, Nat.reduceLeDiff, ↓reduceIte, rd_new_lt, own_new_lt, mp_new_lt, rd_newm_lt, own_newm_lt, mp_newm_lt, rd_wr_ne, own_wr_ne, mp_wr_ne, rd_wrm_ne, own_wrm_ne, mp_wrm_ne, rd_new_eq, own_new_eq, mp_newm_eq, s_code_right_1]
  refine Both.dec (fun h => ?_) (fun h => ?_) <;> simp (disch := (first | omega | (simp only [size_new, size_newm, size_wr, size_wrm] <;> omega) | fail)) only [go_sem, Nat.reduceBEq, Nat.reduceAdd, Nat.reduceMul, Nat.reduceLeDiff, ↓reduceIte, rd_new_lt, own_new_lt, mp_new_lt, rd_newm_lt, own_newm_lt, mp_newm_lt, rd_wr_ne, own_wr_ne, mp_wr_ne, rd_wrm_ne, own_wrm_ne, mp_wrm_ne, rd_new_eq, own_new_eq, mp_newm_eq]
  · rw [decide_eq_true (show x = 48 by omega)]
    exact ⟨rfl, rfl⟩
  · rw [decide_eq_false (show ¬ x = 48 by omega)]
    refine ⟨congrArg Value.bool ?_, rfl⟩
    simp
    omega

theorem bytes_u8s (l : List UInt8) : ((⟨l.toArray⟩ : ByteArray).data.toList.map fun b => Value.int .u8 b.toNat) = u8s (l.map UInt8.toNat) := by
  unfold u8s
  simp only [List.map_map]
  rfl

theorem all_isBit (l : List UInt8) : (!(l.map UInt8.toNat).any fun x => !decide (x = 48) && !decide (x = 49)) = l.all isBit := by
  rw [List.any_map]
  induction l with
  | nil => rfl
  | cons c l ih =>
    rw [List.any_cons, List.all_cons, ← ih, Bool.not_or]
    congr 1
    unfold isBit
    have e1 : decide (c.toNat = 48) = decide (c = 48) := by rw [decide_eq_decide]; exact ⟨fun h => UInt8.toNat_inj.1 h, fun h => by rw [h]; rfl⟩
    have e2 : decide (c.toNat = 49) = decide (c = 49) := by rw [decide_eq_decide]; exact ⟨fun h => UInt8.toNat_inj.1 h, fun h => by rw [h]; rfl⟩
    simp only [Function.comp_apply, e1, e2]
    simp

/-- Are they bits? -/
theorem code_right_spec (H : Hp) {bits : List UInt8} (hl : bits.length ≤ 1000000000) :
    CallH Try.prog n_code_right [strV bits] H fun v H' => Post (v = .bool (decide (bits.length ≤ 1048576) && bits.all isBit) ∧ Fresh H H') := by
  refine c_code_right ⟨rfl, ?_⟩
  simp (disch := (first | omega | (simp only [size_new, size_newm, size_wr, size_wrm] <;> omega) | fail)) only [go_sem, Nat.reduceBEq, Nat.reduceAdd, Nat.reduceMul, Nat.reduceLeDiff, ↓reduceIte, rd_new_lt, own_new_lt, mp_new_lt, rd_newm_lt, own_newm_lt, mp_newm_lt, rd_wr_ne, own_wr_ne, mp_wr_ne, rd_wrm_ne, own_wrm_ne, mp_wrm_ne, rd_new_eq, own_new_eq, mp_newm_eq, s_code_right]
  rw [size_str]
  refine Both.dec (fun h => ?_) (fun h => ?_) <;> simp (disch := (first | omega | (simp only [size_new, size_newm, size_wr, size_wrm] <;> omega) | fail)) only [go_sem, Nat.reduceBEq, Nat.reduceAdd, Nat.reduceMul, Nat.reduceLeDiff, ↓reduceIte, rd_new_lt, own_new_lt, mp_new_lt, rd_newm_lt, own_newm_lt, mp_newm_lt, rd_wr_ne, own_wr_ne, mp_wr_ne, rd_wrm_ne, own_wrm_ne, mp_wrm_ne, rd_new_eq, own_new_eq, mp_newm_eq]
  rotate_left
  · rw [decide_eq_false (show ¬ bits.length ≤ 1048576 by omega)]
    exact ⟨rfl, Ext.refl _ _⟩
  intro cc hcc
  rw [size_str] at hcc
  rw [size_str, bytes_u8s]
  have e1 : Fresh H (H.newk 5 (u8s (bits.map UInt8.toNat) ++ List.replicate (cc - bits.length) (.int .u8 0))) := (Ext.refl _ _).newk _ _
  have r1 : RdS (H.newk 5 (u8s (bits.map UInt8.toNat) ++ List.replicate (cc - bits.length) (.int .u8 0))) 1 (.slice (some ⟨H.size, 0, none⟩) (bits.map UInt8.toNat).length cc) (bits.map UInt8.toNat).length (u8s (bits.map UInt8.toNat)) :=
    ⟨by simp [u8s_len], .inr ⟨H.size, 0, cc, _, rfl, rd_of_mrk (mrk_newk _ _ _), by simp [u8s_len], by rw [List.drop_zero, Nat.mul_one]; exact List.take_left' (by rw [u8s_len])⟩⟩
  have hll : (bits.map UInt8.toNat).length = bits.length := List.length_map ..
  rw [hll] at r1
  generalize H.newk 5 (u8s (bits.map UInt8.toNat) ++ List.replicate (cc - bits.length) (.int .u8 0)) = H1 at *
  simp (disch := (first | omega | (simp only [size_new, size_newm, size_wr, size_wrm] <;> omega) | fail)) only [go_sem, Nat.reduceBEq, Nat.reduceAdd, Nat.reduceMul, Nat.reduceLeDiff, ↓reduceIte, rd_new_lt, own_new_lt, mp_new_lt, rd_newm_lt, own_newm_lt, mp_newm_lt, rd_wr_ne, own_wr_ne, mp_wr_ne, rd_wrm_ne, own_wrm_ne, mp_wrm_ne, rd_new_eq, own_new_eq, mp_newm_eq]
  have hcb := ContainsFuncB_spec (H := H1) (a := some ⟨H.size, 0, none⟩) (c := cc) (xs := bits.map UInt8.toNat) n_code_right_1 _ (by rw [hll]; exact r1) (by kernel_rfl) (fun x _ => code_right_1_spec H1 x) (by omega)
  rw [hll] at hcb
  refine hcb.mono ?_
  rintro _ _ ⟨rfl, rfl⟩
  simp (disch := (first | omega | (simp only [size_new, size_newm, size_wr, size_wrm] <;> omega) | fail)) only [go_sem, Nat.reduceBEq, Nat.reduceAdd, Nat.reduceMul, Nat.reduceLeDiff, ↓reduceIte, rd_new_lt, own_new_lt, mp_new_lt, rd_newm_lt, own_newm_lt, mp_newm_lt, rd_wr_ne, own_wr_ne, mp_wr_ne, rd_wrm_ne, own_wrm_ne, mp_wrm_ne, rd_new_eq, own_new_eq, mp_newm_eq]
  rw [all_isBit, decide_eq_true (show bits.length ≤ 1048576 by omega)]
  exact ⟨rfl, e1⟩

end Go.Proofs.Ytbnaicgmnadkgaa

/-
  Bits as bytes: the document's way.
-/
set_option linter.unusedVariables false
set_option linter.unusedSimpArgs false
namespace Go.Proofs.Ytbnaicgmnadkgaa
open Go Go.Vc

theorem bits_of {bits : List UInt8} (h : bits.all isBit = true) : ∃ w : List Bool, bits = w.map bt := by
  refine ⟨bits.map fun c => decide (c = 49), ?_⟩
  rw [List.map_map]
  symm
  refine (List.map_congr_left fun c hc => ?_).trans (List.map_id _)
  have := List.all_eq_true.1 h c hc
  unfold isBit at this
  simp only [Bool.or_eq_true, decide_eq_true_eq] at this
  simp only [Function.comp_apply, id_eq]
  rcases this with rfl | rfl <;> rfl
theorem all_bits (w : List Bool) : (w.map bt).all isBit = true := by
  rw [List.all_eq_true]
  intro c hc
  obtain ⟨b, _, rfl⟩ := List.mem_map.1 hc
  cases b <;> decide

/-- What comes of bits as bytes, or the error. -/
def PackR (bits : List UInt8) (H' : Hp) (v : Value) : Prop :=
  (¬ (bits.all isBit = true ∧ bits.length ≤ 1048576) ∧ v = .tuple [.slice none 0 0, i64 201].toArray) ∨
  ∃ w a c, bits = w.map bt ∧ w.length ≤ 1048576 ∧ v = .tuple [.slice a (packL w).length c, i64 0].toArray ∧ RdS H' 1 (.slice a (packL w).length c) (packL w).length (u8s (packL w))

theorem fullB_at {w : List Bool} {i : Nat} (h : i < w.length) : (fullB w)[i]? = w[i]? := List.getElem?_append_left h
theorem fullB_far {w : List Bool} {i : Nat} (h : w.length ≤ i) (h2 : i < (fullB w).length) : (fullB w)[i]? = some false := by
  rw [fullB_len] at h2
  unfold fullB
  rw [List.getElem?_append_right h, List.getElem?_replicate, if_pos (by omega)]
theorem valB_take {f : List Bool} {s k : Nat} {b : Bool} (h : f[s + k]? = some b) : valB ((f.drop s).take (k + 1)) = 2 * valB ((f.drop s).take k) + b.toNat := by
  rw [List.take_add_one, List.getElem?_drop, h]
  exact valB_snoc _ _
theorem valB_take_lt (f : List Bool) (s k : Nat) (hk : k ≤ 8) : valB ((f.drop s).take k) < 256 := valB_8 (by rw [List.length_take]; omega)

theorem Sl.byte {H : Hp} {w : Value} {ns : List Nat} {b : Nat} (s : Sl H 1 w ns.length (u8s ns) (some b)) : ∃ lb c, w = .slice (some ⟨b, 0, none⟩) ns.length c ∧ H.own b = some lb ∧ ∀ (i x : Nat), ns[i]? = some x → lb[i]? = some (Value.int .u8 (x : Int)) := by
  obtain ⟨_, l, c, h1, h2, h3, h4, h5⟩ := s
  refine ⟨l, c, h1, h2, fun i x hx => ?_⟩
  have h7 : (u8s ns)[i]? = some (Value.int .u8 (x : Int)) := by unfold u8s; rw [List.getElem?_map, hx]; rfl
  rw [← h5, List.getElem?_take] at h7
  split at h7
  · exact h7
  · cases h7

set_option maxRecDepth 100000 in
set_option maxHeartbeats 4000000 in
theorem ref27_Pack_spec {H : Hp} {bits : List UInt8} (hl : bits.length ≤ 1000000000) :
    CallH Try.prog n_ref27_Pack [strV bits] H fun v H' => Post (Fresh H H' ∧ PackR bits H' v) := by
  refine c_ref27_Pack ⟨rfl, ?_⟩
  simp (disch := (first | omega | (simp only [size_new, size_newm, size_wr, size_wrm] <;> omega) | fail)) only [go_sem, Nat.reduceBEq, Nat.reduceAdd, Nat.reduceMul, Nat.reduceLeDiff, ↓reduceIte, rd_new_lt, own_new_lt, mp_new_lt, rd_newm_lt, own_newm_lt, mp_newm_lt, rd_wr_ne, own_wr_ne, mp_wr_ne, rd_wrm_ne, own_wrm_ne, mp_wrm_ne, rd_new_eq, own_new_eq, mp_newm_eq, s_ref27_Pack]
  refine (ref27_Bits_spec H bits hl).mono ?_
  rintro _ _ ⟨rfl, rfl⟩
  simp (disch := (first | omega | (simp only [size_new, size_newm, size_wr, size_wrm] <;> omega) | fail)) only [go_sem, Nat.reduceBEq, Nat.reduceAdd, Nat.reduceMul, Nat.reduceLeDiff, ↓reduceIte, rd_new_lt, own_new_lt, mp_new_lt, rd_newm_lt, own_newm_lt, mp_newm_lt, rd_wr_ne, own_wr_ne, mp_wr_ne, rd_wrm_ne, own_wrm_ne, mp_wrm_ne, rd_new_eq, own_new_eq, mp_newm_eq]
  by_cases hb : bits.all isBit = true ∧ bits.length ≤ 1048576
  rotate_left
  · have e : (bits.all isBit && decide (bits.length ≤ 1048576)) = false := by
      rw [← Bool.not_eq_true, Bool.and_eq_true, decide_eq_true_eq]
      exact hb
    refine Both.of_false e ?_
    simp (disch := (first | omega | (simp only [size_new, size_newm, size_wr, size_wrm] <;> omega) | fail)) only [go_sem, Nat.reduceBEq, Nat.reduceAdd, Nat.reduceMul, Nat.reduceLeDiff, ↓reduceIte, rd_new_lt, own_new_lt, mp_new_lt, rd_newm_lt, own_newm_lt, mp_newm_lt, rd_wr_ne, own_wr_ne, mp_wr_ne, rd_wrm_ne, own_wrm_ne, mp_wrm_ne, rd_new_eq, own_new_eq, mp_newm_eq]
    exact ⟨Ext.refl _ _, .inl ⟨hb, rfl⟩⟩
  have e : (bits.all isBit && decide (bits.length ≤ 1048576)) = true := by
    rw [Bool.and_eq_true, decide_eq_true_eq]
    exact hb
  refine Both.of_true e ?_
  obtain ⟨hb1, hb2⟩ := hb
  obtain ⟨w, rfl⟩ := bits_of hb1
  rw [List.length_map] at hb2
  simp (disch := (first | omega | (simp only [size_new, size_newm, size_wr, size_wrm] <;> omega) | fail)) only [go_sem, Nat.reduceBEq, Nat.reduceAdd, Nat.reduceMul, Nat.reduceLeDiff, ↓reduceIte, rd_new_lt, own_new_lt, mp_new_lt, rd_newm_lt, own_newm_lt, mp_newm_lt, rd_wr_ne, own_wr_ne, mp_wr_ne, rd_wrm_ne, own_wrm_ne, mp_wrm_ne, rd_new_eq, own_new_eq, mp_newm_eq]
  have f0 : Fresh H (H.new 5 [.int .u8 0]) := (Ext.refl _ _).new _ _
  have s0 : Sl (H.new 5 [.int .u8 0]) 1 (.slice (some ⟨H.size, 0, none⟩) 1 1) 1 (u8s [0]) (some H.size) := Sl.lit_at (size := 1) (n := 1) (xs := u8s [0]) rfl rfl
  have hfm := fullB_mod w
  generalize H.new 5 [.int .u8 0] = H1 at *
  refine LoopV.intro (fun m env H' => ∃ (j : Nat) (wv : Value) (b : Nat), m = (w.length + 7) / 8 - j ∧ j ≤ (w.length + 7) / 8 ∧ Fresh H H' ∧ H.size ≤ b ∧ Sl H' 1 wv ((8 * j - w.length) :: (bytesOf (fullB w)).take j).length (u8s ((8 * j - w.length) :: (bytesOf (fullB w)).take j)) (some b) ∧
    env = [(0, strB w), (4, wv), (5, i64 ((8 * j : Nat) : Int))]) _ ⟨0, _, _, rfl, by omega, f0, Nat.le_refl _, by rw [List.take_zero, show 8 * 0 - w.length = 0 by omega]; exact s0, rfl⟩ ?_
  clear s0 f0
  rintro m env H2 ⟨j, wv, b, hm, hj, f2, hbb, s2, rfl⟩
  have hbl := bytesOf_len (fullB w)
  simp (disch := (first | omega | (simp only [size_new, size_newm, size_wr, size_wrm] <;> omega) | fail)) only [go_sem, Nat.reduceBEq, Nat.reduceAdd, Nat.reduceMul, Nat.reduceLeDiff, ↓reduceIte, rd_new_lt, own_new_lt, mp_new_lt, rd_newm_lt, own_newm_lt, mp_newm_lt, rd_wr_ne, own_wr_ne, mp_wr_ne, rd_wrm_ne, own_wrm_ne, mp_wrm_ne, rd_new_eq, own_new_eq, mp_newm_eq]
  rw [size_str, List.length_map]
  refine Both.dec (fun hlt => ?_) (fun hlt => ?_) <;> simp (disch := (first | omega | (simp only [size_new, size_newm, size_wr, size_wrm] <;> omega) | fail)) only [go_sem, Nat.reduceBEq, Nat.reduceAdd, Nat.reduceMul, Nat.reduceLeDiff, ↓reduceIte, rd_new_lt, own_new_lt, mp_new_lt, rd_newm_lt, own_newm_lt, mp_newm_lt, rd_wr_ne, own_wr_ne, mp_wr_ne, rd_wrm_ne, own_wrm_ne, mp_wrm_ne, rd_new_eq, own_new_eq, mp_newm_eq]
  rotate_left
  · have hj2 : j = (w.length + 7) / 8 := by omega
    have e1 : (8 * j - w.length) :: (bytesOf (fullB w)).take j = packL w := by
      unfold packL
      rw [List.take_of_length_le (by omega)]
      congr 1
      unfold moreN
      omega
    rw [e1] at s2
    obtain ⟨lb, c, rfl, _⟩ := Sl.byte s2
    exact ⟨f2, .inr ⟨w, _, c, rfl, hb2, rfl, s2.rd⟩⟩
  refine LoopV.intro (fun m env H' => ∃ (k : Nat) (wv : Value) (b : Nat), m = 8 - k ∧ k ≤ 8 ∧ Fresh H H' ∧ H.size ≤ b ∧ Sl H' 1 wv ((8 * j + k - w.length) :: (bytesOf (fullB w)).take j).length (u8s ((8 * j + k - w.length) :: (bytesOf (fullB w)).take j)) (some b) ∧
    env = [(0, strB w), (4, wv), (5, i64 ((8 * j : Nat) : Int)), (6, i64 (valB (((fullB w).drop (8 * j)).take k) : Nat)), (7, i64 ((8 * j + k : Nat) : Int))]) _ ⟨0, _, _, rfl, by omega, f2, hbb, by rw [Nat.add_zero]; exact s2, by rw [Nat.add_zero]; rfl⟩ ?_
  clear s2 f2 hbb
  rintro m env H3 ⟨k, wv, b, hm3, hk, f3, hbb, s3, rfl⟩
  have hv := valB_take_lt (fullB w) (8 * j) k hk
  simp (disch := (first | omega | (simp only [size_new, size_newm, size_wr, size_wrm] <;> omega) | fail)) only [go_sem, Nat.reduceBEq, Nat.reduceAdd, Nat.reduceMul, Nat.reduceLeDiff, ↓reduceIte, rd_new_lt, own_new_lt, mp_new_lt, rd_newm_lt, own_newm_lt, mp_newm_lt, rd_wr_ne, own_wr_ne, mp_wr_ne, rd_wrm_ne, own_wrm_ne, mp_wrm_ne, rd_new_eq, own_new_eq, mp_newm_eq]
  rw [wrap64 (n := ((8 * j : Nat) : Int) + 8) (by omega) (by omega)]
  refine Both.dec (fun hlt3 => ?_) (fun hlt3 => ?_) <;> simp (disch := (first | omega | (simp only [size_new, size_newm, size_wr, size_wrm] <;> omega) | fail)) only [go_sem, Nat.reduceBEq, Nat.reduceAdd, Nat.reduceMul, Nat.reduceLeDiff, ↓reduceIte, rd_new_lt, own_new_lt, mp_new_lt, rd_newm_lt, own_newm_lt, mp_newm_lt, rd_wr_ne, own_wr_ne, mp_wr_ne, rd_wrm_ne, own_wrm_ne, mp_wrm_ne, rd_new_eq, own_new_eq, mp_newm_eq]
  rotate_left
  · have hk8 : k = 8 := by omega
    subst hk8
    have hz3 := f3.size
    have ef : Fresh H3 (H3.new 5 [.int .u8 ((valB (((fullB w).drop (8 * j)).take 8) : Nat) : Int)]) := (Ext.refl _ _).new _ _
    rw [wrapU8 (by omega) (by omega)]
    refine pushB (B := H.size) hbb hz3 s3 _ (by simp; omega) fun w' H' b' hb' s' e' => ?_
    simp (disch := (first | omega | (simp only [size_new, size_newm, size_wr, size_wrm] <;> omega) | fail)) only [go_sem, Nat.reduceBEq, Nat.reduceAdd, Nat.reduceMul, Nat.reduceLeDiff, ↓reduceIte, rd_new_lt, own_new_lt, mp_new_lt, rd_newm_lt, own_newm_lt, mp_newm_lt, rd_wr_ne, own_wr_ne, mp_wr_ne, rd_wrm_ne, own_wrm_ne, mp_wrm_ne, rd_new_eq, own_new_eq, mp_newm_eq]
    rw [wrap64 (n := ((8 * j : Nat) : Int) + 8) (by omega) (by omega)]
    refine ⟨(w.length + 7) / 8 - (j + 1), by omega, j + 1, w', b', rfl, by omega, f3.then e' (fun z hz => hz), hb', ?_, by rw [show ((8 * j : Nat) : Int) + 8 = ((8 * (j + 1) : Nat) : Int) by omega]⟩
    have e1 : (8 * (j + 1) - w.length) :: (bytesOf (fullB w)).take (j + 1) = ((8 * j + 8 - w.length) :: (bytesOf (fullB w)).take j) ++ [valB (((fullB w).drop (8 * j)).take 8)] := by
      rw [List.take_add_one, bytesOf_at (by omega), List.cons_append]
      rfl
    rw [← e1] at s'
    exact s'
  -- One bit more.
  rw [wrap64 (n := ((valB (((fullB w).drop (8 * j)).take k) : Nat) : Int) * 2) (by omega) (by omega)]
  rw [size_str, List.length_map]
  have hi : 8 * j + k < (fullB w).length := by omega
  refine Both.dec (fun hin => ?_) (fun hin => ?_) <;> simp (disch := (first | omega | (simp only [size_new, size_newm, size_wr, size_wrm] <;> omega) | fail)) only [go_sem, Nat.reduceBEq, Nat.reduceAdd, Nat.reduceMul, Nat.reduceLeDiff, ↓reduceIte, rd_new_lt, own_new_lt, mp_new_lt, rd_newm_lt, own_newm_lt, mp_newm_lt, rd_wr_ne, own_wr_ne, mp_wr_ne, rd_wrm_ne, own_wrm_ne, mp_wrm_ne, rd_new_eq, own_new_eq, mp_newm_eq]
  · obtain ⟨x, hx⟩ : ∃ x, w[8 * j + k]? = some x := ⟨_, List.getElem?_eq_getElem (by omega)⟩
    have hfx : (fullB w)[8 * j + k]? = some x := by rw [fullB_at (by omega)]; exact hx
    have hgx : (⟨(w.map bt).toArray⟩ : ByteArray)[8 * j + k]? = some (bt x) := by rw [get_str, List.getElem?_map, hx]; rfl
    have hvt := valB_take hfx
    refine ⟨by omega, ?_⟩
    simp (disch := (first | omega | (simp only [size_new, size_newm, size_wr, size_wrm] <;> omega) | fail)) only [go_sem, Nat.reduceBEq, Nat.reduceAdd, Nat.reduceMul, Nat.reduceLeDiff, ↓reduceIte, rd_new_lt, own_new_lt, mp_new_lt, rd_newm_lt, own_newm_lt, mp_newm_lt, rd_wr_ne, own_wr_ne, mp_wr_ne, rd_wrm_ne, own_wrm_ne, mp_wrm_ne, rd_new_eq, own_new_eq, mp_newm_eq, Int.toNat_natCast, hgx]
    have fin : ∀ c : Int, c = ((valB (((fullB w).drop (8 * j)).take (k + 1)) : Nat) : Int) → ∃ m', m' < m ∧ ∃ (k' : Nat) (wv' : Value) (b' : Nat), m' = 8 - k' ∧ k' ≤ 8 ∧ Fresh H H3 ∧ H.size ≤ b' ∧ Sl H3 1 wv' ((8 * j + k' - w.length) :: (bytesOf (fullB w)).take j).length (u8s ((8 * j + k' - w.length) :: (bytesOf (fullB w)).take j)) (some b') ∧
      [(0, strB w), (4, wv), (5, i64 ((8 * j : Nat) : Int)), (6, i64 c), (7, i64 (((8 * j + k : Nat) : Int) + 1))] = [(0, strB w), (4, wv'), (5, i64 ((8 * j : Nat) : Int)), (6, i64 (valB (((fullB w).drop (8 * j)).take k') : Nat)), (7, i64 ((8 * j + k' : Nat) : Int))] := by
      rintro c rfl
      refine ⟨8 - (k + 1), by omega, k + 1, wv, b, rfl, by omega, f3, hbb, ?_, by rw [show ((8 * j + k : Nat) : Int) + 1 = ((8 * j + (k + 1) : Nat) : Int) by omega]⟩
      rw [show 8 * j + (k + 1) - w.length = 8 * j + k - w.length by omega]
      exact s3
    refine Both.dec (fun hx1 => ?_) (fun hx1 => ?_) <;> simp (disch := (first | omega | (simp only [size_new, size_newm, size_wr, size_wrm] <;> omega) | fail)) only [go_sem, Nat.reduceBEq, Nat.reduceAdd, Nat.reduceMul, Nat.reduceLeDiff, ↓reduceIte, rd_new_lt, own_new_lt, mp_new_lt, rd_newm_lt, own_newm_lt, mp_newm_lt, rd_wr_ne, own_wr_ne, mp_wr_ne, rd_wrm_ne, own_wrm_ne, mp_wrm_ne, rd_new_eq, own_new_eq, mp_newm_eq]
    · have hxt : x = true := by cases x; · exact absurd hx1 (by decide)
                                · rfl
      subst hxt
      rw [wrap64 (by omega) (by omega)]
      rw [size_str, List.length_map]
      refine Both.dec (fun hge => absurd hge (by omega)) (fun _ => ?_)
      simp (disch := (first | omega | (simp only [size_new, size_newm, size_wr, size_wrm] <;> omega) | fail)) only [go_sem, Nat.reduceBEq, Nat.reduceAdd, Nat.reduceMul, Nat.reduceLeDiff, ↓reduceIte, rd_new_lt, own_new_lt, mp_new_lt, rd_newm_lt, own_newm_lt, mp_newm_lt, rd_wr_ne, own_wr_ne, mp_wr_ne, rd_wrm_ne, own_wrm_ne, mp_wrm_ne, rd_new_eq, own_new_eq, mp_newm_eq]
      rw [wrap64 (n := ((8 * j + k : Nat) : Int) + 1) (by omega) (by omega)]
      refine fin _ ?_
      rw [hvt]
      have : true.toNat = 1 := rfl
      omega
    · have hxt : x = false := by cases x; · rfl
                                 · exact absurd rfl hx1
      subst hxt
      rw [size_str, List.length_map]
      refine Both.dec (fun hge => absurd hge (by omega)) (fun _ => ?_)
      simp (disch := (first | omega | (simp only [size_new, size_newm, size_wr, size_wrm] <;> omega) | fail)) only [go_sem, Nat.reduceBEq, Nat.reduceAdd, Nat.reduceMul, Nat.reduceLeDiff, ↓reduceIte, rd_new_lt, own_new_lt, mp_new_lt, rd_newm_lt, own_newm_lt, mp_newm_lt, rd_wr_ne, own_wr_ne, mp_wr_ne, rd_wrm_ne, own_wrm_ne, mp_wrm_ne, rd_new_eq, own_new_eq, mp_newm_eq]
      rw [wrap64 (n := ((8 * j + k : Nat) : Int) + 1) (by omega) (by omega)]
      refine fin _ ?_
      rw [hvt]
      have : false.toNat = 0 := rfl
      omega
  · have hfx : (fullB w)[8 * j + k]? = some false := fullB_far (by omega) hi
    have hvt := valB_take hfx
    rw [size_str, List.length_map]
    refine Both.dec (fun hge => ?_) (fun hge => absurd (show _ from by omega) hge)
    obtain ⟨lb, c, rfl, hlb, hget⟩ := Sl.byte s3
    have hg0 := hget 0 _ rfl
    simp (disch := (first | omega | (simp only [size_new, size_newm, size_wr, size_wrm] <;> omega) | fail)) only [go_sem, Nat.reduceBEq, Nat.reduceAdd, Nat.reduceMul, Nat.reduceLeDiff, ↓reduceIte, rd_new_lt, own_new_lt, mp_new_lt, rd_newm_lt, own_newm_lt, mp_newm_lt, rd_wr_ne, own_wr_ne, mp_wr_ne, rd_wrm_ne, own_wrm_ne, mp_wrm_ne, rd_new_eq, own_new_eq, mp_newm_eq]
    refine ⟨⟨by omega, by omega⟩, ?_⟩
    simp (disch := (first | omega | (simp only [size_new, size_newm, size_wr, size_wrm] <;> omega) | fail)) only [go_sem, Nat.reduceBEq, Nat.reduceAdd, Nat.reduceMul, Nat.reduceLeDiff, ↓reduceIte, rd_new_lt, own_new_lt, mp_new_lt, rd_newm_lt, own_newm_lt, mp_newm_lt, rd_wr_ne, own_wr_ne, mp_wr_ne, rd_wrm_ne, own_wrm_ne, mp_wrm_ne, rd_new_eq, own_new_eq, mp_newm_eq, hlb, rd_of_own hlb, Int.toNat_natCast, Nat.zero_add, Nat.mul_one, hg0, Int.toNat_zero]
    refine ⟨⟨by omega, by omega⟩, ?_⟩
    simp (disch := (first | omega | (simp only [size_new, size_newm, size_wr, size_wrm] <;> omega) | fail)) only [go_sem, Nat.reduceBEq, Nat.reduceAdd, Nat.reduceMul, Nat.reduceLeDiff, ↓reduceIte, rd_new_lt, own_new_lt, mp_new_lt, rd_newm_lt, own_newm_lt, mp_newm_lt, rd_wr_ne, own_wr_ne, mp_wr_ne, rd_wrm_ne, own_wrm_ne, mp_wrm_ne, rd_new_eq, own_new_eq, mp_newm_eq, hlb, orO_some, Int.toNat_natCast, Nat.zero_add, Nat.mul_one, hg0, Int.toNat_zero]
    have hlb0 : 0 < lb.length := (List.getElem?_eq_some_iff.1 hg0).1
    refine ⟨by omega, ?_⟩
    rw [wrapU8 (n := ((8 * j + k - w.length : Nat) : Int) + 1) (by omega) (by omega)]
    have s4 := Sl.set1 s3 hlb 0 (.int .u8 (((8 * j + k - w.length : Nat) : Int) + 1))
    have f4 : Fresh H (H3.wr b (lb.set 0 (.int .u8 (((8 * j + k - w.length : Nat) : Int) + 1)))) := f3.then ((Ext.refl (fun z => z = b) _).wr (fun _ => rfl) _) (fun z hz => by omega)
    simp (disch := (first | omega | (simp only [size_new, size_newm, size_wr, size_wrm] <;> omega) | fail)) only [go_sem, Nat.reduceBEq, Nat.reduceAdd, Nat.reduceMul, Nat.reduceLeDiff, ↓reduceIte, rd_new_lt, own_new_lt, mp_new_lt, rd_newm_lt, own_newm_lt, mp_newm_lt, rd_wr_ne, own_wr_ne, mp_wr_ne, rd_wrm_ne, own_wrm_ne, mp_wrm_ne, rd_new_eq, own_new_eq, mp_newm_eq]
    rw [wrap64 (n := ((8 * j + k : Nat) : Int) + 1) (by omega) (by omega)]
    have hf0 : false.toNat = 0 := rfl
    refine ⟨8 - (k + 1), by omega, k + 1, .slice (some ⟨b, 0, none⟩) (((bytesOf (fullB w)).take j).length + 1) c, b, rfl, by omega, f4, hbb, ?_, ?_⟩
    rotate_left
    · rw [hvt, hf0, show ((8 * j + k : Nat) : Int) + 1 = ((8 * j + (k + 1) : Nat) : Int) by omega, show ((valB (((fullB w).drop (8 * j)).take k) : Nat) : Int) * 2 = ((2 * valB (((fullB w).drop (8 * j)).take k) + 0 : Nat) : Int) by omega]
    · have e1 : (u8s ((8 * j + k - w.length) :: (bytesOf (fullB w)).take j)).set 0 (.int .u8 (((8 * j + k - w.length : Nat) : Int) + 1)) = u8s ((8 * j + (k + 1) - w.length) :: (bytesOf (fullB w)).take j) := by
        rw [show 8 * j + (k + 1) - w.length = 8 * j + k - w.length + 1 by omega]
        rfl
      rw [e1] at s4
      exact s4

end Go.Proofs.Ytbnaicgmnadkgaa

/-
  The package code: how many words, a word, bits as symbols: the program's way.
-/
set_option linter.unusedVariables false
set_option linter.unusedSimpArgs false
namespace Go.Proofs.Ytbnaicgmnadkgaa
open Go Go.Vc

/-- A code: its words, none the beginning of another one; its tree. -/
structure CodeW (H : Hp) (x : Nat) (S : Nat → Prop) (ws : List (List Bool)) : Prop where
  rep : ∃ wb tb tr pth, CodeM H x wb tb ws tr ∧ TrieW tr pth ws ∧ S x ∧ S wb ∧ S tb ∧ tr.length ≤ 1000000000
  slt : ∀ z, S z → z < H.size
  free : FreeW ws
  len : ws.length ≤ 1000000
  short : ∀ w ∈ ws, w.length ≤ 1000

theorem CodeW.ext {H H' : Hp} {x : Nat} {S T : Nat → Prop} {ws : List (List Bool)} (h : CodeW H x S ws) (e : Ext T H H') (hd : ∀ z, S z → ¬ T z) : CodeW H' x S ws := by
  obtain ⟨⟨wb, tb, tr, pth, m, t, s1, s2, s3, hl⟩, h2, h3, h4, h5⟩ := h
  exact ⟨⟨wb, tb, tr, pth, m.ext e (hd _ s1) (hd _ s2) (hd _ s3), t, s1, s2, s3, hl⟩, fun z hz => Nat.lt_of_lt_of_le (h2 z hz) e.size, h3, h4, h5⟩
theorem CodeW.fresh {H H' : Hp} {x : Nat} {S : Nat → Prop} {ws : List (List Bool)} (h : CodeW H x S ws) (e : Fresh H H') : CodeW H' x S ws := h.ext e fun _ _ h => h

def wordA (ws : List (List Bool)) (s : Int) : List Bool := if s < 0 then [] else ws.getD s.toNat []

theorem code_Len_spec {H : Hp} {x : Nat} {S : Nat → Prop} {ws : List (List Bool)} (h : CodeW H x S ws) : CallH Try.prog n_code_Code_Len [ptr x] H fun v H' => Post (v = i64 ws.length ∧ H' = H) := by
  obtain ⟨wb, tb, tr, pth, m, _⟩ := h.rep
  obtain ⟨tv, h1, h2⟩ := m.rep
  refine c_code_Code_Len ⟨rfl, ?_⟩
  simp (disch := (first | omega | (simp only [size_new, size_newm, size_wr, size_wrm] <;> omega) | fail)) only [go_sem, Nat.reduceBEq, Nat.reduceAdd, Nat.reduceMul, Nat.reduceLeDiff, ↓reduceIte, rd_new_lt, own_new_lt, mp_new_lt, rd_newm_lt, own_newm_lt, mp_newm_lt, rd_wr_ne, own_wr_ne, mp_wr_ne, rd_wrm_ne, own_wrm_ne, mp_wrm_ne, rd_new_eq, own_new_eq, mp_newm_eq, s_code_Code_Len, rd_of_own h1]
  exact ⟨rfl, rfl⟩

theorem code_Word_spec {H : Hp} {x : Nat} {S : Nat → Prop} {ws : List (List Bool)} (h : CodeW H x S ws) (s : Int) : CallH Try.prog n_code_Code_Word [ptr x, i64 s] H fun v H' => Post (v = strB (wordA ws s) ∧ H' = H) := by
  obtain ⟨wb, tb, tr, pth, m, _⟩ := h.rep
  obtain ⟨tv, h1, h2⟩ := m.rep
  refine c_code_Code_Word ⟨rfl, ?_⟩
  simp (disch := (first | omega | (simp only [size_new, size_newm, size_wr, size_wrm] <;> omega) | fail)) only [go_sem, Nat.reduceBEq, Nat.reduceAdd, Nat.reduceMul, Nat.reduceLeDiff, ↓reduceIte, rd_new_lt, own_new_lt, mp_new_lt, rd_newm_lt, own_newm_lt, mp_newm_lt, rd_wr_ne, own_wr_ne, mp_wr_ne, rd_wrm_ne, own_wrm_ne, mp_wrm_ne, rd_new_eq, own_new_eq, mp_newm_eq, s_code_Code_Word]
  refine Both.dec (fun g => ?_) (fun g => ?_) <;> simp (disch := (first | omega | (simp only [size_new, size_newm, size_wr, size_wrm] <;> omega) | fail)) only [go_sem, Nat.reduceBEq, Nat.reduceAdd, Nat.reduceMul, Nat.reduceLeDiff, ↓reduceIte, rd_new_lt, own_new_lt, mp_new_lt, rd_newm_lt, own_newm_lt, mp_newm_lt, rd_wr_ne, own_wr_ne, mp_wr_ne, rd_wrm_ne, own_wrm_ne, mp_wrm_ne, rd_new_eq, own_new_eq, mp_newm_eq]
  · unfold wordA
    rw [if_pos g]
    exact ⟨rfl, rfl⟩
  simp (disch := (first | omega | (simp only [size_new, size_newm, size_wr, size_wrm] <;> omega) | fail)) only [go_sem, Nat.reduceBEq, Nat.reduceAdd, Nat.reduceMul, Nat.reduceLeDiff, ↓reduceIte, rd_new_lt, own_new_lt, mp_new_lt, rd_newm_lt, own_newm_lt, mp_newm_lt, rd_wr_ne, own_wr_ne, mp_wr_ne, rd_wrm_ne, own_wrm_ne, mp_wrm_ne, rd_new_eq, own_new_eq, mp_newm_eq, rd_of_own h1]
  refine Both.dec (fun g2 => ?_) (fun g2 => ?_) <;> simp (disch := (first | omega | (simp only [size_new, size_newm, size_wr, size_wrm] <;> omega) | fail)) only [go_sem, Nat.reduceBEq, Nat.reduceAdd, Nat.reduceMul, Nat.reduceLeDiff, ↓reduceIte, rd_new_lt, own_new_lt, mp_new_lt, rd_newm_lt, own_newm_lt, mp_newm_lt, rd_wr_ne, own_wr_ne, mp_wr_ne, rd_wrm_ne, own_wrm_ne, mp_wrm_ne, rd_new_eq, own_new_eq, mp_newm_eq]
  · unfold wordA
    rw [if_neg g, List.getD_eq_getElem?_getD, List.getElem?_eq_none (by omega)]
    exact ⟨rfl, rfl⟩
  simp (disch := (first | omega | (simp only [size_new, size_newm, size_wr, size_wrm] <;> omega) | fail)) only [go_sem, Nat.reduceBEq, Nat.reduceAdd, Nat.reduceMul, Nat.reduceLeDiff, ↓reduceIte, rd_new_lt, own_new_lt, mp_new_lt, rd_newm_lt, own_newm_lt, mp_newm_lt, rd_wr_ne, own_wr_ne, mp_wr_ne, rd_wrm_ne, own_wrm_ne, mp_wrm_ne, rd_new_eq, own_new_eq, mp_newm_eq, rd_of_own h1]
  have hwx := words_at (ws := ws) (s := s.toNat) (by omega)
  refine ⟨⟨by omega, by omega⟩, ?_⟩
  simp (disch := (first | omega | (simp only [size_new, size_newm, size_wr, size_wrm] <;> omega) | fail)) only [go_sem, Nat.reduceBEq, Nat.reduceAdd, Nat.reduceMul, Nat.reduceLeDiff, ↓reduceIte, rd_new_lt, own_new_lt, mp_new_lt, rd_newm_lt, own_newm_lt, mp_newm_lt, rd_wr_ne, own_wr_ne, mp_wr_ne, rd_wrm_ne, own_wrm_ne, mp_wrm_ne, rd_new_eq, own_new_eq, mp_newm_eq, rd_of_own m.words, Nat.zero_add, Nat.mul_one, hwx]
  unfold wordA
  rw [if_neg g]
  exact ⟨rfl, rfl⟩

theorem bits_cells (w : List Bool) : u8s ((w.map bt).map UInt8.toNat) = w.map bv := by
  unfold u8s
  simp only [List.map_map]
  rfl

set_option maxRecDepth 100000 in
set_option maxHeartbeats 4000000 in
theorem code_Decode_spec {H : Hp} {x : Nat} {S : Nat → Prop} {ws : List (List Bool)} (h : CodeW H x S ws) {bits : List UInt8} (hl : bits.length ≤ 1000000000) :
    CallH Try.prog n_code_Code_Decode [ptr x, strV bits] H fun v H' => Post (Fresh H H' ∧ DecP ws bits H' v) := by
  refine c_code_Code_Decode ⟨rfl, ?_⟩
  simp (disch := (first | omega | (simp only [size_new, size_newm, size_wr, size_wrm] <;> omega) | fail)) only [go_sem, Nat.reduceBEq, Nat.reduceAdd, Nat.reduceMul, Nat.reduceLeDiff, ↓reduceIte, rd_new_lt, own_new_lt, mp_new_lt, rd_newm_lt, own_newm_lt, mp_newm_lt, rd_wr_ne, own_wr_ne, mp_wr_ne, rd_wrm_ne, own_wrm_ne, mp_wrm_ne, rd_new_eq, own_new_eq, mp_newm_eq, s_code_Code_Decode]
  refine (code_right_spec H hl).mono ?_
  rintro _ H1 ⟨rfl, f1⟩
  simp (disch := (first | omega | (simp only [size_new, size_newm, size_wr, size_wrm] <;> omega) | fail)) only [go_sem, Nat.reduceBEq, Nat.reduceAdd, Nat.reduceMul, Nat.reduceLeDiff, ↓reduceIte, rd_new_lt, own_new_lt, mp_new_lt, rd_newm_lt, own_newm_lt, mp_newm_lt, rd_wr_ne, own_wr_ne, mp_wr_ne, rd_wrm_ne, own_wrm_ne, mp_wrm_ne, rd_new_eq, own_new_eq, mp_newm_eq]
  by_cases hb : bits.all isBit = true ∧ bits.length ≤ 1048576
  rotate_left
  · have e : (decide (bits.length ≤ 1048576) && bits.all isBit) = false := by
      rw [← Bool.not_eq_true, Bool.and_eq_true, decide_eq_true_eq]
      exact fun h => hb ⟨h.2, h.1⟩
    refine Both.of_false e ?_
    simp (disch := (first | omega | (simp only [size_new, size_newm, size_wr, size_wrm] <;> omega) | fail)) only [go_sem, Nat.reduceBEq, Nat.reduceAdd, Nat.reduceMul, Nat.reduceLeDiff, ↓reduceIte, rd_new_lt, own_new_lt, mp_new_lt, rd_newm_lt, own_newm_lt, mp_newm_lt, rd_wr_ne, own_wr_ne, mp_wr_ne, rd_wrm_ne, own_wrm_ne, mp_wrm_ne, rd_new_eq, own_new_eq, mp_newm_eq]
    refine ⟨f1, .inr ⟨fun out _ e => ?_, rfl⟩⟩
    apply Classical.byContradiction
    intro hle
    exact hb ⟨by rw [← e]; exact all_bits _, by omega⟩
  have e : (decide (bits.length ≤ 1048576) && bits.all isBit) = true := by
    rw [Bool.and_eq_true, decide_eq_true_eq]
    exact ⟨hb.2, hb.1⟩
  refine Both.of_true e ?_
  obtain ⟨hb1, hb2⟩ := hb
  obtain ⟨w, rfl⟩ := bits_of hb1
  rw [List.length_map] at hb2
  simp (disch := (first | omega | (simp only [size_new, size_newm, size_wr, size_wrm] <;> omega) | fail)) only [go_sem, Nat.reduceBEq, Nat.reduceAdd, Nat.reduceMul, Nat.reduceLeDiff, ↓reduceIte, rd_new_lt, own_new_lt, mp_new_lt, rd_newm_lt, own_newm_lt, mp_newm_lt, rd_wr_ne, own_wr_ne, mp_wr_ne, rd_wrm_ne, own_wrm_ne, mp_wrm_ne, rd_new_eq, own_new_eq, mp_newm_eq]
  intro cc hcc
  rw [size_str, List.length_map] at hcc ⊢
  rw [bytes_bits]
  have e1 : Fresh H1 (H1.newk 5 (w.map bv ++ List.replicate (cc - w.length) (.int .u8 0))) := (Ext.refl _ _).newk _ _
  have r1 : RdS (H1.newk 5 (w.map bv ++ List.replicate (cc - w.length) (.int .u8 0))) 1 (.slice (some ⟨H1.size, 0, none⟩) w.length cc) w.length (w.map bv) :=
    ⟨by simp, .inr ⟨H1.size, 0, cc, _, rfl, rd_of_mrk (mrk_newk _ _ _), by simp, by simp⟩⟩
  generalize H1.newk 5 (w.map bv ++ List.replicate (cc - w.length) (.int .u8 0)) = H2 at *
  have h2 := (h.fresh f1).fresh e1
  have f2 := f1.trans e1
  have z1 := f1.size
  have z2 := e1.size
  obtain ⟨wb, tb, tr, pth, m2, t2, s1, s2, s3, htl⟩ := id h2.rep
  have hfree := h.free
  simp (disch := (first | omega | (simp only [size_new, size_newm, size_wr, size_wrm] <;> omega) | fail)) only [go_sem, Nat.reduceBEq, Nat.reduceAdd, Nat.reduceMul, Nat.reduceLeDiff, ↓reduceIte, rd_new_lt, own_new_lt, mp_new_lt, rd_newm_lt, own_newm_lt, mp_newm_lt, rd_wr_ne, own_wr_ne, mp_wr_ne, rd_wrm_ne, own_wrm_ne, mp_wrm_ne, rd_new_eq, own_new_eq, mp_newm_eq]
  refine LoopV.intro (fun m env H' => ∃ (j at_ : Nat) (out : List Nat) (cur : List Bool) (wv : Value) (fp : Option Nat), m = w.length - j ∧ j ≤ w.length ∧ Fresh H H' ∧ RdB pth ws out cur at_ ∧ w.take j = bitsOf ws out ++ cur ∧ out.length ≤ j ∧
    (∀ b, fp = some b → H2.size ≤ b) ∧ Sl H' 1 wv (natI out).length ((natI out).map i64) fp ∧ Ext (fun z => H2.size ≤ z) H2 H' ∧
    env = [(0, ptr x), (6, wv), (7, i64 at_), (15, .slice (some ⟨H1.size, 0, none⟩) w.length cc), (16, i64 w.length), (17, i64 j)]) w.length
    ⟨0, 0, [], [], _, none, by omega, by omega, f2, RdB.begin t2 hfree, by rw [List.take_zero]; rfl, by simp, (fun b h => by cases h), Sl.nil _ _, Ext.refl _ _, rfl⟩ ?_
  rintro m env H3 ⟨j, at_, out, cur, wv, fp, rfl, hj, f3, rb, htk, hol, hfp, s5, e3, rfl⟩
  have z3 := e3.size
  have m3 := m2.ext e3 (fun hz => by have := h2.slt _ s1; omega) (fun hz => by have := h2.slt _ s2; omega) (fun hz => by have := h2.slt _ s3; omega)
  have r3 := r1.ext e3 (fun b hb hz => by omega)
  simp (disch := (first | omega | (simp only [size_new, size_newm, size_wr, size_wrm] <;> omega) | fail)) only [go_sem, Nat.reduceBEq, Nat.reduceAdd, Nat.reduceMul, Nat.reduceLeDiff, ↓reduceIte, rd_new_lt, own_new_lt, mp_new_lt, rd_newm_lt, own_newm_lt, mp_newm_lt, rd_wr_ne, own_wr_ne, mp_wr_ne, rd_wrm_ne, own_wrm_ne, mp_wrm_ne, rd_new_eq, own_new_eq, mp_newm_eq]
  refine Both.dec (fun hlt => ?_) (fun hlt => ?_) <;> simp (disch := (first | omega | (simp only [size_new, size_newm, size_wr, size_wrm] <;> omega) | fail)) only [go_sem, Nat.reduceBEq, Nat.reduceAdd, Nat.reduceMul, Nat.reduceLeDiff, ↓reduceIte, rd_new_lt, own_new_lt, mp_new_lt, rd_newm_lt, own_newm_lt, mp_newm_lt, rd_wr_ne, own_wr_ne, mp_wr_ne, rd_wrm_ne, own_wrm_ne, mp_wrm_ne, rd_new_eq, own_new_eq, mp_newm_eq]
  rotate_left
  · have hj2 : j = w.length := by omega
    subst hj2
    rw [List.take_length] at htk
    refine Both.dec (fun hz => ?_) (fun hz => ?_) <;> simp (disch := (first | omega | (simp only [size_new, size_newm, size_wr, size_wrm] <;> omega) | fail)) only [go_sem, Nat.reduceBEq, Nat.reduceAdd, Nat.reduceMul, Nat.reduceLeDiff, ↓reduceIte, rd_new_lt, own_new_lt, mp_new_lt, rd_newm_lt, own_newm_lt, mp_newm_lt, rd_wr_ne, own_wr_ne, mp_wr_ne, rd_wrm_ne, own_wrm_ne, mp_wrm_ne, rd_new_eq, own_new_eq, mp_newm_eq]
    · have ha0 : at_ = 0 := by omega
      subst ha0
      have hc0 := rb.whole t2
      rw [hc0, List.append_nil] at htk
      obtain ⟨a, c, rfl⟩ := rds_isS s5.rd
      have r5 := s5.rd
      rw [List.length_map] at r5
      refine ⟨f3, .inl ⟨out, rb.inw, by rw [htk], by rw [List.length_map]; exact hb2, a, c, ?_, r5⟩⟩
      rw [List.length_map]
      rfl
    · refine ⟨f3, .inr ⟨fun out' h' e' => ?_, rfl⟩⟩
      have hm := mapbt_inj e'
      exact absurd (by rw [hm, htk]) (rb.left t2 hfree (by omega) out' h')
  obtain ⟨c, l, p0, p1, p2, p3, p4⟩ := m3.tree
  obtain ⟨b, hbj⟩ : ∃ b, w[j]? = some b := ⟨_, List.getElem?_eq_getElem (by omega)⟩
  have hcell : (w.map bv)[j]? = some (bv b) := by rw [List.getElem?_map, hbj]; rfl
  obtain ⟨_, ⟨h0, _⟩ | ⟨b2, o2', c2', lb, hsl2, hrd, hle, hcells⟩⟩ := id r3
  · omega
  injection hsl2 with q1 q2 q3
  injection q1 with q1
  injection q1 with q1 q1' _
  subst q1; subst q1'; subst q3
  have hlb : lb[j]? = some (bv b) := by
    rw [List.drop_zero] at hcells
    exact take_get hcells hcell
  obtain ⟨y, hy⟩ := t2.at rb.path
  have hat := (List.getElem?_eq_some_iff.1 hy).1
  have hnx := take_get p4 (leaf_nx hy b)
  have hbt : (b.toNat : Int) < 2 := by cases b <;> decide
  have hbt0 : (0 : Int) ≤ (b.toNat : Int) := by omega
  have hll := flatL_len tr
  have htk2 : w.take (j + 1) = bitsOf ws out ++ (cur ++ [b]) := by rw [List.take_add_one, hbj, htk, List.append_assoc]; rfl
  refine ⟨⟨by omega, by omega⟩, ?_⟩
  simp (disch := (first | omega | (simp only [size_new, size_newm, size_wr, size_wrm] <;> omega) | fail)) only [go_sem, Nat.reduceBEq, Nat.reduceAdd, Nat.reduceMul, Nat.reduceLeDiff, ↓reduceIte, rd_new_lt, own_new_lt, mp_new_lt, rd_newm_lt, own_newm_lt, mp_newm_lt, rd_wr_ne, own_wr_ne, mp_wr_ne, rd_wrm_ne, own_wrm_ne, mp_wrm_ne, rd_new_eq, own_new_eq, mp_newm_eq, hrd, Int.toNat_natCast, Nat.zero_add, Nat.mul_one, hlb, rd_of_own p0]
  rw [bsub]
  refine ⟨⟨by omega, by omega⟩, ?_⟩
  simp (disch := (first | omega | (simp only [size_new, size_newm, size_wr, size_wrm] <;> omega) | fail)) only [go_sem, Nat.reduceBEq, Nat.reduceAdd, Nat.reduceMul, Nat.reduceLeDiff, ↓reduceIte, rd_new_lt, own_new_lt, mp_new_lt, rd_newm_lt, own_newm_lt, mp_newm_lt, rd_wr_ne, own_wr_ne, mp_wr_ne, rd_wrm_ne, own_wrm_ne, mp_wrm_ne, rd_new_eq, own_new_eq, mp_newm_eq, Int.toNat_natCast, Nat.zero_add, Nat.mul_one, Nat.add_zero]
  refine ⟨by omega, ?_⟩
  simp (disch := (first | omega | (simp only [size_new, size_newm, size_wr, size_wrm] <;> omega) | fail)) only [go_sem, Nat.reduceBEq, Nat.reduceAdd, Nat.reduceMul, Nat.reduceLeDiff, ↓reduceIte, rd_new_lt, own_new_lt, mp_new_lt, rd_newm_lt, own_newm_lt, mp_newm_lt, rd_wr_ne, own_wr_ne, mp_wr_ne, rd_wrm_ne, own_wrm_ne, mp_wrm_ne, rd_new_eq, own_new_eq, mp_newm_eq, rd_of_own p1, Int.toNat_natCast, Nat.zero_add, Nat.mul_one, Nat.add_zero, hnx]
  refine Both.dec (fun hz => ?_) (fun hz => ?_) <;> simp (disch := (first | omega | (simp only [size_new, size_newm, size_wr, size_wrm] <;> omega) | fail)) only [go_sem, Nat.reduceBEq, Nat.reduceAdd, Nat.reduceMul, Nat.reduceLeDiff, ↓reduceIte, rd_new_lt, own_new_lt, mp_new_lt, rd_newm_lt, own_newm_lt, mp_newm_lt, rd_wr_ne, own_wr_ne, mp_wr_ne, rd_wrm_ne, own_wrm_ne, mp_wrm_ne, rd_new_eq, own_new_eq, mp_newm_eq]
  · refine ⟨f3, .inr ⟨fun out' h' e' => ?_, rfl⟩⟩
    have hm := mapbt_inj e'
    refine absurd ?_ (rb.fail t2 hfree hy (c := b) (by omega) (w.drop (j + 1)) out' h')
    rw [hm, ← List.singleton_append, ← List.append_assoc cur, ← List.append_assoc, ← htk2, List.take_append_drop]
  obtain ⟨y2, hy2⟩ : ∃ y2, tr[y.nx b]? = some y2 := by
    obtain ⟨P, t, hP⟩ := t2.tree
    rcases t.nxt at_ y cur b hy rb.path with ⟨h1, _⟩ | ⟨_, h1⟩
    · omega
    · exact t2.at h1
  have hat2 := (List.getElem?_eq_some_iff.1 hy2).1
  have hsy := take_get p4 (leaf_at hy2).2.2
  simp (disch := (first | omega | (simp only [size_new, size_newm, size_wr, size_wrm] <;> omega) | fail)) only [go_sem, Nat.reduceBEq, Nat.reduceAdd, Nat.reduceMul, Nat.reduceLeDiff, ↓reduceIte, rd_new_lt, own_new_lt, mp_new_lt, rd_newm_lt, own_newm_lt, mp_newm_lt, rd_wr_ne, own_wr_ne, mp_wr_ne, rd_wrm_ne, own_wrm_ne, mp_wrm_ne, rd_new_eq, own_new_eq, mp_newm_eq, rd_of_own p0]
  refine ⟨⟨by omega, by omega⟩, ?_⟩
  simp (disch := (first | omega | (simp only [size_new, size_newm, size_wr, size_wrm] <;> omega) | fail)) only [go_sem, Nat.reduceBEq, Nat.reduceAdd, Nat.reduceMul, Nat.reduceLeDiff, ↓reduceIte, rd_new_lt, own_new_lt, mp_new_lt, rd_newm_lt, own_newm_lt, mp_newm_lt, rd_wr_ne, own_wr_ne, mp_wr_ne, rd_wrm_ne, own_wrm_ne, mp_wrm_ne, rd_new_eq, own_new_eq, mp_newm_eq, rd_of_own p1, Int.toNat_natCast, Nat.zero_add, Nat.mul_one, Nat.add_zero, hsy]
  rcases rb.go t2 hfree hy (c := b) (by omega) hy2 with ⟨hs1, rb2⟩ | ⟨s, hs1, hs2, rb2, hbo⟩
  · refine Both.dec (fun hge => absurd hge (by omega)) (fun _ => ?_)
    simp (disch := (first | omega | (simp only [size_new, size_newm, size_wr, size_wrm] <;> omega) | fail)) only [go_sem, Nat.reduceBEq, Nat.reduceAdd, Nat.reduceMul, Nat.reduceLeDiff, ↓reduceIte, rd_new_lt, own_new_lt, mp_new_lt, rd_newm_lt, own_newm_lt, mp_newm_lt, rd_wr_ne, own_wr_ne, mp_wr_ne, rd_wrm_ne, own_wrm_ne, mp_wrm_ne, rd_new_eq, own_new_eq, mp_newm_eq]
    rw [wrap64 (n := (j : Int) + 1) (by omega) (by omega)]
    exact ⟨w.length - (j + 1), by omega, j + 1, y.nx b, out, cur ++ [b], wv, fp, rfl, by omega, f3, rb2, htk2, by omega, hfp, s5, e3, rfl⟩
  · refine Both.dec (fun _ => ?_) (fun hge => absurd (by omega) hge)
    simp (disch := (first | omega | (simp only [size_new, size_newm, size_wr, size_wrm] <;> omega) | fail)) only [go_sem, Nat.reduceBEq, Nat.reduceAdd, Nat.reduceMul, Nat.reduceLeDiff, ↓reduceIte, rd_new_lt, own_new_lt, mp_new_lt, rd_newm_lt, own_newm_lt, mp_newm_lt, rd_wr_ne, own_wr_ne, mp_wr_ne, rd_wrm_ne, own_wrm_ne, mp_wrm_ne, rd_new_eq, own_new_eq, mp_newm_eq]
    rw [hs1]
    refine pushO (B := H2.size) hfp z3 s5 (s : Int) (by rw [List.length_map]; omega) fun w' H' fp' hfp' s' e' => ?_
    simp (disch := (first | omega | (simp only [size_new, size_newm, size_wr, size_wrm] <;> omega) | fail)) only [go_sem, Nat.reduceBEq, Nat.reduceAdd, Nat.reduceMul, Nat.reduceLeDiff, ↓reduceIte, rd_new_lt, own_new_lt, mp_new_lt, rd_newm_lt, own_newm_lt, mp_newm_lt, rd_wr_ne, own_wr_ne, mp_wr_ne, rd_wrm_ne, own_wrm_ne, mp_wrm_ne, rd_new_eq, own_new_eq, mp_newm_eq]
    rw [wrap64 (n := (j : Int) + 1) (by omega) (by omega)]
    refine ⟨w.length - (j + 1), by omega, j + 1, 0, out ++ [s], [], w', fp', rfl, by omega, f3.then e' (fun z hz => by omega), rb2, ?_, by simp; omega, hfp', ?_, e3.trans e', rfl⟩
    · rw [htk2, hbo, List.append_nil]
    · have e2 : natI (out ++ [s]) = natI out ++ [(s : Int)] := by simp [natI]
      rw [e2]
      exact s'

end Go.Proofs.Ytbnaicgmnadkgaa

/-
  slices.ContainsFunc of numbers, with whatever closure.
-/
set_option linter.unusedVariables false
set_option linter.unusedSimpArgs false
namespace Go.Proofs.Ytbnaicgmnadkgaa
open Go Go.Vc

set_option maxHeartbeats 1000000 in
theorem IndexFuncI_spec {H : Hp} {a : Option Addr} {c : Nat} {xs : List Int} (f : FuncId) (caps : List Value) (q : Int → Bool) (Inv : Hp → Prop) (hI : Inv H) (hrd : ∀ H', Inv H' → RdS H' 1 (.slice a xs.length c) xs.length (xs.map i64)) (hcal : callable Try.prog f = true)
    (hf : ∀ H' x, x ∈ xs → Inv H' → CallH Try.prog f (i64 x :: caps) H' fun v H'' => Post (v = .bool (q x) ∧ Inv H'')) (hm : xs.length ≤ 1000000000) :
    CallH Try.prog n_slices_IndexFunc_int_int [.slice a xs.length c, .func (.func f) #[] caps.toArray] H fun v H' => Post (∃ i : Int, v = i64 i ∧ (0 ≤ i ↔ xs.any q = true) ∧ Inv H') := by
  refine c_slices_IndexFunc_int_int ⟨rfl, ?_⟩
  simp (disch := (first | omega | (simp only [size_new, size_newm, size_wr, size_wrm] <;> omega) | fail)) only [go_sem, Nat.reduceBEq, Nat.reduceAdd, Nat.reduceMul, Nat.reduceLeDiff, ↓reduceIte, rd_new_lt, own_new_lt, mp_new_lt, rd_newm_lt, own_newm_lt, mp_newm_lt, rd_wr_ne, own_wr_ne, mp_wr_ne, rd_wrm_ne, own_wrm_ne, mp_wrm_ne, rd_new_eq, own_new_eq, mp_newm_eq, s_slices_IndexFunc_int_int]
  refine LoopV.intro (fun m env H' => Inv H' ∧ ∃ j : Nat, m = xs.length - j ∧ j ≤ xs.length ∧ (∀ e ∈ xs.take j, q e = false) ∧ env = [(0, .slice a xs.length c), (1, .func (.func f) #[] caps.toArray), (7, i64 xs.length), (8, i64 j)]) xs.length ⟨hI, 0, by omega, by omega, by simp, rfl⟩ ?_
  rintro m env H1 ⟨i1, j, hmj, hj, hall, rfl⟩
  have h1 := hrd H1 i1
  simp (disch := (first | omega | (simp only [size_new, size_newm, size_wr, size_wrm] <;> omega) | fail)) only [go_sem, Nat.reduceBEq, Nat.reduceAdd, Nat.reduceMul, Nat.reduceLeDiff, ↓reduceIte, rd_new_lt, own_new_lt, mp_new_lt, rd_newm_lt, own_newm_lt, mp_newm_lt, rd_wr_ne, own_wr_ne, mp_wr_ne, rd_wrm_ne, own_wrm_ne, mp_wrm_ne, rd_new_eq, own_new_eq, mp_newm_eq]
  refine Both.dec (fun hlt => ?_) (fun hlt => ?_) <;> simp (disch := (first | omega | (simp only [size_new, size_newm, size_wr, size_wrm] <;> omega) | fail)) only [go_sem, Nat.reduceBEq, Nat.reduceAdd, Nat.reduceMul, Nat.reduceLeDiff, ↓reduceIte, rd_new_lt, own_new_lt, mp_new_lt, rd_newm_lt, own_newm_lt, mp_newm_lt, rd_wr_ne, own_wr_ne, mp_wr_ne, rd_wrm_ne, own_wrm_ne, mp_wrm_ne, rd_new_eq, own_new_eq, mp_newm_eq]
  · have hj2 : j < xs.length := by omega
    obtain ⟨e, he⟩ : ∃ e, xs[j]? = some e := ⟨_, List.getElem?_eq_getElem hj2⟩
    obtain ⟨_, b, o, lb, rfl, hrd2, hcell⟩ := RdS.num h1 he
    refine ⟨⟨by omega, by omega⟩, ?_⟩
    have hmem := List.mem_of_getElem? he
    simp (disch := (first | omega | (simp only [size_new, size_newm, size_wr, size_wrm] <;> omega) | fail)) only [go_sem, Nat.reduceBEq, Nat.reduceAdd, Nat.reduceMul, Nat.reduceLeDiff, ↓reduceIte, rd_new_lt, own_new_lt, mp_new_lt, rd_newm_lt, own_newm_lt, mp_newm_lt, rd_wr_ne, own_wr_ne, mp_wr_ne, rd_wrm_ne, own_wrm_ne, mp_wrm_ne, rd_new_eq, own_new_eq, mp_newm_eq, hrd2, Int.toNat_natCast, Nat.mul_one, hcell]
    refine ⟨hcal, ?_⟩
    refine CallH.mono (by simpa using hf H1 e hmem i1) ?_
    rintro _ H2 ⟨rfl, i2⟩
    simp (disch := (first | omega | (simp only [size_new, size_newm, size_wr, size_wrm] <;> omega) | fail)) only [go_sem, Nat.reduceBEq, Nat.reduceAdd, Nat.reduceMul, Nat.reduceLeDiff, ↓reduceIte, rd_new_lt, own_new_lt, mp_new_lt, rd_newm_lt, own_newm_lt, mp_newm_lt, rd_wr_ne, own_wr_ne, mp_wr_ne, rd_wrm_ne, own_wrm_ne, mp_wrm_ne, rd_new_eq, own_new_eq, mp_newm_eq]
    cases hx : q e
    · simp (disch := (first | omega | (simp only [size_new, size_newm, size_wr, size_wrm] <;> omega) | fail)) only [go_sem, Nat.reduceBEq, Nat.reduceAdd, Nat.reduceMul, Nat.reduceLeDiff, ↓reduceIte, rd_new_lt, own_new_lt, mp_new_lt, rd_newm_lt, own_newm_lt, mp_newm_lt, rd_wr_ne, own_wr_ne, mp_wr_ne, rd_wrm_ne, own_wrm_ne, mp_wrm_ne, rd_new_eq, own_new_eq, mp_newm_eq]
      rw [wrap64 (n := (j : Int) + 1) (by omega) (by omega)]
      refine ⟨xs.length - (j + 1), by omega, i2, j + 1, rfl, by omega, ?_, rfl⟩
      intro e' he'
      rw [List.take_add_one, he] at he'
      rcases List.mem_append.1 he' with he' | he'
      · exact hall e' he'
      · have : e' = e := by simpa using he'
        rw [this]; exact hx
    · simp (disch := (first | omega | (simp only [size_new, size_newm, size_wr, size_wrm] <;> omega) | fail)) only [go_sem, Nat.reduceBEq, Nat.reduceAdd, Nat.reduceMul, Nat.reduceLeDiff, ↓reduceIte, rd_new_lt, own_new_lt, mp_new_lt, rd_newm_lt, own_newm_lt, mp_newm_lt, rd_wr_ne, own_wr_ne, mp_wr_ne, rd_wrm_ne, own_wrm_ne, mp_wrm_ne, rd_new_eq, own_new_eq, mp_newm_eq]
      exact ⟨j, rfl, ⟨fun _ => List.any_eq_true.2 ⟨e, hmem, hx⟩, fun _ => by omega⟩, i2⟩
  · refine ⟨-1, rfl, ?_, i1⟩
    have hj2 : j = xs.length := by omega
    subst hj2
    rw [List.take_length] at hall
    have : xs.any q = false := List.any_eq_false.2 fun e he => by rw [hall e he]; simp
    rw [this]
    simp

theorem ContainsFuncI_spec {H : Hp} {a : Option Addr} {c : Nat} {xs : List Int} (f : FuncId) (caps : List Value) (q : Int → Bool) (Inv : Hp → Prop) (hI : Inv H) (hrd : ∀ H', Inv H' → RdS H' 1 (.slice a xs.length c) xs.length (xs.map i64)) (hcal : callable Try.prog f = true)
    (hf : ∀ H' x, x ∈ xs → Inv H' → CallH Try.prog f (i64 x :: caps) H' fun v H'' => Post (v = .bool (q x) ∧ Inv H'')) (hm : xs.length ≤ 1000000000) :
    CallH Try.prog n_slices_ContainsFunc_int_int [.slice a xs.length c, .func (.func f) #[] caps.toArray] H fun v H' => Post (v = .bool (xs.any q) ∧ Inv H') := by
  refine c_slices_ContainsFunc_int_int ⟨rfl, ?_⟩
  simp (disch := (first | omega | (simp only [size_new, size_newm, size_wr, size_wrm] <;> omega) | fail)) only [go_sem, Nat.reduceBEq, Nat.reduceAdd, Nat.reduceMul, Nat.reduceLeDiff, ↓reduceIte, rd_new_lt, own_new_lt, mp_new_lt, rd_newm_lt, own_newm_lt, mp_newm_lt, rd_wr_ne, own_wr_ne, mp_wr_ne, rd_wrm_ne, own_wrm_ne, mp_wrm_ne, rd_new_eq, own_new_eq, mp_newm_eq, s_slices_ContainsFunc_int_int]
  refine (IndexFuncI_spec f caps q Inv hI hrd hcal hf hm).mono ?_
  rintro _ H1 ⟨i, rfl, hi, i1⟩
  simp (disch := (first | omega | (simp only [size_new, size_newm, size_wr, size_wrm] <;> omega) | fail)) only [go_sem, Nat.reduceBEq, Nat.reduceAdd, Nat.reduceMul, Nat.reduceLeDiff, ↓reduceIte, rd_new_lt, own_new_lt, mp_new_lt, rd_newm_lt, own_newm_lt, mp_newm_lt, rd_wr_ne, own_wr_ne, mp_wr_ne, rd_wrm_ne, own_wrm_ne, mp_wrm_ne, rd_new_eq, own_new_eq, mp_newm_eq]
  refine ⟨congrArg Value.bool ?_, i1⟩
  cases hx : xs.any q
  · rw [hx] at hi
    exact decide_eq_false (fun h => by cases hi.1 h)
  · rw [hx] at hi
    exact decide_eq_true (hi.2 rfl)

end Go.Proofs.Ytbnaicgmnadkgaa

/-
  slices.Clone of numbers, at seats that lack sift.
-/
set_option linter.unusedVariables false
set_option linter.unusedSimpArgs false
namespace Go.Proofs.Ytbnaicgmnadkgaa
open Go Go.Vc

theorem slices_Clone_spec {H : Hp} {v : Value} {n : Nat} {xs : List Int} (h : RdS H 1 v n (xs.map i64)) (hn : n ≤ 1000000) :
    CallH Try.prog n_slices_Clone_int_int [v] H fun r H' => Post (Fresh H H' ∧ ∃ fp, Sl H' 1 r n (xs.map i64) fp ∧ ∀ b, fp = some b → H.size ≤ b ∧ b < H'.size) := by
  refine c_slices_Clone_int_int ⟨rfl, ?_⟩
  have hv : ∃ a c, v = .slice a n c := by
    obtain ⟨_, ⟨rfl, a, c, rfl⟩ | ⟨b, o, c, l, rfl, _⟩⟩ := h
    · exact ⟨_, _, rfl⟩
    · exact ⟨_, _, rfl⟩
  obtain ⟨a, c, rfl⟩ := hv
  simp (disch := (first | omega | (simp only [size_new, size_newm, size_wr, size_wrm] <;> omega) | fail)) only [go_sem, Nat.reduceBEq, Nat.reduceAdd, Nat.reduceMul, Nat.reduceLeDiff, ↓reduceIte, rd_new_lt, own_new_lt, mp_new_lt, rd_newm_lt, own_newm_lt, mp_newm_lt, rd_wr_ne, own_wr_ne, mp_wr_ne, rd_wrm_ne, own_wrm_ne, mp_wrm_ne, rd_new_eq, own_new_eq, mp_newm_eq, s_slices_Clone_int_int]
  cases a with
  | none =>
    have hn0 : n = 0 := by
      obtain ⟨_, ⟨rfl, _⟩ | ⟨b, o, c, l, e, _⟩⟩ := h
      · rfl
      · cases e
    have hx : xs.map i64 = [] := List.length_eq_zero_iff.1 (by have := h.1; simpa [hn0] using this)
    simp (disch := (first | omega | (simp only [size_new, size_newm, size_wr, size_wrm] <;> omega) | fail)) only [go_sem, Nat.reduceBEq, Nat.reduceAdd, Nat.reduceMul, Nat.reduceLeDiff, ↓reduceIte, rd_new_lt, own_new_lt, mp_new_lt, rd_newm_lt, own_newm_lt, mp_newm_lt, rd_wr_ne, own_wr_ne, mp_wr_ne, rd_wrm_ne, own_wrm_ne, mp_wrm_ne, rd_new_eq, own_new_eq, mp_newm_eq, Option.isNone_none]
    rw [hx, hn0]
    exact ⟨Ext.refl _ _, none, Sl.nil H 1, fun b hb => by cases hb⟩
  | some ad =>
    simp (disch := (first | omega | (simp only [size_new, size_newm, size_wr, size_wrm] <;> omega) | fail)) only [go_sem, Nat.reduceBEq, Nat.reduceAdd, Nat.reduceMul, Nat.reduceLeDiff, ↓reduceIte, rd_new_lt, own_new_lt, mp_new_lt, rd_newm_lt, own_newm_lt, mp_newm_lt, rd_wr_ne, own_wr_ne, mp_wr_ne, rd_wrm_ne, own_wrm_ne, mp_wrm_ne, rd_new_eq, own_new_eq, mp_newm_eq, Option.isNone_some]
    have e0 : Ext (fun _ => False) H (H.new 3 []) := (Ext.refl _ H).new 3 []
    refine Sl.append (Sl.lit_at (size := 1) (n := 0) (xs := []) rfl rfl) (h.fresh e0) rfl (ones_is xs) (by omega) ?_
    intro v' H2 fp' hs hext hfp
    simp (disch := (first | omega | (simp only [size_new, size_newm, size_wr, size_wrm] <;> omega) | fail)) only [go_sem, Nat.reduceBEq, Nat.reduceAdd, Nat.reduceMul, Nat.reduceLeDiff, ↓reduceIte, rd_new_lt, own_new_lt, mp_new_lt, rd_newm_lt, own_newm_lt, mp_newm_lt, rd_wr_ne, own_wr_ne, mp_wr_ne, rd_wrm_ne, own_wrm_ne, mp_wrm_ne, rd_new_eq, own_new_eq, mp_newm_eq]
    refine ⟨Ext.trans' e0 hext (fun z hz hzs => by injection hzs with hzs; omega), fp', by simpa [tup] using hs, ?_⟩
    intro z hz
    have hsz := hext.size
    rw [size_new] at hsz
    rcases hfp with h | ⟨y, h, h5, h6⟩
    · rw [h] at hz; injection hz with hz; omega
    · rw [h] at hz; injection hz with hz; subst hz; rw [size_new] at h5; omega

end Go.Proofs.Ytbnaicgmnadkgaa

/-
  The document's words.
-/
set_option linter.unusedVariables false
set_option linter.unusedSimpArgs false
namespace Go.Proofs.Ytbnaicgmnadkgaa
open Go Go.Vc

theorem padZ_str (n : Nat) : padZ [strV []] n = (List.replicate n ([] : List Bool)).map strB := by
  unfold padZ
  induction n with
  | zero => rfl
  | succ n ih => rw [List.replicate_succ, List.flatten_cons, ih, List.replicate_succ]; rfl

/-- Those of a length, the first j looked at. -/
def ordJ (l : List Nat) (m j : Nat) : List Nat := ordM l m ++ (List.range j).filter fun s => decide (l.getD s 0 = m + 1)
theorem ordJ_zero (l : List Nat) (m : Nat) : ordJ l m 0 = ordM l m := by unfold ordJ; simp
theorem ordJ_end (l : List Nat) (m : Nat) : ordJ l m l.length = ordM l (m + 1) := (ordM_succ l m).symm
theorem ordJ_yes {l : List Nat} {m j : Nat} (h : l.getD j 0 = m + 1) : ordJ l m (j + 1) = ordJ l m j ++ [j] := by unfold ordJ; rw [List.range_succ, List.filter_append, List.append_assoc]; congr 2; rw [List.filter_cons, if_pos (decide_eq_true h)]; rfl
theorem ordJ_no {l : List Nat} {m j : Nat} (h : l.getD j 0 ≠ m + 1) : ordJ l m (j + 1) = ordJ l m j := by unfold ordJ; rw [List.range_succ, List.filter_append, List.filter_cons, if_neg (by rw [decide_eq_true_eq]; exact h)]; simp

def foldO (l o : List Nat) : List Bool × List (List Bool) := o.foldl (stepW l) ([], List.replicate l.length [])
theorem foldO_snoc (l o : List Nat) (s : Nat) : foldO l (o ++ [s]) = stepW l (foldO l o) s := by unfold foldO; rw [List.foldl_append]; rfl
theorem foldS_len (l : List Nat) : ∀ (o : List Nat) (st : List Bool × List (List Bool)), (o.foldl (stepW l) st).2.length = st.2.length := by
  intro o
  induction o with
  | nil => intro st; rfl
  | cons x o ih => intro st; rw [List.foldl_cons, ih]; unfold stepW; rw [List.length_set]

theorem wordsF_eq (l : List Nat) : wordsF l (ordR l) = foldO l (ordM l 128) := by unfold wordsF foldO ordR; rfl

set_option maxRecDepth 100000 in
set_option maxHeartbeats 4000000 in
theorem ref27_Words_spec {H : Hp} {a : Option Addr} {c : Nat} {l : List Int} (h : RdS H 1 (.slice a l.length c) l.length (l.map i64)) (hl : l.length ≤ 4096) (hr : ∀ x ∈ l, 1 ≤ x ∧ x ≤ 128) :
    CallH Try.prog n_ref27_Words [.slice a l.length c] H fun v H' => Post (Fresh H H' ∧ ∃ b, H.size ≤ b ∧ v = .slice (some ⟨b, 0, none⟩) l.length l.length ∧ H'.own b = some ((wordsF (l.map Int.toNat) (ordR (l.map Int.toNat))).2.map strB)) := by
  refine c_ref27_Words ⟨rfl, ?_⟩
  simp (disch := (first | omega | (simp only [size_new, size_newm, size_wr, size_wrm] <;> omega) | fail)) only [go_sem, Nat.reduceBEq, Nat.reduceAdd, Nat.reduceMul, Nat.reduceLeDiff, ↓reduceIte, rd_new_lt, own_new_lt, mp_new_lt, rd_newm_lt, own_newm_lt, mp_newm_lt, rd_wr_ne, own_wr_ne, mp_wr_ne, rd_wrm_ne, own_wrm_ne, mp_wrm_ne, rd_new_eq, own_new_eq, mp_newm_eq, s_ref27_Words]
  refine ⟨⟨by omega, by omega, by omega, by omega⟩, ?_⟩
  have hz0 : (H.new 9 (padZ [strV []] l.length)).size = H.size + 1 := by rw [size_new]
  have f1 : Fresh H (H.new 9 (padZ [strV []] l.length)) := (Ext.refl _ _).new _ _
  have b1 := (own_new H 9 (padZ [strV []] l.length)).trans (congrArg some (padZ_str _))
  simp (disch := (first | omega | (simp only [size_new, size_newm, size_wr, size_wrm] <;> omega) | fail)) only [go_sem, Nat.reduceBEq, Nat.reduceAdd, Nat.reduceMul, Nat.reduceLeDiff, ↓reduceIte, rd_new_lt, own_new_lt, mp_new_lt, rd_newm_lt, own_newm_lt, mp_newm_lt, rd_wr_ne, own_wr_ne, mp_wr_ne, rd_wrm_ne, own_wrm_ne, mp_wrm_ne, rd_new_eq, own_new_eq, mp_newm_eq, Int.toNat_natCast]
  generalize H.new 9 (padZ [strV []] l.length) = H1 at *
  generalize hlN : l.map Int.toNat = lN at *
  have hlen : lN.length = l.length := by rw [← hlN]; simp
  have fo0 : (foldO lN (ordM lN 0)).1 = [] := rfl
  have b1' : H1.own H.size = some ((foldO lN (ordM lN 0)).2.map strB) := by rw [← hlen] at b1; exact b1
  rw [wordsF_eq]
  refine LoopV.intro (fun m env H' => ∃ k : Nat, m = 128 - k ∧ k ≤ 128 ∧ Fresh H H' ∧ H'.own H.size = some ((foldO lN (ordM lN k)).2.map strB) ∧ (foldO lN (ordM lN k)).1.length ≤ 128 ∧
    env = [(0, .slice a l.length c), (3, .slice (some ⟨H.size, 0, none⟩) l.length l.length), (4, strB (foldO lN (ordM lN k)).1), (5, i64 ((k : Int) + 1))]) 128 ⟨0, by omega, by omega, f1, b1', by rw [fo0]; exact Nat.zero_le _, by rw [fo0]; rfl⟩ ?_
  clear b1 b1' f1
  rintro m env H2 ⟨k, hm, hk, f2, b2, hll, rfl⟩
  simp (disch := (first | omega | (simp only [size_new, size_newm, size_wr, size_wrm] <;> omega) | fail)) only [go_sem, Nat.reduceBEq, Nat.reduceAdd, Nat.reduceMul, Nat.reduceLeDiff, ↓reduceIte, rd_new_lt, own_new_lt, mp_new_lt, rd_newm_lt, own_newm_lt, mp_newm_lt, rd_wr_ne, own_wr_ne, mp_wr_ne, rd_wrm_ne, own_wrm_ne, mp_wrm_ne, rd_new_eq, own_new_eq, mp_newm_eq]
  refine Both.dec (fun hlt => ?_) (fun hlt => ?_) <;> simp (disch := (first | omega | (simp only [size_new, size_newm, size_wr, size_wrm] <;> omega) | fail)) only [go_sem, Nat.reduceBEq, Nat.reduceAdd, Nat.reduceMul, Nat.reduceLeDiff, ↓reduceIte, rd_new_lt, own_new_lt, mp_new_lt, rd_newm_lt, own_newm_lt, mp_newm_lt, rd_wr_ne, own_wr_ne, mp_wr_ne, rd_wrm_ne, own_wrm_ne, mp_wrm_ne, rd_new_eq, own_new_eq, mp_newm_eq]
  rotate_left
  · have hk2 : k = 128 := by omega
    subst hk2
    exact ⟨f2, H.size, Nat.le_refl _, rfl, b2⟩
  refine LoopV.intro (fun m' env H' => ∃ j : Nat, m' = l.length - j ∧ j ≤ l.length ∧ Fresh H H' ∧ H'.own H.size = some ((foldO lN (ordJ lN k j)).2.map strB) ∧ (foldO lN (ordJ lN k j)).1.length ≤ 128 ∧
    env = [(0, .slice a l.length c), (3, .slice (some ⟨H.size, 0, none⟩) l.length l.length), (4, strB (foldO lN (ordJ lN k j)).1), (5, i64 ((k : Int) + 1)), (15, .slice a l.length c), (16, i64 l.length), (17, i64 j)]) l.length ⟨0, by omega, by omega, f2, by rw [ordJ_zero]; exact b2, by rw [ordJ_zero]; exact hll, by rw [ordJ_zero]; rfl⟩ ?_
  clear b2 f2 hll
  rintro m' env H3 ⟨j, hm', hj, f3, b3, hll, rfl⟩
  have h3 := h.fresh f3
  simp (disch := (first | omega | (simp only [size_new, size_newm, size_wr, size_wrm] <;> omega) | fail)) only [go_sem, Nat.reduceBEq, Nat.reduceAdd, Nat.reduceMul, Nat.reduceLeDiff, ↓reduceIte, rd_new_lt, own_new_lt, mp_new_lt, rd_newm_lt, own_newm_lt, mp_newm_lt, rd_wr_ne, own_wr_ne, mp_wr_ne, rd_wrm_ne, own_wrm_ne, mp_wrm_ne, rd_new_eq, own_new_eq, mp_newm_eq]
  refine Both.dec (fun hlt2 => ?_) (fun hlt2 => ?_) <;> simp (disch := (first | omega | (simp only [size_new, size_newm, size_wr, size_wrm] <;> omega) | fail)) only [go_sem, Nat.reduceBEq, Nat.reduceAdd, Nat.reduceMul, Nat.reduceLeDiff, ↓reduceIte, rd_new_lt, own_new_lt, mp_new_lt, rd_newm_lt, own_newm_lt, mp_newm_lt, rd_wr_ne, own_wr_ne, mp_wr_ne, rd_wrm_ne, own_wrm_ne, mp_wrm_ne, rd_new_eq, own_new_eq, mp_newm_eq]
  rotate_left
  · have hj2 : j = lN.length := by omega
    subst hj2
    rw [ordJ_end] at b3 hll ⊢
    rw [wrap64 (n := (k : Int) + 1 + 1) (by omega) (by omega)]
    exact ⟨128 - (k + 1), by omega, k + 1, rfl, by omega, f3, b3, hll, by rw [show ((k + 1 : Nat) : Int) = (k : Int) + 1 by omega]⟩
  obtain ⟨x, hx⟩ : ∃ x, l[j]? = some x := ⟨_, List.getElem?_eq_getElem (by omega)⟩
  obtain ⟨x0, x1⟩ := hr x (List.mem_of_getElem? hx)
  have hgd : lN.getD j 0 = x.toNat := by rw [← hlN, List.getD_eq_getElem?_getD, List.getElem?_map, hx]; rfl
  obtain ⟨_, b, o, lb, rfl, hrd, hcell⟩ := RdS.num h3 hx
  refine ⟨⟨by omega, by omega⟩, ?_⟩
  simp (disch := (first | omega | (simp only [size_new, size_newm, size_wr, size_wrm] <;> omega) | fail)) only [go_sem, Nat.reduceBEq, Nat.reduceAdd, Nat.reduceMul, Nat.reduceLeDiff, ↓reduceIte, rd_new_lt, own_new_lt, mp_new_lt, rd_newm_lt, own_newm_lt, mp_newm_lt, rd_wr_ne, own_wr_ne, mp_wr_ne, rd_wrm_ne, own_wrm_ne, mp_wrm_ne, rd_new_eq, own_new_eq, mp_newm_eq, hrd, Int.toNat_natCast, Nat.mul_one, hcell]
  refine Both.dec (fun hxk => ?_) (fun hxk => ?_) <;> simp (disch := (first | omega | (simp only [size_new, size_newm, size_wr, size_wrm] <;> omega) | fail)) only [go_sem, Nat.reduceBEq, Nat.reduceAdd, Nat.reduceMul, Nat.reduceLeDiff, ↓reduceIte, rd_new_lt, own_new_lt, mp_new_lt, rd_newm_lt, own_newm_lt, mp_newm_lt, rd_wr_ne, own_wr_ne, mp_wr_ne, rd_wrm_ne, own_wrm_ne, mp_wrm_ne, rd_new_eq, own_new_eq, mp_newm_eq]
  rotate_left
  · rw [wrap64 (n := (j : Int) + 1) (by omega) (by omega)]
    have hno := ordJ_no (l := lN) (m := k) (j := j) (by omega)
    exact ⟨l.length - (j + 1), by omega, j + 1, rfl, by omega, f3, by rw [hno]; exact b3, by rw [hno]; exact hll, by rw [hno]; rfl⟩
  have hxe : lN.getD j 0 = k + 1 := by omega
  have hyes := ordJ_yes hxe
  have hst : foldO lN (ordJ lN k (j + 1)) = (padB (k + 1) (incB (foldO lN (ordJ lN k j)).1), (foldO lN (ordJ lN k j)).2.set j (padB (k + 1) (incB (foldO lN (ordJ lN k j)).1))) := by
    rw [hyes, foldO_snoc]
    unfold stepW
    rw [hxe]
  have hil := incB_len (foldO lN (ordJ lN k j)).1
  have hol : (foldO lN (ordJ lN k j)).2.length = l.length := by
    unfold foldO
    rw [foldS_len, List.length_replicate, hlen]
  generalize foldO lN (ordJ lN k j) = st at *
  rw [eq_none]
  refine Both.dec (fun hz => ?_) (fun hz => ?_)
  · have hz1 : st.1 = [] := by simpa using hz
    rw [hz1] at hst hil ⊢
    rw [incB_nil] at hst
    have hpl : (padB (k + 1) []).length ≤ 128 := by rw [padB_len (by simp)]; omega
    have hwl : ([] : List Bool).length ≤ 128 := by simp
    generalize ([] : List Bool) = wi at *
    simp (disch := (first | omega | (simp only [size_new, size_newm, size_wr, size_wrm] <;> omega) | fail)) only [go_sem, Nat.reduceBEq, Nat.reduceAdd, Nat.reduceMul, Nat.reduceLeDiff, ↓reduceIte, rd_new_lt, own_new_lt, mp_new_lt, rd_newm_lt, own_newm_lt, mp_newm_lt, rd_wr_ne, own_wr_ne, mp_wr_ne, rd_wrm_ne, own_wrm_ne, mp_wrm_ne, rd_new_eq, own_new_eq, mp_newm_eq]
    refine LoopV.intro (fun m2 env H' => H' = H3 ∧ ∃ i : Nat, m2 = (k + 1) - (wi.length + i) ∧ (i = 0 ∨ wi.length + i ≤ k + 1) ∧
      env = [(0, .slice (some ⟨b, o, none⟩) l.length c), (3, .slice (some ⟨H.size, 0, none⟩) l.length l.length), (4, strB (wi ++ List.replicate i false)), (5, i64 ((k : Int) + 1)), (6, i64 j), (15, .slice (some ⟨b, o, none⟩) l.length c), (16, i64 l.length), (17, i64 j)]) _ ⟨rfl, 0, rfl, .inl rfl, by rw [List.replicate_zero, List.append_nil]⟩ ?_
    rintro m2 env H4 ⟨rfl, i, hm2, hi, rfl⟩
    simp (disch := (first | omega | (simp only [size_new, size_newm, size_wr, size_wrm] <;> omega) | fail)) only [go_sem, Nat.reduceBEq, Nat.reduceAdd, Nat.reduceMul, Nat.reduceLeDiff, ↓reduceIte, rd_new_lt, own_new_lt, mp_new_lt, rd_newm_lt, own_newm_lt, mp_newm_lt, rd_wr_ne, own_wr_ne, mp_wr_ne, rd_wrm_ne, own_wrm_ne, mp_wrm_ne, rd_new_eq, own_new_eq, mp_newm_eq]
    have hsz : (⟨((wi ++ List.replicate i false).map bt).toArray⟩ : ByteArray).size = wi.length + i := by rw [size_str]; simp
    rw [hsz]
    refine Both.dec (fun hc => ?_) (fun hc => ?_) <;> simp (disch := (first | omega | (simp only [size_new, size_newm, size_wr, size_wrm] <;> omega) | fail)) only [go_sem, Nat.reduceBEq, Nat.reduceAdd, Nat.reduceMul, Nat.reduceLeDiff, ↓reduceIte, rd_new_lt, own_new_lt, mp_new_lt, rd_newm_lt, own_newm_lt, mp_newm_lt, rd_wr_ne, own_wr_ne, mp_wr_ne, rd_wrm_ne, own_wrm_ne, mp_wrm_ne, rd_new_eq, own_new_eq, mp_newm_eq]
    · rw [cat_sz _ _ (by simp; omega)]
      simp (disch := (first | omega | (simp only [size_new, size_newm, size_wr, size_wrm] <;> omega) | fail)) only [go_sem, Nat.reduceBEq, Nat.reduceAdd, Nat.reduceMul, Nat.reduceLeDiff, ↓reduceIte, rd_new_lt, own_new_lt, mp_new_lt, rd_newm_lt, own_newm_lt, mp_newm_lt, rd_wr_ne, own_wr_ne, mp_wr_ne, rd_wrm_ne, own_wrm_ne, mp_wrm_ne, rd_new_eq, own_new_eq, mp_newm_eq]
      refine ⟨(k + 1) - (wi.length + (i + 1)), by omega, trivial, i + 1, rfl, .inr (by omega), ?_⟩
      have e : (wi ++ List.replicate i false).map bt ++ [48] = (wi ++ List.replicate (i + 1) false).map bt := by rw [List.replicate_succ', ← List.append_assoc, List.map_append (l₂ := [false])]; rfl
      rw [e]
    · have hp : wi ++ List.replicate i false = padB (k + 1) wi := by
        unfold padB
        congr 2
        omega
      rw [hp]
      refine ⟨⟨by omega, by omega⟩, ?_⟩
      simp (disch := (first | omega | (simp only [size_new, size_newm, size_wr, size_wrm] <;> omega) | fail)) only [go_sem, Nat.reduceBEq, Nat.reduceAdd, Nat.reduceMul, Nat.reduceLeDiff, ↓reduceIte, rd_new_lt, own_new_lt, mp_new_lt, rd_newm_lt, own_newm_lt, mp_newm_lt, rd_wr_ne, own_wr_ne, mp_wr_ne, rd_wrm_ne, own_wrm_ne, mp_wrm_ne, rd_new_eq, own_new_eq, mp_newm_eq, b3, Int.toNat_natCast, Nat.mul_one, Nat.zero_add]
      refine ⟨by rw [List.length_map, hol]; omega, ?_⟩
      have f4 : Fresh H (H4.wr H.size ((st.2.map strB).set j (strB (padB (k + 1) wi)))) := f3.then ((Ext.refl (fun z => z = H.size) _).wr (fun _ => rfl) _) (fun z hz => by omega)
      have b4 := own_wr_same (l := (st.2.map strB).set j (strB (padB (k + 1) wi))) b3
      rw [← List.map_set] at b4 f4
      simp (disch := (first | omega | (simp only [size_new, size_newm, size_wr, size_wrm] <;> omega) | fail)) only [go_sem, Nat.reduceBEq, Nat.reduceAdd, Nat.reduceMul, Nat.reduceLeDiff, ↓reduceIte, rd_new_lt, own_new_lt, mp_new_lt, rd_newm_lt, own_newm_lt, mp_newm_lt, rd_wr_ne, own_wr_ne, mp_wr_ne, rd_wrm_ne, own_wrm_ne, mp_wrm_ne, rd_new_eq, own_new_eq, mp_newm_eq]
      rw [wrap64 (n := (j : Int) + 1) (by omega) (by omega), ← List.map_set]
      exact ⟨l.length - (j + 1), by omega, j + 1, rfl, by omega, f4, by rw [hst]; exact b4, by rw [hst]; exact hpl, by rw [hst]; rfl⟩
  · simp (disch := (first | omega | (simp only [size_new, size_newm, size_wr, size_wrm] <;> omega) | fail)) only [go_sem, Nat.reduceBEq, Nat.reduceAdd, Nat.reduceMul, Nat.reduceLeDiff, ↓reduceIte, rd_new_lt, own_new_lt, mp_new_lt, rd_newm_lt, own_newm_lt, mp_newm_lt, rd_wr_ne, own_wr_ne, mp_wr_ne, rd_wrm_ne, own_wrm_ne, mp_wrm_ne, rd_new_eq, own_new_eq, mp_newm_eq]
    refine (ref27_more_spec H3 st.1 (by omega)).mono ?_
    rintro _ _ ⟨rfl, rfl⟩
    have hwl : (incB st.1).length ≤ 128 := by omega
    have hpl : (padB (k + 1) (incB st.1)).length ≤ 128 := by
      unfold padB
      rw [List.length_append, List.length_replicate]
      omega
    generalize incB st.1 = wi at *
    simp (disch := (first | omega | (simp only [size_new, size_newm, size_wr, size_wrm] <;> omega) | fail)) only [go_sem, Nat.reduceBEq, Nat.reduceAdd, Nat.reduceMul, Nat.reduceLeDiff, ↓reduceIte, rd_new_lt, own_new_lt, mp_new_lt, rd_newm_lt, own_newm_lt, mp_newm_lt, rd_wr_ne, own_wr_ne, mp_wr_ne, rd_wrm_ne, own_wrm_ne, mp_wrm_ne, rd_new_eq, own_new_eq, mp_newm_eq]
    refine LoopV.intro (fun m2 env H' => H' = H3 ∧ ∃ i : Nat, m2 = (k + 1) - (wi.length + i) ∧ (i = 0 ∨ wi.length + i ≤ k + 1) ∧
      env = [(0, .slice (some ⟨b, o, none⟩) l.length c), (3, .slice (some ⟨H.size, 0, none⟩) l.length l.length), (4, strB (wi ++ List.replicate i false)), (5, i64 ((k : Int) + 1)), (6, i64 j), (15, .slice (some ⟨b, o, none⟩) l.length c), (16, i64 l.length), (17, i64 j)]) _ ⟨rfl, 0, rfl, .inl rfl, by rw [List.replicate_zero, List.append_nil]⟩ ?_
    rintro m2 env H4 ⟨rfl, i, hm2, hi, rfl⟩
    simp (disch := (first | omega | (simp only [size_new, size_newm, size_wr, size_wrm] <;> omega) | fail)) only [go_sem, Nat.reduceBEq, Nat.reduceAdd, Nat.reduceMul, Nat.reduceLeDiff, ↓reduceIte, rd_new_lt, own_new_lt, mp_new_lt, rd_newm_lt, own_newm_lt, mp_newm_lt, rd_wr_ne, own_wr_ne, mp_wr_ne, rd_wrm_ne, own_wrm_ne, mp_wrm_ne, rd_new_eq, own_new_eq, mp_newm_eq]
    have hsz : (⟨((wi ++ List.replicate i false).map bt).toArray⟩ : ByteArray).size = wi.length + i := by rw [size_str]; simp
    rw [hsz]
    refine Both.dec (fun hc => ?_) (fun hc => ?_) <;> simp (disch := (first | omega | (simp only [size_new, size_newm, size_wr, size_wrm] <;> omega) | fail)) only [go_sem, Nat.reduceBEq, Nat.reduceAdd, Nat.reduceMul, Nat.reduceLeDiff, ↓reduceIte, rd_new_lt, own_new_lt, mp_new_lt, rd_newm_lt, own_newm_lt, mp_newm_lt, rd_wr_ne, own_wr_ne, mp_wr_ne, rd_wrm_ne, own_wrm_ne, mp_wrm_ne, rd_new_eq, own_new_eq, mp_newm_eq]
    · rw [cat_sz _ _ (by simp; omega)]
      simp (disch := (first | omega | (simp only [size_new, size_newm, size_wr, size_wrm] <;> omega) | fail)) only [go_sem, Nat.reduceBEq, Nat.reduceAdd, Nat.reduceMul, Nat.reduceLeDiff, ↓reduceIte, rd_new_lt, own_new_lt, mp_new_lt, rd_newm_lt, own_newm_lt, mp_newm_lt, rd_wr_ne, own_wr_ne, mp_wr_ne, rd_wrm_ne, own_wrm_ne, mp_wrm_ne, rd_new_eq, own_new_eq, mp_newm_eq]
      refine ⟨(k + 1) - (wi.length + (i + 1)), by omega, trivial, i + 1, rfl, .inr (by omega), ?_⟩
      have e : (wi ++ List.replicate i false).map bt ++ [48] = (wi ++ List.replicate (i + 1) false).map bt := by rw [List.replicate_succ', ← List.append_assoc, List.map_append (l₂ := [false])]; rfl
      rw [e]
    · have hp : wi ++ List.replicate i false = padB (k + 1) wi := by
        unfold padB
        congr 2
        omega
      rw [hp]
      refine ⟨⟨by omega, by omega⟩, ?_⟩
      simp (disch := (first | omega | (simp only [size_new, size_newm, size_wr, size_wrm] <;> omega) | fail)) only [go_sem, Nat.reduceBEq, Nat.reduceAdd, Nat.reduceMul, Nat.reduceLeDiff, ↓reduceIte, rd_new_lt, own_new_lt, mp_new_lt, rd_newm_lt, own_newm_lt, mp_newm_lt, rd_wr_ne, own_wr_ne, mp_wr_ne, rd_wrm_ne, own_wrm_ne, mp_wrm_ne, rd_new_eq, own_new_eq, mp_newm_eq, b3, Int.toNat_natCast, Nat.mul_one, Nat.zero_add]
      refine ⟨by rw [List.length_map, hol]; omega, ?_⟩
      have f4 : Fresh H (H4.wr H.size ((st.2.map strB).set j (strB (padB (k + 1) wi)))) := f3.then ((Ext.refl (fun z => z = H.size) _).wr (fun _ => rfl) _) (fun z hz => by omega)
      have b4 := own_wr_same (l := (st.2.map strB).set j (strB (padB (k + 1) wi))) b3
      rw [← List.map_set] at b4 f4
      simp (disch := (first | omega | (simp only [size_new, size_newm, size_wr, size_wrm] <;> omega) | fail)) only [go_sem, Nat.reduceBEq, Nat.reduceAdd, Nat.reduceMul, Nat.reduceLeDiff, ↓reduceIte, rd_new_lt, own_new_lt, mp_new_lt, rd_newm_lt, own_newm_lt, mp_newm_lt, rd_wr_ne, own_wr_ne, mp_wr_ne, rd_wrm_ne, own_wrm_ne, mp_wrm_ne, rd_new_eq, own_new_eq, mp_newm_eq]
      rw [wrap64 (n := (j : Int) + 1) (by omega) (by omega), ← List.map_set]
      exact ⟨l.length - (j + 1), by omega, j + 1, rfl, by omega, f4, by rw [hst]; exact b4, by rw [hst]; exact hpl, by rw [hst]; rfl⟩

end Go.Proofs.Ytbnaicgmnadkgaa

/-
  Slices of slices.
-/
set_option linter.unusedVariables false
set_option linter.unusedSimpArgs false
namespace Go.Proofs.Ytbnaicgmnadkgaa
open Go Go.Vc

/-- A slice of a slice that is read. -/
theorem RdS.sub {H : Hp} {size n c : Nat} {a : Option Addr} {xs : List Value} (h : RdS H size (.slice a n c) n xs) {lo hi : Nat} (h1 : lo ≤ hi) (h2 : hi ≤ n) {b' : Option Addr} {c' : Nat} (hb : lo < hi → b' = a.map (·.add (lo * size))) :
    RdS H size (.slice b' (hi - lo) c') (hi - lo) ((xs.drop (lo * size)).take ((hi - lo) * size)) := by
  obtain ⟨hl, hv⟩ := h
  have e1 : (hi - lo) * size = hi * size - lo * size := Nat.sub_mul _ _ _
  have e2 : hi * size ≤ n * size := Nat.mul_le_mul_right _ h2
  have e3 : lo * size ≤ hi * size := Nat.mul_le_mul_right _ h1
  refine ⟨by rw [List.length_take, List.length_drop, hl]; omega, ?_⟩
  by_cases hlt : lo < hi
  · rcases hv with ⟨hn, _⟩ | ⟨b, o, c2, l, hs, hrd, hle, ht⟩
    · omega
    · right
      injection hs with hs1 hs2 hs3
      subst hs1
      rw [hb hlt]
      refine ⟨b, o + lo * size, c', l, ?_, hrd, by omega, ?_⟩
      · simp [Addr.add]
      · rw [← ht, List.drop_take, List.drop_drop, List.take_take, Nat.min_eq_left (by omega)]
  · left
    exact ⟨by omega, b', c', by rw [show hi - lo = 0 by omega]⟩

/-- A slice of a slice of numbers, as the code has it. -/
theorem slc_ints {H : Hp} {a : Option Addr} {n c : Nat} {xs : List Int} (h : RdS H 1 (.slice a n c) n (xs.map i64)) {lo hi : Nat} {lo' hi' : Int} (el : lo' = (lo : Int)) (eh : hi' = (hi : Int)) (h1 : lo ≤ hi) (h2 : hi ≤ n) (h3 : n ≤ c) :
    ∃ a', Value.slice (if (c : Int) = lo' then a else Option.map (fun x : Addr => x.add (lo'.toNat * 1)) a) (hi'.toNat - lo'.toNat) ((c : Int).toNat - lo'.toNat) = .slice a' (hi - lo) (c - lo) ∧
      RdS H 1 (.slice a' (hi - lo) (c - lo)) (hi - lo) (((xs.drop lo).take (hi - lo)).map i64) ∧ hi - lo ≤ c - lo ∧ ((xs.drop lo).take (hi - lo)).length = hi - lo := by
  subst el; subst eh
  have hl := h.1
  rw [List.length_map, Nat.mul_one] at hl
  refine ⟨_, rfl, ?_, by omega, by rw [List.length_take, List.length_drop]; omega⟩
  have h4 := RdS.sub h (lo := lo) (hi := hi) h1 h2 (c' := (c : Int).toNat - (lo : Int).toNat) (b' := if (c : Int) = (lo : Int) then a else Option.map (fun x : Addr => x.add ((lo : Int).toNat * 1)) a) (fun hlt => by rw [if_neg (by omega)]; rfl)
  simp only [Nat.mul_one] at h4 ⊢
  rw [← List.map_drop, ← List.map_take] at h4
  exact h4

end Go.Proofs.Ytbnaicgmnadkgaa

/-
  Bytes as bits: the document's way.
-/
set_option linter.unusedVariables false
set_option linter.unusedSimpArgs false
namespace Go.Proofs.Ytbnaicgmnadkgaa
open Go Go.Vc

/-- A slice without its first cell. -/
theorem rd_tail {H : Hp} {a : Option Addr} {n c : Nat} {xs : List Value} (h : RdS H 1 (.slice a n c) n xs) (h1 : 1 ≤ n) (h2 : n ≤ c) :
    ∃ a' c', Value.slice (if (c : Int) = 1 then a else Option.map (fun x => x.add (Int.toNat 1 * 1)) a) ((n : Int).toNat - Int.toNat 1) ((c : Int).toNat - Int.toNat 1) = .slice a' (n - 1) c' ∧
      RdS H 1 (.slice a' (n - 1) c') (n - 1) xs.tail ∧ n - 1 ≤ c' := by
  refine ⟨_, _, rfl, ?_, by show n - 1 ≤ c - 1; omega⟩
  have hl := h.1
  rw [Nat.mul_one] at hl
  have h3 := RdS.sub h (lo := 1) (hi := n) h1 (Nat.le_refl _) (c' := c - 1) (b' := if (c : Int) = 1 then a else Option.map (fun x => x.add (Int.toNat 1 * 1)) a) (fun hlt => by rw [if_neg (by omega)]; rfl)
  rw [Nat.mul_one, Nat.mul_one, List.take_of_length_le (by simp; omega), List.drop_one] at h3
  exact h3

set_option maxRecDepth 100000 in
set_option maxHeartbeats 2000000 in
theorem ref27_bit_spec (H : Hp) {c i : Nat} (hc : c < 256) (hi : i < 8) : CallH Try.prog n_ref27_bit [.int .u8 (c : Int), i64 (i : Int)] H fun v H' => Post (v = strB [decide (c / 2 ^ (7 - i) % 2 = 1)] ∧ H = H') := by
  refine c_ref27_bit ⟨rfl, ?_⟩
  simp (disch := (first | omega | (simp only [size_new, size_newm, size_wr, size_wrm] <;> omega) | fail)) only [go_sem, Nat.reduceBEq, Nat.reduceAdd, Nat.reduceMul, Nat.reduceLeDiff, ↓reduceIte, rd_new_lt, own_new_lt, mp_new_lt, rd_newm_lt, own_newm_lt, mp_newm_lt, rd_wr_ne, own_wr_ne, mp_wr_ne, rd_wrm_ne, own_wrm_ne, mp_wrm_ne, rd_new_eq, own_new_eq, mp_newm_eq, s_ref27_bit]
  refine LoopV.intro (fun m env H' => H' = H ∧ ∃ k : Nat, m = 7 - i - k ∧ k ≤ 7 - i ∧ env = [(0, .int .u8 ((c / 2 ^ k : Nat) : Int)), (1, i64 (i : Int)), (5, i64 ((7 - k : Nat) : Int))]) _ ⟨rfl, 0, rfl, by omega, by rw [Nat.pow_zero, Nat.div_one]; rfl⟩ ?_
  rintro m env H1 ⟨rfl, k, hm, hk, rfl⟩
  have hle : c / 2 ^ k ≤ c := Nat.div_le_self ..
  simp (disch := (first | omega | (simp only [size_new, size_newm, size_wr, size_wrm] <;> omega) | fail)) only [go_sem, Nat.reduceBEq, Nat.reduceAdd, Nat.reduceMul, Nat.reduceLeDiff, ↓reduceIte, rd_new_lt, own_new_lt, mp_new_lt, rd_newm_lt, own_newm_lt, mp_newm_lt, rd_wr_ne, own_wr_ne, mp_wr_ne, rd_wrm_ne, own_wrm_ne, mp_wrm_ne, rd_new_eq, own_new_eq, mp_newm_eq]
  refine Both.dec (fun hlt => ?_) (fun hlt => ?_) <;> simp (disch := (first | omega | (simp only [size_new, size_newm, size_wr, size_wrm] <;> omega) | fail)) only [go_sem, Nat.reduceBEq, Nat.reduceAdd, Nat.reduceMul, Nat.reduceLeDiff, ↓reduceIte, rd_new_lt, own_new_lt, mp_new_lt, rd_newm_lt, own_newm_lt, mp_newm_lt, rd_wr_ne, own_wr_ne, mp_wr_ne, rd_wrm_ne, own_wrm_ne, mp_wrm_ne, rd_new_eq, own_new_eq, mp_newm_eq]
  · have e1 : ((c / 2 ^ k : Nat) : Int).tdiv 2 = ((c / 2 ^ (k + 1) : Nat) : Int) := by
      rw [Nat.pow_succ, ← Nat.div_div_eq_div_mul]
      rfl
    simp (disch := (first | omega | (simp only [size_new, size_newm, size_wr, size_wrm] <;> omega) | fail)) only [go_sem, Nat.reduceBEq, Nat.reduceAdd, Nat.reduceMul, Nat.reduceLeDiff, ↓reduceIte, rd_new_lt, own_new_lt, mp_new_lt, rd_newm_lt, own_newm_lt, mp_newm_lt, rd_wr_ne, own_wr_ne, mp_wr_ne, rd_wrm_ne, own_wrm_ne, mp_wrm_ne, rd_new_eq, own_new_eq, mp_newm_eq, e1]
    rw [if_neg (by decide), wrapU8 (Int.natCast_nonneg _) (Int.ofNat_le.2 (Nat.le_trans (Nat.div_le_self c (2 ^ (k + 1))) (show c ≤ 255 by omega)))]
    simp (disch := (first | omega | (simp only [size_new, size_newm, size_wr, size_wrm] <;> omega) | fail)) only [go_sem, Nat.reduceBEq, Nat.reduceAdd, Nat.reduceMul, Nat.reduceLeDiff, ↓reduceIte, rd_new_lt, own_new_lt, mp_new_lt, rd_newm_lt, own_newm_lt, mp_newm_lt, rd_wr_ne, own_wr_ne, mp_wr_ne, rd_wrm_ne, own_wrm_ne, mp_wrm_ne, rd_new_eq, own_new_eq, mp_newm_eq]
    rw [wrap64 (n := ((7 - k : Nat) : Int) - 1) (by omega) (by omega)]
    exact ⟨7 - i - (k + 1), by omega, trivial, k + 1, rfl, by omega, by rw [show ((7 - k : Nat) : Int) - 1 = ((7 - (k + 1) : Nat) : Int) by omega]⟩
  · have hk2 : k = 7 - i := by omega
    subst hk2
    have e1 : ((c / 2 ^ (7 - i) : Nat) : Int).tmod 2 = ((c / 2 ^ (7 - i) % 2 : Nat) : Int) := rfl
    simp (disch := (first | omega | (simp only [size_new, size_newm, size_wr, size_wrm] <;> omega) | fail)) only [go_sem, Nat.reduceBEq, Nat.reduceAdd, Nat.reduceMul, Nat.reduceLeDiff, ↓reduceIte, rd_new_lt, own_new_lt, mp_new_lt, rd_newm_lt, own_newm_lt, mp_newm_lt, rd_wr_ne, own_wr_ne, mp_wr_ne, rd_wrm_ne, own_wrm_ne, mp_wrm_ne, rd_new_eq, own_new_eq, mp_newm_eq, e1]
    rw [if_neg (by decide)]
    simp (disch := (first | omega | (simp only [size_new, size_newm, size_wr, size_wrm] <;> omega) | fail)) only [go_sem, Nat.reduceBEq, Nat.reduceAdd, Nat.reduceMul, Nat.reduceLeDiff, ↓reduceIte, rd_new_lt, own_new_lt, mp_new_lt, rd_newm_lt, own_newm_lt, mp_newm_lt, rd_wr_ne, own_wr_ne, mp_wr_ne, rd_wrm_ne, own_wrm_ne, mp_wrm_ne, rd_new_eq, own_new_eq, mp_newm_eq]
    refine Both.dec (fun h => ?_) (fun h => ?_) <;> simp (disch := (first | omega | (simp only [size_new, size_newm, size_wr, size_wrm] <;> omega) | fail)) only [go_sem, Nat.reduceBEq, Nat.reduceAdd, Nat.reduceMul, Nat.reduceLeDiff, ↓reduceIte, rd_new_lt, own_new_lt, mp_new_lt, rd_newm_lt, own_newm_lt, mp_newm_lt, rd_wr_ne, own_wr_ne, mp_wr_ne, rd_wrm_ne, own_wrm_ne, mp_wrm_ne, rd_new_eq, own_new_eq, mp_newm_eq]
    · rw [decide_eq_true (by omega)]
      exact ⟨rfl, rfl⟩
    · rw [decide_eq_false (by omega)]
      exact ⟨rfl, rfl⟩

/-- The bits that bytes are, or the error. -/
def UnpR (ns : List Nat) (v : Value) : Prop :=
  ((∃ k b, ns = k :: b ∧ UnpG k b ∧ (bitsAll b).drop ((bitsAll b).length - k) = List.replicate k false ∧ v = .tuple [strB ((bitsAll b).take ((bitsAll b).length - k)), i64 0].toArray) ∨
  ((¬ ∃ k b, ns = k :: b ∧ UnpG k b ∧ (bitsAll b).drop ((bitsAll b).length - k) = List.replicate k false) ∧ v = .tuple [strV [], i64 201].toArray))

theorem bitsAll_snoc (b : List Nat) (c : Nat) : bitsAll (b ++ [c]) = bitsAll b ++ bits8 c := by
  unfold bitsAll
  rw [List.flatMap_append]
  simp
theorem noUnp {ns : List Nat} (h : ∀ k b, ns = k :: b → ¬ UnpG k b) : ¬ ∃ k b, ns = k :: b ∧ UnpG k b ∧ (bitsAll b).drop ((bitsAll b).length - k) = List.replicate k false := fun ⟨k, b, h1, h2, _⟩ => h k b h1 h2

set_option maxRecDepth 100000 in
set_option maxHeartbeats 4000000 in
theorem ref27_Unpack_spec {H : Hp} {a : Option Addr} {c : Nat} {ns : List Nat} (h : RdS H 1 (.slice a ns.length c) ns.length (u8s ns)) (hc : ns.length ≤ c) (hns : ∀ x ∈ ns, x < 256) (hl : ns.length ≤ 1000000000) :
    CallH Try.prog n_ref27_Unpack [.slice a ns.length c] H fun v H' => Post (UnpR ns v ∧ H = H') := by
  refine c_ref27_Unpack ⟨rfl, ?_⟩
  simp (disch := (first | omega | (simp only [size_new, size_newm, size_wr, size_wrm] <;> omega) | fail)) only [go_sem, Nat.reduceBEq, Nat.reduceAdd, Nat.reduceMul, Nat.reduceLeDiff, ↓reduceIte, rd_new_lt, own_new_lt, mp_new_lt, rd_newm_lt, own_newm_lt, mp_newm_lt, rd_wr_ne, own_wr_ne, mp_wr_ne, rd_wrm_ne, own_wrm_ne, mp_wrm_ne, rd_new_eq, own_new_eq, mp_newm_eq, s_ref27_Unpack]
  refine Both.dec (fun g0 => ?_) (fun g0 => ?_) <;> simp (disch := (first | omega | (simp only [size_new, size_newm, size_wr, size_wrm] <;> omega) | fail)) only [go_sem, Nat.reduceBEq, Nat.reduceAdd, Nat.reduceMul, Nat.reduceLeDiff, ↓reduceIte, rd_new_lt, own_new_lt, mp_new_lt, rd_newm_lt, own_newm_lt, mp_newm_lt, rd_wr_ne, own_wr_ne, mp_wr_ne, rd_wrm_ne, own_wrm_ne, mp_wrm_ne, rd_new_eq, own_new_eq, mp_newm_eq]
  · refine ⟨.inr ⟨noUnp fun k b e => ?_, rfl⟩, rfl⟩
    rw [e] at g0
    simp only [List.length_cons] at g0
    omega
  obtain ⟨k, b, rfl⟩ : ∃ k b, ns = k :: b := by
    cases ns with
    | nil => simp at g0
    | cons k b => exact ⟨k, b, rfl⟩
  have hk := hns k (by simp)
  obtain ⟨_, bb, o, lb, rfl, hrd, hcell⟩ := RdS.byte h (i := 0) (x := k) rfl
  have hinj : ∀ {k' b'}, k :: b = k' :: b' → k' = k ∧ b' = b := fun e => by injection e with e1 e2; exact ⟨e1.symm, e2.symm⟩
  have e3 : (k :: b).length = b.length + 1 := rfl
  refine ⟨⟨by omega, by omega⟩, ?_⟩
  have hcell' : lb[o]? = some (.int .u8 (k : Int)) := hcell
  simp (disch := (first | omega | (simp only [size_new, size_newm, size_wr, size_wrm] <;> omega) | fail)) only [go_sem, Nat.reduceBEq, Nat.reduceAdd, Nat.reduceMul, Nat.reduceLeDiff, ↓reduceIte, rd_new_lt, own_new_lt, mp_new_lt, rd_newm_lt, own_newm_lt, mp_newm_lt, rd_wr_ne, own_wr_ne, mp_wr_ne, rd_wrm_ne, own_wrm_ne, mp_wrm_ne, rd_new_eq, own_new_eq, mp_newm_eq, hrd, Int.toNat_zero, Nat.zero_mul, Nat.add_zero, hcell']
  refine Both.dec (fun g1 => ?_) (fun g1 => ?_) <;> simp (disch := (first | omega | (simp only [size_new, size_newm, size_wr, size_wrm] <;> omega) | fail)) only [go_sem, Nat.reduceBEq, Nat.reduceAdd, Nat.reduceMul, Nat.reduceLeDiff, ↓reduceIte, rd_new_lt, own_new_lt, mp_new_lt, rd_newm_lt, own_newm_lt, mp_newm_lt, rd_wr_ne, own_wr_ne, mp_wr_ne, rd_wrm_ne, own_wrm_ne, mp_wrm_ne, rd_new_eq, own_new_eq, mp_newm_eq]
  · exact ⟨.inr ⟨noUnp fun k' b' e hu => by obtain ⟨rfl, rfl⟩ := hinj e; have := hu.low; omega, rfl⟩, rfl⟩
  refine Both.dec (fun g2 => ?_) (fun g2 => ?_) <;> simp (disch := (first | omega | (simp only [size_new, size_newm, size_wr, size_wrm] <;> omega) | fail)) only [go_sem, Nat.reduceBEq, Nat.reduceAdd, Nat.reduceMul, Nat.reduceLeDiff, ↓reduceIte, rd_new_lt, own_new_lt, mp_new_lt, rd_newm_lt, own_newm_lt, mp_newm_lt, rd_wr_ne, own_wr_ne, mp_wr_ne, rd_wrm_ne, own_wrm_ne, mp_wrm_ne, rd_new_eq, own_new_eq, mp_newm_eq]
  · exact ⟨.inr ⟨noUnp fun k' b' e hu => by obtain ⟨rfl, rfl⟩ := hinj e; have := hu.most; omega, rfl⟩, rfl⟩
  refine ⟨⟨by omega, by omega⟩, ?_⟩
  simp (disch := (first | omega | (simp only [size_new, size_newm, size_wr, size_wrm] <;> omega) | fail)) only [go_sem, Nat.reduceBEq, Nat.reduceAdd, Nat.reduceMul, Nat.reduceLeDiff, ↓reduceIte, rd_new_lt, own_new_lt, mp_new_lt, rd_newm_lt, own_newm_lt, mp_newm_lt, rd_wr_ne, own_wr_ne, mp_wr_ne, rd_wrm_ne, own_wrm_ne, mp_wrm_ne, rd_new_eq, own_new_eq, mp_newm_eq, hrd, Int.toNat_zero, Nat.zero_mul, Nat.add_zero, hcell']
  refine Both.dec (fun g3 => ?A) (fun g3 => ?B)
  case' A =>
    simp (disch := (first | omega | (simp only [size_new, size_newm, size_wr, size_wrm] <;> omega) | fail)) only [go_sem, Nat.reduceBEq, Nat.reduceAdd, Nat.reduceMul, Nat.reduceLeDiff, ↓reduceIte, rd_new_lt, own_new_lt, mp_new_lt, rd_newm_lt, own_newm_lt, mp_newm_lt, rd_wr_ne, own_wr_ne, mp_wr_ne, rd_wrm_ne, own_wrm_ne, mp_wrm_ne, rd_new_eq, own_new_eq, mp_newm_eq]
    refine Both.dec (fun g4 => ?C) (fun g4 => ?D)
  case C =>
    simp (disch := (first | omega | (simp only [size_new, size_newm, size_wr, size_wrm] <;> omega) | fail)) only [go_sem, Nat.reduceBEq, Nat.reduceAdd, Nat.reduceMul, Nat.reduceLeDiff, ↓reduceIte, rd_new_lt, own_new_lt, mp_new_lt, rd_newm_lt, own_newm_lt, mp_newm_lt, rd_wr_ne, own_wr_ne, mp_wr_ne, rd_wrm_ne, own_wrm_ne, mp_wrm_ne, rd_new_eq, own_new_eq, mp_newm_eq]
    refine ⟨.inr ⟨noUnp fun k' b' e hu => ?_, rfl⟩, rfl⟩
    obtain ⟨rfl, rfl⟩ := hinj e
    rcases hu.some_ with h1 | h1
    · omega
    · have := List.length_pos_iff.2 h1; omega
  all_goals simp (disch := (first | omega | (simp only [size_new, size_newm, size_wr, size_wrm] <;> omega) | fail)) only [go_sem, Nat.reduceBEq, Nat.reduceAdd, Nat.reduceMul, Nat.reduceLeDiff, ↓reduceIte, rd_new_lt, own_new_lt, mp_new_lt, rd_newm_lt, own_newm_lt, mp_newm_lt, rd_wr_ne, own_wr_ne, mp_wr_ne, rd_wrm_ne, own_wrm_ne, mp_wrm_ne, rd_new_eq, own_new_eq, mp_newm_eq]
  all_goals
    have hU : UnpG k b := ⟨by omega, (by first | exact .inl (by omega) | exact .inr (fun e => by subst e; simp at g4)), by omega⟩
    refine ⟨⟨by omega, by omega, by omega, by omega⟩, ?_⟩
    obtain ⟨a', c', hsv, hr', hc'⟩ := rd_tail h (by omega) hc
    have hr2 : RdS H 1 (.slice a' b.length c') b.length (u8s b) := hr'
    rw [show (k :: b).length - 1 = b.length from rfl, e3] at hsv
    simp (disch := (first | omega | (simp only [size_new, size_newm, size_wr, size_wrm] <;> omega) | fail)) only [go_sem, Nat.reduceBEq, Nat.reduceAdd, Nat.reduceMul, Nat.reduceLeDiff, ↓reduceIte, rd_new_lt, own_new_lt, mp_new_lt, rd_newm_lt, own_newm_lt, mp_newm_lt, rd_wr_ne, own_wr_ne, mp_wr_ne, rd_wrm_ne, own_wrm_ne, mp_wrm_ne, rd_new_eq, own_new_eq, mp_newm_eq]
    rw [hsv, show ((b.length + 1 : Nat) : Int).toNat - Int.toNat 1 = b.length by omega]
    have hmost := hU.most
    refine LoopV.intro (fun m env H' => H' = H ∧ ∃ j : Nat, m = b.length - j ∧ j ≤ b.length ∧
      env = [(0, .slice (some ⟨bb, o, none⟩) (b.length + 1) c), (4, strB (bitsAll (b.take j))), (35, .slice a' b.length c'), (36, i64 b.length), (37, i64 j)]) _ ⟨rfl, 0, rfl, by omega, by rw [List.take_zero]; rfl⟩ ?_
    rintro m env H1 ⟨rfl, j, hm, hj, rfl⟩
    simp (disch := (first | omega | (simp only [size_new, size_newm, size_wr, size_wrm] <;> omega) | fail)) only [go_sem, Nat.reduceBEq, Nat.reduceAdd, Nat.reduceMul, Nat.reduceLeDiff, ↓reduceIte, rd_new_lt, own_new_lt, mp_new_lt, rd_newm_lt, own_newm_lt, mp_newm_lt, rd_wr_ne, own_wr_ne, mp_wr_ne, rd_wrm_ne, own_wrm_ne, mp_wrm_ne, rd_new_eq, own_new_eq, mp_newm_eq]
    refine Both.dec (fun hlt => ?_) (fun hlt => ?_) <;> simp (disch := (first | omega | (simp only [size_new, size_newm, size_wr, size_wrm] <;> omega) | fail)) only [go_sem, Nat.reduceBEq, Nat.reduceAdd, Nat.reduceMul, Nat.reduceLeDiff, ↓reduceIte, rd_new_lt, own_new_lt, mp_new_lt, rd_newm_lt, own_newm_lt, mp_newm_lt, rd_wr_ne, own_wr_ne, mp_wr_ne, rd_wrm_ne, own_wrm_ne, mp_wrm_ne, rd_new_eq, own_new_eq, mp_newm_eq]
    · obtain ⟨x, hx⟩ : ∃ x, b[j]? = some x := ⟨_, List.getElem?_eq_getElem (by omega)⟩
      have hx2 := hns x (List.mem_cons_of_mem _ (List.mem_of_getElem? hx))
      obtain ⟨_, b2, o2, l2, rfl, hrd2, hcell2⟩ := RdS.byte hr2 hx
      refine ⟨⟨by omega, by omega⟩, ?_⟩
      simp (disch := (first | omega | (simp only [size_new, size_newm, size_wr, size_wrm] <;> omega) | fail)) only [go_sem, Nat.reduceBEq, Nat.reduceAdd, Nat.reduceMul, Nat.reduceLeDiff, ↓reduceIte, rd_new_lt, own_new_lt, mp_new_lt, rd_newm_lt, own_newm_lt, mp_newm_lt, rd_wr_ne, own_wr_ne, mp_wr_ne, rd_wrm_ne, own_wrm_ne, mp_wrm_ne, rd_new_eq, own_new_eq, mp_newm_eq, hrd2, Int.toNat_natCast, Nat.mul_one, hcell2]
      refine LoopV.intro (fun m env H' => H' = H1 ∧ ∃ i : Nat, m = 8 - i ∧ i ≤ 8 ∧
        env = [(0, .slice (some ⟨bb, o, none⟩) (b.length + 1) c), (4, strB (bitsAll (b.take j) ++ (bits8 x).take i)), (6, .int .u8 (x : Int)), (7, i64 i), (35, .slice (some ⟨b2, o2, none⟩) b.length c'), (36, i64 b.length), (37, i64 j)]) _ ⟨rfl, 0, rfl, by omega, by rw [List.take_zero, List.append_nil]; rfl⟩ ?_
      rintro m env H2 ⟨rfl, i, hm2, hi, rfl⟩
      have hbl := bitsAll_len (b.take j)
      rw [List.length_take, Nat.min_eq_left (by omega)] at hbl
      simp (disch := (first | omega | (simp only [size_new, size_newm, size_wr, size_wrm] <;> omega) | fail)) only [go_sem, Nat.reduceBEq, Nat.reduceAdd, Nat.reduceMul, Nat.reduceLeDiff, ↓reduceIte, rd_new_lt, own_new_lt, mp_new_lt, rd_newm_lt, own_newm_lt, mp_newm_lt, rd_wr_ne, own_wr_ne, mp_wr_ne, rd_wrm_ne, own_wrm_ne, mp_wrm_ne, rd_new_eq, own_new_eq, mp_newm_eq]
      refine Both.dec (fun hlt2 => ?_) (fun hlt2 => ?_) <;> simp (disch := (first | omega | (simp only [size_new, size_newm, size_wr, size_wrm] <;> omega) | fail)) only [go_sem, Nat.reduceBEq, Nat.reduceAdd, Nat.reduceMul, Nat.reduceLeDiff, ↓reduceIte, rd_new_lt, own_new_lt, mp_new_lt, rd_newm_lt, own_newm_lt, mp_newm_lt, rd_wr_ne, own_wr_ne, mp_wr_ne, rd_wrm_ne, own_wrm_ne, mp_wrm_ne, rd_new_eq, own_new_eq, mp_newm_eq]
      · refine (ref27_bit_spec H2 hx2 (by omega)).mono ?_
        rintro _ _ ⟨rfl, rfl⟩
        simp (disch := (first | omega | (simp only [size_new, size_newm, size_wr, size_wrm] <;> omega) | fail)) only [go_sem, Nat.reduceBEq, Nat.reduceAdd, Nat.reduceMul, Nat.reduceLeDiff, ↓reduceIte, rd_new_lt, own_new_lt, mp_new_lt, rd_newm_lt, own_newm_lt, mp_newm_lt, rd_wr_ne, own_wr_ne, mp_wr_ne, rd_wrm_ne, own_wrm_ne, mp_wrm_ne, rd_new_eq, own_new_eq, mp_newm_eq]
        rw [cat_sz _ _ (by rw [List.length_map, List.length_map, List.length_append, List.length_take, bits8_len]; simp; omega)]
        simp (disch := (first | omega | (simp only [size_new, size_newm, size_wr, size_wrm] <;> omega) | fail)) only [go_sem, Nat.reduceBEq, Nat.reduceAdd, Nat.reduceMul, Nat.reduceLeDiff, ↓reduceIte, rd_new_lt, own_new_lt, mp_new_lt, rd_newm_lt, own_newm_lt, mp_newm_lt, rd_wr_ne, own_wr_ne, mp_wr_ne, rd_wrm_ne, own_wrm_ne, mp_wrm_ne, rd_new_eq, own_new_eq, mp_newm_eq]
        rw [wrap64 (n := (i : Int) + 1) (by omega) (by omega)]
        refine ⟨8 - (i + 1), by omega, trivial, i + 1, rfl, by omega, ?_⟩
        have e1 : (bitsAll (b.take j) ++ (bits8 x).take i).map bt ++ [decide (x / 2 ^ (7 - i) % 2 = 1)].map bt = (bitsAll (b.take j) ++ (bits8 x).take (i + 1)).map bt := by
          rw [← List.map_append, List.append_assoc, List.take_add_one, bits8_at x i (by omega)]
          rfl
        rw [e1]
        rfl
      · have hi8 : i = 8 := by omega
        subst hi8
        rw [wrap64 (n := (j : Int) + 1) (by omega) (by omega)]
        refine ⟨b.length - (j + 1), by omega, trivial, j + 1, rfl, by omega, ?_⟩
        rw [List.take_of_length_le (l := bits8 x) (by rw [bits8_len]; omega), ← bitsAll_snoc, List.take_add_one, hx]
        rfl
    have hj2 : j = b.length := by omega
    subst hj2
    rw [List.take_length]
    have hbl := bitsAll_len b
    have hkl := hU.le
    generalize hB : bitsAll b = B at *
    refine LoopV.intro (fun m env H' => H' = H1 ∧ ∃ i : Nat, m = k - i ∧ i ≤ k ∧ B.drop (B.length - i) = List.replicate i false ∧
      env = [(0, .slice (some ⟨bb, o, none⟩) (b.length + 1) c), (4, strB (B.take (B.length - i))), (8, i64 i)]) _ ⟨rfl, 0, rfl, by omega, by simp, by rw [Nat.sub_zero, List.take_length]; rfl⟩ ?_
    rintro m env H2 ⟨rfl, i, hm3, hi, hdr, rfl⟩
    simp (disch := (first | omega | (simp only [size_new, size_newm, size_wr, size_wrm] <;> omega) | fail)) only [go_sem, Nat.reduceBEq, Nat.reduceAdd, Nat.reduceMul, Nat.reduceLeDiff, ↓reduceIte, rd_new_lt, own_new_lt, mp_new_lt, rd_newm_lt, own_newm_lt, mp_newm_lt, rd_wr_ne, own_wr_ne, mp_wr_ne, rd_wrm_ne, own_wrm_ne, mp_wrm_ne, rd_new_eq, own_new_eq, mp_newm_eq]
    refine ⟨⟨by omega, by omega⟩, ?_⟩
    simp (disch := (first | omega | (simp only [size_new, size_newm, size_wr, size_wrm] <;> omega) | fail)) only [go_sem, Nat.reduceBEq, Nat.reduceAdd, Nat.reduceMul, Nat.reduceLeDiff, ↓reduceIte, rd_new_lt, own_new_lt, mp_new_lt, rd_newm_lt, own_newm_lt, mp_newm_lt, rd_wr_ne, own_wr_ne, mp_wr_ne, rd_wrm_ne, own_wrm_ne, mp_wrm_ne, rd_new_eq, own_new_eq, mp_newm_eq, hrd, Int.toNat_zero, Nat.zero_mul, Nat.add_zero, hcell']
    rw [wrap64 (n := (k : Int)) (by omega) (by omega)]
    refine Both.dec (fun hlt3 => ?_) (fun hlt3 => ?_) <;> simp (disch := (first | omega | (simp only [size_new, size_newm, size_wr, size_wrm] <;> omega) | fail)) only [go_sem, Nat.reduceBEq, Nat.reduceAdd, Nat.reduceMul, Nat.reduceLeDiff, ↓reduceIte, rd_new_lt, own_new_lt, mp_new_lt, rd_newm_lt, own_newm_lt, mp_newm_lt, rd_wr_ne, own_wr_ne, mp_wr_ne, rd_wrm_ne, own_wrm_ne, mp_wrm_ne, rd_new_eq, own_new_eq, mp_newm_eq]
    · obtain ⟨x, hx⟩ : ∃ x, B[B.length - i - 1]? = some x := ⟨_, List.getElem?_eq_getElem (by omega)⟩
      have hsz : (⟨((B.take (B.length - i)).map bt).toArray⟩ : ByteArray).size = B.length - i := by rw [size_str, List.length_map, List.length_take]; omega
      have hgx : (⟨((B.take (B.length - i)).map bt).toArray⟩ : ByteArray)[B.length - i - 1]? = some (bt x) := by
        rw [get_str, List.getElem?_map, List.getElem?_take, if_pos (by omega), hx]
        rfl
      rw [hsz, wrap64 (n := ((B.length - i : Nat) : Int) - 1) (by omega) (by omega), show ((B.length - i : Nat) : Int) - 1 = ((B.length - i - 1 : Nat) : Int) by omega]
      refine ⟨by omega, ?_⟩
      simp (disch := (first | omega | (simp only [size_new, size_newm, size_wr, size_wrm] <;> omega) | fail)) only [go_sem, Nat.reduceBEq, Nat.reduceAdd, Nat.reduceMul, Nat.reduceLeDiff, ↓reduceIte, rd_new_lt, own_new_lt, mp_new_lt, rd_newm_lt, own_newm_lt, mp_newm_lt, rd_wr_ne, own_wr_ne, mp_wr_ne, rd_wrm_ne, own_wrm_ne, mp_wrm_ne, rd_new_eq, own_new_eq, mp_newm_eq, Int.toNat_natCast, hgx]
      have hds : B.drop (B.length - (i + 1)) = x :: List.replicate i false := by
        rw [show B.length - (i + 1) = B.length - i - 1 by omega]
        have hb0 : B.length - i - 1 < B.length := by omega
        rw [List.drop_eq_getElem_cons hb0, show B.length - i - 1 + 1 = B.length - i by omega, hdr]
        congr 1
        rw [List.getElem?_eq_getElem hb0] at hx
        injection hx
      refine Both.dec (fun hn => ?_) (fun hn => ?_) <;> simp (disch := (first | omega | (simp only [size_new, size_newm, size_wr, size_wrm] <;> omega) | fail)) only [go_sem, Nat.reduceBEq, Nat.reduceAdd, Nat.reduceMul, Nat.reduceLeDiff, ↓reduceIte, rd_new_lt, own_new_lt, mp_new_lt, rd_newm_lt, own_newm_lt, mp_newm_lt, rd_wr_ne, own_wr_ne, mp_wr_ne, rd_wrm_ne, own_wrm_ne, mp_wrm_ne, rd_new_eq, own_new_eq, mp_newm_eq]
      rotate_left
      · refine ⟨.inr ⟨fun hex => ?_, rfl⟩, rfl⟩
        obtain ⟨k', b', e, hu, hd⟩ := hex
        obtain ⟨rfl, rfl⟩ := hinj e
        rw [hB] at hd
        have h7 : (B.drop (B.length - k'))[k' - i - 1]? = some x := by
          rw [List.getElem?_drop, show B.length - k' + (k' - i - 1) = B.length - i - 1 by omega]
          exact hx
        rw [hd, List.getElem?_replicate, if_pos (by omega)] at h7
        injection h7 with h7
        subst h7
        exact hn rfl
      · have hxf : x = false := by
          cases x
          · rfl
          · exact absurd hn (by decide)
        subst hxf
        rw [hsz, ext_str]
        rw [wrap64 (n := ((B.length - i : Nat) : Int) - 1) (by omega) (by omega), show ((B.length - i : Nat) : Int) - 1 = ((B.length - (i + 1) : Nat) : Int) by omega]
        refine ⟨⟨by omega, by omega, by omega⟩, ?_⟩
        simp (disch := (first | omega | (simp only [size_new, size_newm, size_wr, size_wrm] <;> omega) | fail)) only [go_sem, Nat.reduceBEq, Nat.reduceAdd, Nat.reduceMul, Nat.reduceLeDiff, ↓reduceIte, rd_new_lt, own_new_lt, mp_new_lt, rd_newm_lt, own_newm_lt, mp_newm_lt, rd_wr_ne, own_wr_ne, mp_wr_ne, rd_wrm_ne, own_wrm_ne, mp_wrm_ne, rd_new_eq, own_new_eq, mp_newm_eq]
        rw [wrap64 (n := (i : Int) + 1) (by omega) (by omega)]
        refine ⟨k - (i + 1), by omega, trivial, i + 1, rfl, by omega, by rw [hds]; rfl, ?_⟩
        rw [Int.toNat_natCast, Int.toNat_natCast, List.drop_zero, ← List.map_take, List.take_take, Nat.min_eq_left (by omega)]
        rfl
    · have hi2 : i = k := by omega
      subst hi2
      exact ⟨.inl ⟨_, b, rfl, hU, by rw [hB]; exact hdr, by rw [hB]; rfl⟩, rfl⟩

end Go.Proofs.Ytbnaicgmnadkgaa

/-
  Slices of slices; slices of texts.
-/
set_option linter.unusedVariables false
set_option linter.unusedSimpArgs false
namespace Go.Proofs.Ytbnaicgmnadkgaa
open Go Go.Vc

theorem RdS.str {H : Hp} {a : Option Addr} {n c : Nat} {ws : List (List UInt8)} (h : RdS H 1 (.slice a n c) n (ws.map strV)) {i : Nat} {x : List UInt8} (hx : ws[i]? = some x) :
    i < n ∧ ∃ b o lb, a = some ⟨b, o, none⟩ ∧ H.rd b = some lb ∧ lb[o + i]? = some (strV x) := by
  obtain ⟨hl, hv⟩ := h
  rw [List.length_map, Nat.mul_one] at hl
  have hi : i < ws.length := by
    rcases Nat.lt_or_ge i ws.length with h | h
    · exact h
    · rw [List.getElem?_eq_none h] at hx; cases hx
  refine ⟨by omega, ?_⟩
  rcases hv with ⟨hn, _⟩ | ⟨b, o, c2, l, hs, hrd, hle, ht⟩
  · omega
  · injection hs with hs1 hs2 hs3
    refine ⟨b, o, l, hs1, hrd, ?_⟩
    have h7 : (ws.map strV)[i]? = some (strV x) := by rw [List.getElem?_map, hx]; rfl
    rw [← ht, List.getElem?_take] at h7
    split at h7
    · rw [List.getElem?_drop] at h7; exact h7
    · cases h7

theorem RdS.blk {H : Hp} {a : Option Addr} {n c : Nat} {xs : List Value} (h : RdS H 1 (.slice a n c) n xs) (hn : n ≠ 0) : ∀ x, a = some x → x.block < H.size := fun x hx => by
  obtain ⟨_, ⟨h0, _⟩ | ⟨b, o, c2, l, hs, hrd, _⟩⟩ := h
  · exact absurd h0 hn
  · injection hs with hs1
    rw [hx] at hs1
    injection hs1 with hs1
    rw [hs1]
    exact rd_lt hrd

theorem RdS.off {H H' : Hp} {a : Option Addr} {n c : Nat} {xs : List Value} {S : Nat → Prop} (h : RdS H 1 (.slice a n c) n xs) (e : Ext S H H') (hs : n ≠ 0 → ∀ x, a = some x → ¬ S x.block) : RdS H' 1 (.slice a n c) n xs := by
  obtain ⟨hl, h | ⟨b, o, c2, l, hv, hrd, h3⟩⟩ := h
  · exact ⟨hl, .inl h⟩
  · by_cases hn : n = 0
    · exact ⟨hl, .inl ⟨hn, a, c, by rw [hn]⟩⟩
    · have hv' := hv
      injection hv' with hv1
      exact ⟨hl, .inr ⟨b, o, c2, l, hv, e.rd hrd (hs hn _ hv1), h3⟩⟩

/-- A slice of texts without its first. -/
theorem slc_tail {H : Hp} {a : Option Addr} {n c : Nat} {ws : List (List UInt8)} (h : RdS H 1 (.slice a n c) n (ws.map strV)) (h1 : 1 ≤ n) (h2 : n ≤ c) :
    ∃ a' c', Value.slice (if (c : Int) = 1 then a else Option.map (fun x => x.add (Int.toNat 1 * 1)) a) ((n : Int).toNat - Int.toNat 1) ((c : Int).toNat - Int.toNat 1) = .slice a' (n - 1) c' ∧
      RdS H 1 (.slice a' (n - 1) c') (n - 1) (ws.tail.map strV) ∧ n - 1 ≤ c' ∧ ∀ x, a' = some x → ∃ y, a = some y ∧ x.block = y.block := by
  refine ⟨_, _, rfl, ?_, by show n - 1 ≤ c - 1; omega, fun x hx => ?_⟩
  rotate_left
  · split at hx
    · exact ⟨x, hx, rfl⟩
    · cases a with
      | none => cases hx
      | some y => injection hx with hx; exact ⟨y, rfl, by rw [← hx]; rfl⟩
  have hl := h.1
  rw [List.length_map, Nat.mul_one] at hl
  have h3 := RdS.sub h (lo := 1) (hi := n) h1 (Nat.le_refl _) (c' := c - 1) (b' := if (c : Int) = 1 then a else Option.map (fun x => x.add (Int.toNat 1 * 1)) a) (fun hlt => by rw [if_neg (by omega)]; rfl)
  rw [Nat.mul_one, Nat.mul_one, List.take_of_length_le (by simp; omega), List.drop_one, ← List.map_tail] at h3
  exact h3

/-- A slice of the call's own, as a slice value. -/
theorem sl_val {H : Hp} {v : Value} {n : Nat} {xs : List Value} {fp : Option Nat} (h : Sl H 1 v n xs fp) : ∃ a c, v = .slice a n c ∧ n ≤ c := by
  obtain ⟨_, h⟩ := h
  cases fp with
  | none => obtain ⟨rfl, rfl⟩ := h; exact ⟨_, _, rfl, Nat.le_refl _⟩
  | some b => obtain ⟨l, c, rfl, _, hc, _⟩ := h; exact ⟨_, _, rfl, hc⟩

end Go.Proofs.Ytbnaicgmnadkgaa
