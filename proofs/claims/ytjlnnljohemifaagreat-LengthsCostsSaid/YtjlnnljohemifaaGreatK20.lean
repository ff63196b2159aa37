/-
  Texts put behind each other by a program: Sub, Push, Trs26, Light26, Get, OrdI, Ord, Entry, Cells, Cells2, Nest, CellsW, Ref05, Row, Up, Add, Clone, First, Down, Heap, Ltw, JoinW, HmW, Cq, Spine, Left, Left2, Carry, Arena, Eds, IdxI, Arena2, NwP, NestP, Pq, Pq2.
-/
import Derived.Test.YtjlnnljohemifaaGreatK0
import Derived.Test.YtjlnnljohemifaaGreatK1
import Derived.Test.YtjlnnljohemifaaGreatK9
import Derived.Test.YtjlnnljohemifaaGreatK17
import Derived.Test.YtjlnnljohemifaaGreatK19
set_option linter.unusedVariables false
set_option linter.unusedSimpArgs false
namespace Go.Proofs.YtjlnnljohemifaaGreat
open Go Go.Vc
theorem RdS.sub {H : Hp} {size n c : Nat} {a : Option Addr} {xs : List Value} (h : RdS H size (.slice a n c) n xs) {lo hi : Nat} (h1 : lo ≤ hi) (h2 : hi ≤ n) {b' : Option Addr} {c' : Nat} (hb : lo < hi → b' = a.map (·.add (lo * size))) :
    RdS H size (.slice b' (hi - lo) c') (hi - lo) ((xs.drop (lo * size)).take ((hi - lo) * size)) := by
  obtain ⟨hl, hv⟩ := h
  have e1 : (hi - lo) * size = hi * size - lo * size := Nat.sub_mul _ _ _
  have e2 : hi * size ≤ n * size := Nat.mul_le_mul_right _ h2
  have e3 : lo * size ≤ hi * size := Nat.mul_le_mul_right _ h1
  refine ⟨by rw [List.length_take, List.length_drop, hl]; omega, ?_⟩
  by_cases hlt : lo < hi
  · rcases hv with ⟨hn, _⟩ | ⟨b, o, c2, l, hs, hrd, hle, ht⟩
    · omega
    · right
      injection hs with hs1 hs2 hs3
      subst hs1
      rw [hb hlt]
      refine ⟨b, o + lo * size, c', l, ?_, hrd, by omega, ?_⟩
      · simp [Addr.add]
      · rw [← ht, List.drop_take, List.drop_drop, List.take_take, Nat.min_eq_left (by omega)]
  · left
    exact ⟨by omega, b', c', by rw [show hi - lo = 0 by omega]⟩
theorem ones_is (l : List Int) : allOne (l.map i64) := fun v hv => by
  obtain ⟨x, _, rfl⟩ := List.mem_map.1 hv
  rfl
theorem pushO {H : Hp} {T B : Nat} {w : Value} {xs : List Int} {fp : Option Nat} {K : Value → Hp → Prop} (hfp : ∀ b, fp = some b → B ≤ b) (hB : B ≤ H.size) (s : Sl H 1 w xs.length (xs.map i64) fp) (x : Int) (hl : xs.length ≤ 1000000000000)
    (hk : ∀ w' H' fp', (∀ b, fp' = some b → B ≤ b) → Sl H' 1 w' (xs ++ [x]).length ((xs ++ [x]).map i64) fp' → Ext (fun z => B ≤ z) H H' → K w' H') :
    AppendV T 1 8 [i64 0] w (.slice (some ⟨H.size, 0, none⟩) 1 1) (H.new T [i64 x]) K := by
  have fl : Fresh H (H.new T [i64 x]) := (Ext.refl _ _).new _ _
  refine Sl.append (s.ext fl (fun _ _ h => h)) (Sl.lit_at (size := 1) (n := 1) (xs := [i64 x]) rfl rfl).rd rfl (ones_is [x]) (by omega) ?_
  intro v' H' fp' s' e' hf'
  refine hk v' H' fp' (fun b hb => ?_) (by rw [List.length_append, List.map_append]; exact s') ⟨Nat.le_trans fl.size e'.size, fun z hz hn => ?_⟩
  · rcases hf' with h | ⟨b', hb', h1, h2⟩
    · exact hfp b (by rw [← h]; exact hb)
    · rw [hb] at hb'; injection hb' with hb'; have := fl.size; omega
  · rw [e'.keep z (Nat.lt_of_lt_of_le hz fl.size) (fun h => hn (hfp z h)), fl.keep z hz (fun h => h)]
theorem pushS {H : Hp} {T B b : Nat} {w : Value} {xs : List Int} {K : Value → Hp → Prop} (hb : B ≤ b) (hB : B ≤ H.size) (s : Sl H 1 w xs.length (xs.map i64) (some b)) (x : Int) (hl : xs.length ≤ 1000000000000)
    (hk : ∀ w' H' b', B ≤ b' → Sl H' 1 w' (xs ++ [x]).length ((xs ++ [x]).map i64) (some b') → Ext (fun z => B ≤ z) H H' → K w' H') :
    AppendV T 1 8 [i64 0] w (.slice (some ⟨H.size, 0, none⟩) 1 1) (H.new T [i64 x]) K := by
  refine pushO (fun b' h => by injection h with h; omega) hB s x hl fun w' H' fp' hf s' e' => ?_
  cases fp' with
  | none =>
    obtain ⟨_, h0, _⟩ := s'
    simp at h0
  | some b' => exact hk w' H' b' (hf b' rfl) s' e'
theorem pushE {H : Hp} {T b : Nat} {w : Value} {xs : List Int} {K : Value → Hp → Prop} (s : Sl H 1 w xs.length (xs.map i64) (some b)) (x : Int) (hl : xs.length ≤ 1000000000000)
    (hk : ∀ w' H' b', (b' = b ∨ H.size ≤ b') → Sl H' 1 w' (xs ++ [x]).length ((xs ++ [x]).map i64) (some b') → Ext (fun z => z = b) H H' → K w' H') :
    AppendV T 1 8 [i64 0] w (.slice (some ⟨H.size, 0, none⟩) 1 1) (H.new T [i64 x]) K := by
  have fl : Fresh H (H.new T [i64 x]) := (Ext.refl _ _).new _ _
  refine Sl.append (s.ext fl (fun _ _ h => h)) (Sl.lit_at (size := 1) (n := 1) (xs := [i64 x]) rfl rfl).rd rfl (ones_is [x]) (by omega) ?_
  intro v' H' fp' s' e' hf'
  have e2 : Ext (fun z => z = b) H H' := ⟨Nat.le_trans fl.size e'.size, fun z hz hn => by
    rw [e'.keep z (Nat.lt_of_lt_of_le hz fl.size) (fun h => hn (by injection h with h; exact h.symm)), fl.keep z hz (fun h => h)]⟩
  have s2 : Sl H' 1 v' (xs ++ [x]).length ((xs ++ [x]).map i64) fp' := by rw [List.length_append, List.map_append]; exact s'
  rcases hf' with rfl | ⟨b', rfl, h1, h2⟩
  · exact hk v' H' b (.inl rfl) s2 e2
  · rw [size_new] at h1
    exact hk v' H' b' (.inr (by omega)) s2 e2
theorem Sl.num {H : Hp} {a : Option Addr} {n c : Nat} {xs : List Int} {b : Nat} (h : Sl H 1 (.slice a n c) n (xs.map i64) (some b)) {i : Nat} {x : Int} (hx : xs[i]? = some x) :
    i < n ∧ a = some ⟨b, 0, none⟩ ∧ ∃ lb, H.own b = some lb ∧ lb[i]? = some (i64 x) := by
  have hl := h.1
  rw [List.length_map, Nat.mul_one] at hl
  have hi := (List.getElem?_eq_some_iff.1 hx).1
  obtain ⟨_, l, c2, hs, ho, hc, hle, ht⟩ := h
  injection hs with hs1 hs2 hs3
  refine ⟨by omega, hs1, l, ho, ?_⟩
  have h7 : (xs.map i64)[i]? = some (i64 x) := by rw [List.getElem?_map, hx]; rfl
  rw [← ht, List.getElem?_take, if_pos (by omega)] at h7
  exact h7
def cellsT (t : Int × Value) : List Value := [i64 t.1, t.2]
def flatT (l : List (Int × Value)) : List Value := l.flatMap cellsT
theorem flatT_cons (t : Int × Value) (l : List (Int × Value)) : flatT (t :: l) = cellsT t ++ flatT l := rfl
theorem flatT_app (a b : List (Int × Value)) : flatT (a ++ b) = flatT a ++ flatT b := List.flatMap_append ..
theorem flatT_len (l : List (Int × Value)) : (flatT l).length = l.length * 2 := by
  induction l with
  | nil => rfl
  | cons r rs ih => rw [flatT_cons, List.length_append, ih, List.length_cons]; show 2 + _ = _; omega
theorem flatT_drop : ∀ (rs : List (Int × Value)) (i : Nat), (flatT rs).drop (i * 2) = flatT (rs.drop i) := by
  intro rs
  induction rs with
  | nil => intro i; simp [flatT]
  | cons x rs ih =>
    intro i
    cases i with
    | zero => rfl
    | succ i =>
      rw [flatT_cons, show (i + 1) * 2 = 2 + i * 2 by omega, ← List.drop_drop, List.drop_left' (by rfl)]
      exact ih i
theorem flatT_take : ∀ (rs : List (Int × Value)) (i : Nat), (flatT rs).take (i * 2) = flatT (rs.take i) := by
  intro rs
  induction rs with
  | nil => intro i; simp [flatT]
  | cons x rs ih =>
    intro i
    cases i with
    | zero => simp [flatT]
    | succ i =>
      have key : ∀ (p q : Value) (l : List Value) (n : Nat), (p :: q :: l).take (2 + n) = p :: q :: l.take n := fun p q l n => by rw [show 2 + n = n + 1 + 1 by omega]; rfl
      rw [flatT_cons, List.take_succ_cons, flatT_cons, show (i + 1) * 2 = 2 + i * 2 by omega, ← ih i]
      exact key _ _ _ _
theorem flatT_at (rs : List (Int × Value)) (i : Nat) (r : Int × Value) (h : rs[i]? = some r) : ((flatT rs).drop (i * 2)).take 2 = cellsT r := by
  have h1 := (List.getElem?_eq_some_iff.1 h)
  obtain ⟨hi, h1⟩ := h1
  rw [flatT_drop, show (2 : Nat) = 1 * 2 by rfl, flatT_take, List.drop_eq_getElem_cons hi, h1]
  rfl
theorem ones_T {l : List (Int × Value)} (h : ∀ t ∈ l, ∃ a n c, t.2 = .slice a n c) : allOne (flatT l) := fun v hv => by
  obtain ⟨r, hr, h1⟩ := List.mem_flatMap.1 hv
  simp only [cellsT, List.mem_cons, List.not_mem_nil, or_false] at h1
  rcases h1 with rfl | rfl
  · rfl
  · obtain ⟨a, n, c, e⟩ := h r hr
    rw [e]; rfl
theorem RdS.tree {H : Hp} {a : Option Addr} {n c : Nat} {rs : List (Int × Value)} (h : RdS H 2 (.slice a n c) n (flatT rs)) {i : Nat} {r : Int × Value} (hx : rs[i]? = some r) :
    i < n ∧ ∃ b o lb, a = some ⟨b, o, none⟩ ∧ H.rd b = some lb ∧ o + i * 2 + 2 ≤ lb.length ∧ (lb.drop (o + i * 2)).take 2 = cellsT r ∧ lb[o + i * 2]? = some (i64 r.1) ∧ lb[o + i * 2 + 1]? = some r.2 := by
  obtain ⟨hl, hv⟩ := h
  rw [flatT_len] at hl
  have hi : i < rs.length := by
    rcases Nat.lt_or_ge i rs.length with h | h
    · exact h
    · rw [List.getElem?_eq_none h] at hx; cases hx
  refine ⟨by omega, ?_⟩
  rcases hv with ⟨hn, _⟩ | ⟨b, o, c2, l, hs, hrd, hle, ht⟩
  · omega
  · injection hs with hs1 hs2 hs3
    have h5 : (l.drop (o + i * 2)).take 2 = cellsT r := by
      have h7 := flatT_at rs i r hx
      rw [← ht, List.drop_take, List.take_take, List.drop_drop, Nat.min_eq_left (by omega)] at h7
      exact h7
    have key : ∀ k v, (cellsT r)[k]? = some v → l[o + i * 2 + k]? = some v := fun k v hv => by
      rw [← h5, List.getElem?_take] at hv
      split at hv
      · rw [List.getElem?_drop] at hv; exact hv
      · cases hv
    exact ⟨b, o, l, hs1, hrd, by omega, h5, by simpa using key 0 _ rfl, by simpa using key 1 _ rfl⟩
theorem slc_T {H : Hp} {a : Option Addr} {n c : Nat} {xs : List (Int × Value)} (h : RdS H 2 (.slice a n c) n (flatT xs)) {lo hi : Nat} (h1 : lo ≤ hi) (h2 : hi ≤ n) {b' : Option Addr} {c' : Nat} (hb : lo < hi → b' = a.map (·.add (lo * 2))) :
    RdS H 2 (.slice b' (hi - lo) c') (hi - lo) (flatT ((xs.drop lo).take (hi - lo))) := by
  have h4 := RdS.sub h (lo := lo) (hi := hi) h1 h2 (c' := c') hb
  rw [flatT_drop, flatT_take] at h4
  exact h4
def HasM (H : Hp) (S : Nat → Prop) (u : Int × Value) (t : Int × List Int) : Prop :=
  u.1 = t.1 ∧ ∃ a c, u.2 = .slice a t.2.length c ∧ RdS H 1 (.slice a t.2.length c) t.2.length (t.2.map i64) ∧ t.2.length ≤ c ∧ ∀ x, a = some x → x.block < H.size ∧ ¬ S x.block
theorem RdS.keepB {H H' : Hp} {size n c : Nat} {a : Option Addr} {xs : List Value} {S : Nat → Prop} (h : RdS H size (.slice a n c) n xs) (e : Ext S H H') (hs : ∀ x, a = some x → ¬ S x.block) : RdS H' size (.slice a n c) n xs := by
  obtain ⟨hl, hv⟩ := h
  refine ⟨hl, ?_⟩
  rcases hv with h | ⟨b, o, c2, l, hsl, hrd, hle, ht⟩
  · exact .inl h
  · right
    injection hsl with h1 h2 h3
    exact ⟨b, o, c2, l, by rw [h1, h3], e.rd hrd (hs ⟨b, o, none⟩ h1), hle, ht⟩
theorem HasM.ext {H H' : Hp} {S S' E : Nat → Prop} {u : Int × Value} {t : Int × List Int} (h : HasM H S u t) (e : Ext E H H') (he : ∀ z, z < H.size → E z → S z) (hs : ∀ z, z < H.size → S' z → S z) : HasM H' S' u t := by
  obtain ⟨h1, a, c, h2, h3, h4, h5⟩ := h
  refine ⟨h1, a, c, h2, RdS.keepB h3 e (fun x hx hh => (h5 x hx).2 (he _ (h5 x hx).1 hh)), h4, fun x hx => ⟨Nat.lt_of_lt_of_le (h5 x hx).1 e.size, fun hh => (h5 x hx).2 (hs _ (h5 x hx).1 hh)⟩⟩
def SlcT (us : List (Int × Value)) : Prop := ∀ u ∈ us, ∃ a n c, u.2 = Value.slice a n c
set_option maxHeartbeats 1000000 in
theorem ref26_lightest_spec {H : Hp} {a : Option Addr} {c : Nat} {us : List (Int × Value)} (h : RdS H 2 (.slice a us.length c) us.length (flatT us)) (hs : SlcT us) (hm : us.length ≤ 1000000) (h0 : 0 < us.length) :
    CallH Tryz.prog n_ref26_lightest [.slice a us.length c] H fun v H' => Post (∃ p : Nat, v = i64 p ∧ IsL (us.map (·.1)) p ∧ Fresh H H') := by
  refine ccT d_ref26_lightest ⟨rfl, ?_⟩
  refine v1 s_ref26_lightest.eq_1 ?_
  refine LoopV.intro (fun m env H' => Fresh H H' ∧ ∃ (j p : Nat), m = us.length - j ∧ j ≤ us.length ∧ p < us.length ∧ (p < j ∨ (p = 0 ∧ j = 0)) ∧ (∀ (k : Nat) (x y : Int), k < j → (us.map (·.1))[k]? = some x → (us.map (·.1))[p]? = some y → y ≤ x ∧ (k < p → y < x)) ∧
    env = [(0, .slice a us.length c), (3, i64 p), (6, .slice a us.length c), (7, i64 us.length), (8, i64 j)]) us.length ⟨Ext.refl _ _, 0, 0, by omega, by omega, h0, .inr ⟨rfl, rfl⟩, (fun k x y hk => by omega), rfl⟩ ?_
  rintro m env H1 ⟨f1, j, p, rfl, hj, hp, hpj, hle, rfl⟩
  refine vs ?_
  refine Both.dec (fun hlt => ?_) (fun hlt => ?_) <;> refine vs ?_
  · have hj2 : j < us.length := by omega
    obtain ⟨r, hr⟩ : ∃ r, us[j]? = some r := ⟨_, List.getElem?_eq_getElem hj2⟩
    obtain ⟨q, hq⟩ : ∃ q, us[p]? = some q := ⟨_, List.getElem?_eq_getElem hp⟩
    obtain ⟨_, b, o, lb, rfl, hrd, hln, hcells, hc1, hc2⟩ := RdS.tree (h.fresh f1) hr
    obtain ⟨a2, n2, c2, hr2⟩ := hs r (List.mem_of_getElem? hr)
    have hcr : cellsT r = [i64 r.1, .slice a2 n2 c2] := by unfold cellsT; rw [hr2]
    rw [hcr] at hcells
    refine ⟨⟨by omega, by omega⟩, ?_⟩
    refine v3 hrd Int.toNat_natCast hcells ?_
    refine ⟨by omega, ?_⟩
    have q2 := own_new H1 88 [i64 0, .slice none 0 0]
    refine v2 hcells q2 ?_
    have q3 := own_wr_same (l := [i64 r.1, .slice a2 n2 c2]) q2
    have f3 : Fresh H1 ((H1.new 88 [i64 0, .slice none 0 0]).wr H1.size [i64 r.1, .slice a2 n2 c2]) := ((Ext.refl _ _).new _ _ : Fresh H1 _).then ((Ext.refl (fun z => z = H1.size) _).wr (fun _ => rfl) _) (fun z hz => by omega)
    generalize (H1.new 88 [i64 0, .slice none 0 0]).wr H1.size [i64 r.1, .slice a2 n2 c2] = H3 at *
    refine v1 (rd_of_own q3) ?_
    obtain ⟨_, b', o', lb', hab, hrd', hln', _, hd1, _⟩ := RdS.tree ((h.fresh f1).fresh f3) hq
    injection hab with hab
    injection hab with hb hoo
    subst hb hoo
    refine ⟨⟨by omega, by omega⟩, ?_⟩
    refine v4 hrd' Int.toNat_natCast Nat.add_zero hd1 ?_
    have hst := isL_step (ws := us.map (·.1)) (j := j) (b := p) (x := r.1) (y := q.1) (by rw [List.getElem?_map, hr]; rfl) (by rw [List.getElem?_map, hq]; rfl)
    have hyq : (us.map (·.1))[p]? = some q.1 := by rw [List.getElem?_map, hq]; rfl
    have hyr : (us.map (·.1))[j]? = some r.1 := by rw [List.getElem?_map, hr]; rfl
    refine Both.dec (fun g => ?_) (fun g => ?_) <;> refine vs ?_
    · rw [wrap64 (n := (j : Int) + 1) (by omega) (by omega)]
      refine ⟨us.length - (j + 1), by omega, f1.trans f3, j + 1, j, rfl, by omega, hj2, by omega, fun k x y hk hx hy => ?_, rfl⟩
      rw [hyr] at hy
      injection hy with hy
      subst hy
      rcases hpj with hpj | ⟨e1, e2⟩
      · exact (hst hpj (fun k z hk hz => hle k z q.1 hk hz hyq)).1 g k x hk hx
      · have : k = j := by omega
        rw [this, hyr] at hx
        injection hx with hx
        omega
    · rw [wrap64 (n := (j : Int) + 1) (by omega) (by omega)]
      refine ⟨us.length - (j + 1), by omega, f1.trans f3, j + 1, p, rfl, by omega, hp, by omega, fun k x y hk hx hy => ?_, rfl⟩
      rw [hyq] at hy
      injection hy with hy
      subst hy
      rcases hpj with hpj | ⟨e1, e2⟩
      · exact (hst hpj (fun k z hk hz => hle k z q.1 hk hz hyq)).2 g k x hk hx
      · have : k = p := by omega
        rw [this, hyq] at hx
        injection hx with hx
        omega
  · have hj2 : j = us.length := by omega
    subst hj2
    refine ⟨p, rfl, ⟨by rw [List.length_map]; exact hp, fun k x y hx hy => hle k x y ?_ hx hy⟩, f1⟩
    have := (List.getElem?_eq_some_iff.1 hx).1
    rwa [List.length_map] at this
theorem eraseIdx_td {α : Type} (l : List α) (i : Nat) : l.eraseIdx i = l.take i ++ l.drop (i + 1) := List.eraseIdx_eq_take_drop_succ l i
set_option maxHeartbeats 1000000 in
theorem ref26_without_spec {H : Hp} {a : Option Addr} {c : Nat} {us : List (Int × Value)} (h : RdS H 2 (.slice a us.length c) us.length (flatT us)) (hc : us.length ≤ c) (hs : SlcT us) (hm : us.length ≤ 1000000) {i : Nat} (hi : i < us.length) :
    CallH Tryz.prog n_ref26_without [.slice a us.length c, i64 i] H fun v H' => Post (Fresh H H' ∧ ∃ fp, Sl H' 2 v (us.eraseIdx i).length (flatT (us.eraseIdx i)) fp ∧ ∀ b, fp = some b → H.size ≤ b) := by
  refine ccT d_ref26_without ⟨rfl, ?_⟩
  refine v1 s_ref26_without.eq_1 ?_
  have f1 : Fresh H (H.new 88 []) := (Ext.refl _ _).new _ _
  have s1 : Sl (H.new 88 []) 2 (.slice (some ⟨H.size, 0, none⟩) 0 0) 0 (flatT []) (some H.size) := Sl.lit H _ 2 0 [] rfl
  have z1 : (H.new 88 []).size = H.size + 1 := size_new _ _ _
  generalize H.new 88 [] = H1 at *
  generalize Value.slice (some ⟨H.size, 0, none⟩) 0 0 = lv0 at *
  refine ⟨⟨by omega, by omega, by omega, by omega⟩, ?_⟩
  refine vs ?_
  have r1 := slc_T (h.fresh f1) (lo := 0) (hi := i) (by omega) (by omega) (b' := if (c : Int) = 0 then a else Option.map (fun x : Addr => x.add ((0 : Int).toNat * 2)) a) (c' := (c : Int).toNat - (0 : Int).toNat) (fun hlt => by rw [if_neg (by omega)]; rfl)
  rw [List.drop_zero] at r1
  refine Sl.append s1 (m := i) (ys := flatT (us.take i)) ?_ rfl (ones_T fun t ht => hs t (List.mem_of_mem_take ht)) (by omega) fun v2 H2 fp2 s2 e2 hf2 => ?_
  · exact r1
  have e12 : ∀ b, fp2 = some b → H.size ≤ b := fun b hb => by
    rcases hf2 with rfl | ⟨b', rfl, h1, _⟩
    · injection hb with hb; omega
    · injection hb with hb; omega
  have g2 : Fresh H H2 := f1.then e2 (fun z hz => by injection hz with hz; omega)
  refine vs ?_
  rw [wrap64 (n := (i : Int) + 1) (by omega) (by omega)]
  refine ⟨⟨by omega, by omega, by omega, by omega⟩, ?_⟩
  refine vs ?_
  have r2 := slc_T (h.fresh g2) (lo := i + 1) (hi := us.length) (by omega) (by omega) (b' := if (c : Int) = (i : Int) + 1 then a else Option.map (fun x : Addr => x.add (((i : Int) + 1).toNat * 2)) a) (c' := (c : Int).toNat - ((i : Int) + 1).toNat) (fun hlt => by rw [if_neg (by omega)]; rfl)
  refine Sl.append s2 (m := us.length - (i + 1)) (ys := flatT ((us.drop (i + 1)).take (us.length - (i + 1)))) ?_ rfl (ones_T fun t ht => hs t (List.mem_of_mem_drop (List.mem_of_mem_take ht))) (by omega) fun v3 H3 fp3 s3 e3 hf3 => ?_
  · exact r2
  refine vs ?_
  have hl : 0 + i + (us.length - (i + 1)) = (us.eraseIdx i).length := by rw [List.length_eraseIdx, if_pos hi]; omega
  have hx : flatT [] ++ flatT (us.take i) ++ flatT ((us.drop (i + 1)).take (us.length - (i + 1))) = flatT (us.eraseIdx i) := by
    rw [List.take_of_length_le (l := us.drop (i + 1)) (by rw [List.length_drop]; omega), eraseIdx_td, flatT_app]
    rfl
  rw [hl, hx] at s3
  refine ⟨g2.then e3 (fun z hz => e12 z hz), fp3, s3, fun b hb => ?_⟩
  rcases hf3 with rfl | ⟨b', rfl, h1, _⟩
  · exact e12 b hb
  · injection hb with hb
    have := g2.size
    omega
theorem RdS.get {H : Hp} {size n : Nat} {v : Value} {xs : List Value} (h : RdS H size v n xs) {i j : Nat} {x : Value} (hj : j < size) (hx : xs[i * size + j]? = some x) :
    ∃ b o c l, v = .slice (some ⟨b, o, none⟩) n c ∧ H.rd b = some l ∧ i < n ∧ l[o + i * size + j]? = some x := by
  obtain ⟨hl, ⟨rfl, a, c, rfl⟩ | ⟨b, o, c, l, rfl, h2, h3, h4⟩⟩ := h
  · rw [List.getElem?_eq_none (by omega)] at hx; cases hx
  · have hlt : i * size + j < n * size := by
      have := (List.getElem?_eq_some_iff.1 hx).1; omega
    refine ⟨b, o, c, l, rfl, h2, ?_, ?_⟩
    · rcases Nat.lt_or_ge i n with h | h
      · exact h
      · have := Nat.mul_le_mul_right size h; omega
    · rw [← h4, List.getElem?_take_of_lt hlt, List.getElem?_drop] at hx
      rw [← hx]; congr 1; omega
def cmpI (a b : Int) : Int := if a < b then -1 else if b < a then 1 else 0
theorem cmp_isNaN_int64_spec (a : Int) (H : Hp) : CallH Tryz.prog n_cmp_isNaN_int64 [i64 a] H fun v H' => Post (v = .bool false ∧ H = H') := by
  refine ccT d_cmp_isNaN_int64 ⟨rfl, ?_⟩
  refine v2 s_cmp_isNaN_int64.eq_1 decide_true ?_
  exact ⟨rfl, rfl⟩
theorem cmp_isNaN_uint64_spec (a : Int) (H : Hp) : CallH Tryz.prog n_cmp_isNaN_uint64 [u64 a] H fun v H' => Post (v = .bool false ∧ H = H') := by
  refine ccT d_cmp_isNaN_uint64 ⟨rfl, ?_⟩
  refine v2 s_cmp_isNaN_uint64.eq_1 decide_true ?_
  exact ⟨rfl, rfl⟩
theorem cmp_Compare_int64_spec (a b : Int) (H : Hp) : CallH Tryz.prog n_cmp_Compare_int64 [i64 a, i64 b] H fun v H' => Post (v = i64 (cmpI a b) ∧ H = H') := by
  refine ccT d_cmp_Compare_int64 ⟨rfl, ?_⟩
  refine v1 s_cmp_Compare_int64.eq_1 ?_
  refine (cmp_isNaN_int64_spec a H).mono ?_
  rintro _ _ ⟨rfl, rfl⟩
  refine vs ?_
  refine (cmp_isNaN_int64_spec b H).mono ?_
  rintro _ _ ⟨rfl, rfl⟩
  refine vs ?_
  refine Both.dec (fun h => ?_) (fun h => ?_) <;> refine vs ?_
  · exact ⟨congrArg i64 (by simp [cmpI, h]), rfl⟩
  · refine Both.dec (fun h2 => ?_) (fun h2 => ?_) <;> refine vs ?_
    · exact ⟨congrArg i64 (by simp [cmpI, h, show b < a from h2]), rfl⟩
    · exact ⟨congrArg i64 (by simp [cmpI, h, show ¬ b < a from h2]), rfl⟩
theorem cmp_Compare_uint64_spec (a b : Int) (H : Hp) : CallH Tryz.prog n_cmp_Compare_uint64 [u64 a, u64 b] H fun v H' => Post (v = i64 (cmpI a b) ∧ H = H') := by
  refine ccT d_cmp_Compare_uint64 ⟨rfl, ?_⟩
  refine v1 s_cmp_Compare_uint64.eq_1 ?_
  refine (cmp_isNaN_uint64_spec a H).mono ?_
  rintro _ _ ⟨rfl, rfl⟩
  refine vs ?_
  refine (cmp_isNaN_uint64_spec b H).mono ?_
  rintro _ _ ⟨rfl, rfl⟩
  refine vs ?_
  refine Both.dec (fun h => ?_) (fun h => ?_) <;> refine vs ?_
  · exact ⟨congrArg i64 (by simp [cmpI, h]), rfl⟩
  · refine Both.dec (fun h2 => ?_) (fun h2 => ?_) <;> refine vs ?_
    · exact ⟨congrArg i64 (by simp [cmpI, h, show b < a from h2]), rfl⟩
    · exact ⟨congrArg i64 (by simp [cmpI, h, show ¬ b < a from h2]), rfl⟩
def orI (xs : List Int) : Int := (xs.find? fun x => x ≠ 0).getD 0
theorem cmp_Or_int_spec {H : Hp} {v : Value} {n : Nat} {xs : List Int} (h : RdS H 1 v n (xs.map i64)) (hn : n ≤ 1000000) (hs : ∃ a c, v = .slice a n c) :
    CallH Tryz.prog n_cmp_Or_int [v] H fun r H' => Post (r = i64 (orI xs) ∧ H = H') := by
  obtain ⟨a, c, rfl⟩ := hs
  have hlen : xs.length = n := by have := h.1; simpa using this
  refine ccT d_cmp_Or_int ⟨rfl, ?_⟩
  refine v1 s_cmp_Or_int.eq_1 ?_
  refine LoopV.intro (fun m env H1 => ∃ k : Nat, env = [(3, i64 0), (6, .slice a n c), (7, i64 n), (8, i64 k)] ∧ H1 = H ∧ k ≤ n ∧ m = n - k ∧ ∀ j, j < k → xs[j]? = some 0) n ⟨0, rfl, rfl, by omega, by omega, fun j hj => by omega⟩ ?_
  rintro m env H1 ⟨k, rfl, rfl, hk, rfl, hz⟩
  refine vs ?_
  refine Both.dec (fun hlt => ?_) (fun hlt => ?_) <;> refine vs ?_
  · have hkn : k < xs.length := by omega
    obtain ⟨b, o, c', l, hv, hr, _, hg⟩ := RdS.get h (i := k) (j := 0) (x := i64 xs[k]) (by omega) (by simp [hkn])
    injection hv with e1 e2 e3
    subst e1
    refine ⟨by omega, ?_⟩
    simp only [Nat.mul_one, Nat.add_zero] at hg
    refine v4 hr Int.toNat_natCast Nat.mul_one hg ?_
    refine Both.dec (fun h0 => ?_) (fun h0 => ?_) <;> refine vs ?_
    · rw [wrap64 (by omega) (by omega)]
      refine ⟨n - (k + 1), by omega, k + 1, rfl, trivial, by omega, rfl, fun j hj => ?_⟩
      by_cases e : j = k
      · subst e; rw [List.getElem?_eq_getElem hkn, h0]
      · exact hz j (by omega)
    · refine ⟨congrArg i64 ?_, rfl⟩
      unfold orI
      have : xs.find? (fun x => x ≠ 0) = some xs[k] := by
        rw [List.find?_eq_some_iff_getElem]
        refine ⟨by simpa using h0, k, hkn, rfl, fun j hj => ?_⟩
        have := hz j hj
        rw [List.getElem?_eq_getElem (by omega)] at this
        injection this with this
        simp [this]
      rw [this]; rfl
  · refine ⟨congrArg i64 ?_, rfl⟩
    unfold orI
    have : xs.find? (fun x => x ≠ 0) = none := by
      rw [List.find?_eq_none]
      intro x hx
      obtain ⟨j, hj, rfl⟩ := List.mem_iff_getElem.1 hx
      have := hz j (by omega)
      rw [List.getElem?_eq_getElem hj] at this
      injection this with this
      simp [this]
    rw [this]; rfl
def cmpE (k s k' s' : Int) : Int := orI [cmpI k k', cmpI s s']
def lessE (k s k' s' : Int) : Prop := k < k' ∨ k = k' ∧ s < s'
instance (k s k' s' : Int) : Decidable (lessE k s k' s') := by unfold lessE; infer_instance
theorem cmpE_neg (k s k' s' : Int) : cmpE k s k' s' < 0 ↔ lessE k s k' s' := by
  unfold cmpE lessE orI cmpI
  by_cases h1 : k < k'
  · simp [h1]
  · by_cases h2 : k' < k
    · simp [h1, h2]; omega
    · by_cases h3 : s < s'
      · simp [h1, h2, h3]; omega
      · by_cases h4 : s' < s
        · simp [h1, h2, h3, h4]
        · simp [h1, h2, h3, h4]
theorem entry_Compare_spec (k s k' s' : Int) (H : Hp) : CallH Tryz.prog n_entry_Compare [ent k s, ent k' s'] H fun v H' => Post (v = i64 (cmpE k s k' s') ∧ Fresh H H') := by
  refine ccT d_entry_Compare ⟨rfl, ?_⟩
  refine v1 s_entry_Compare.eq_1 ?_
  refine ⟨_, (cmp_Compare_int64_spec k k' _).mono fun _ _ h => ⟨h.out.1, h.out.2.symm⟩, ?_⟩
  refine (cmp_Compare_uint64_spec s s' _).mono ?_
  rintro _ _ ⟨rfl, rfl⟩
  refine vs ?_
  refine (cmp_Or_int_spec (n := 2) (xs := [cmpI k k', cmpI s s']) (Sl.lit_at (size := 1) rfl (by simp only [size_new])).rd (by omega) ⟨_, _, rfl⟩).mono ?_
  rintro _ _ ⟨rfl, rfl⟩
  exact ⟨rfl, (((Ext.refl _ _).new _ _).new _ _).new _ _⟩
theorem entry_Less_spec (k s k' s' : Int) (H : Hp) : CallH Tryz.prog n_entry_Less [ent k s, ent k' s'] H fun v H' => Post (v = .bool (decide (lessE k s k' s')) ∧ Fresh H H') := by
  refine ccT d_entry_Less ⟨rfl, ?_⟩
  refine v1 s_entry_Less.eq_1 ?_
  refine (entry_Compare_spec k s k' s' _).mono ?_
  rintro _ _ ⟨rfl, hf⟩
  refine vs ?_
  refine ⟨congrArg Value.bool (by rw [decide_eq_decide]; exact cmpE_neg _ _ _ _), ?_⟩
  exact (((Ext.refl _ _).new _ _).new _ _).trans hf
def stepsI (m n : Int) : Int := if n ≤ 0 then m else if n > 4611686018427387904 - m then 4611686018427387904 else m + n
theorem gauge_Count_spec {H : Hp} {b : Nat} {m : Int} {r : List Value} (h : H.own b = some (i64 m :: r)) (hm : 0 ≤ m ∧ m ≤ 4611686018427387904) (n : Int) (hn : n ≤ 4611686018427387904) :
    CallH Tryz.prog n_gauge_Meter_Count [ptr b, i64 n] H fun v H' => Post (v = .tuple [].toArray ∧ H' = H.wr b (i64 (stepsI m n) :: r) ∨ v = .tuple [].toArray ∧ H' = H ∧ stepsI m n = m) := by
  refine ccT d_gauge_Meter_Count ⟨rfl, ?_⟩
  refine v1 s_gauge_Meter_Count.eq_1 ?_
  refine Both.dec (fun h0 => ?_) (fun h0 => ?_) <;> refine v1 (rd_of_own h) ?_
  · exact .inr ⟨rfl, rfl, by simp [stepsI, h0]⟩
  · rw [wrap64 (by omega) (by omega)]
    refine Both.dec (fun h1 => ?_) (fun h1 => ?_) <;> refine v2 (rd_of_own h) h ?_
    · exact .inl ⟨rfl, by rw [stepsI, if_neg h0, if_pos h1]⟩
    · exact .inl ⟨rfl, by rw [stepsI, if_neg h0, if_neg h1, wrap64 (by omega) (by omega)]⟩
abbrev Ce := Int × Int × Int
def flatC (cs : List Ce) : List Value := cs.flatMap fun c => [i64 c.1, i64 c.2.1, u64 c.2.2]
theorem flatC_length (cs : List Ce) : (flatC cs).length = cs.length * 3 := by
  induction cs with
  | nil => rfl
  | cons c r ih => simp only [flatC, List.flatMap_cons, List.length_append, List.length_cons, List.length_nil] at *; omega
theorem flatC_rep (n : Nat) : flatC (List.replicate n (0, 0, 0)) = padZ [.int .i64 0, .int .i64 0, .int .u64 0] n := by
  simp [flatC, padZ, List.flatMap_def, List.map_replicate]
theorem NamesAt.lt2 {H : Hp} {b s len : Nat} {rt : Nat → Nat} {most : Int} (h : NamesAt H b s len rt most) : s < H.size := by
  obtain ⟨⟨sv, into, cnt, a1, a2, a3⟩, _⟩ := h
  exact a2.lt
structure CellsAt (H : Hp) (c : Nat) (S : Nat → Prop) (st : Int) (cs : List Ce) (len : Nat) (rt : Nat → Nat) (many : Int → Option Int) : Prop where
  rep : ∃ fb nb ns mb, H.own c = some [i64 st, .slice (some ⟨fb, 0, none⟩) cs.length cs.length, ptr nb, .map (some mb)] ∧ H.own fb = some (flatC cs) ∧ NamesAt H nb ns len rt 65536 ∧ IMap H mb (fun i => (many i).map i64) ∧
    (S c ∧ S fb ∧ S nb ∧ S ns ∧ S mb) ∧ (c ≠ fb ∧ c ≠ nb ∧ c ≠ ns ∧ c ≠ mb) ∧ (fb ≠ nb ∧ fb ≠ ns ∧ fb ≠ mb) ∧ (nb ≠ mb ∧ ns ≠ mb)
  st0 : 0 ≤ st
  st1 : st ≤ 4611686018427387904
  csl : cs.length ≤ 65536
  slt : ∀ x, S x → x < H.size
theorem CellsAt.ext {H H' : Hp} {c : Nat} {S T : Nat → Prop} {st : Int} {cs : List Ce} {len : Nat} {rt : Nat → Nat} {many : Int → Option Int} (h : CellsAt H c S st cs len rt many)
    (e : Ext T H H') (hd : ∀ x, S x → ¬ T x) : CellsAt H' c S st cs len rt many := by
  obtain ⟨⟨fb, nb, ns, mb, a1, a2, a3, a4, ⟨s1, s2, s3, s4, s5⟩, a6, a7⟩, h2, h3, h4, h5⟩ := h
  exact ⟨⟨fb, nb, ns, mb, e.own a1 (hd _ s1), e.own a2 (hd _ s2), a3.ext e (hd _ s3) (hd _ s4), a4.ext e (hd _ s5), ⟨s1, s2, s3, s4, s5⟩, a6, a7⟩, h2, h3, h4, fun x hx => Nat.lt_of_lt_of_le (h5 x hx) e.size⟩
theorem cells_New_spec (cap : Int) (H : Hp) : CallH Tryz.prog n_cells_New [i64 cap] H fun v H' => Post (
    Fresh H H' ∧ ((¬ (0 ≤ cap ∧ cap ≤ 65536) ∧ v = .tuple [.pointer none, i64 31].toArray) ∨
      (0 ≤ cap ∧ cap ≤ 65536) ∧ ∃ c S, v = .tuple [ptr c, i64 0].toArray ∧ CellsAt H' c S 0 (List.replicate cap.toNat (0, 0, 0)) 1 id (fun _ => none) ∧ (∀ x, S x → H.size ≤ x))) := by
  refine ccT d_cells_New ⟨rfl, ?_⟩
  refine v1 s_cells_New.eq_1 ?_
  refine Both.dec (fun h => ?_) (fun h => ?_) <;> refine vs ?_
  · exact ⟨Ext.refl _ _, .inl ⟨by omega, rfl⟩⟩
  · refine Both.dec (fun h2 => ?_) (fun h2 => ?_) <;> refine vs ?_
    · exact ⟨Ext.refl _ _, .inl ⟨by omega, rfl⟩⟩
    · refine (names_New_spec 65536 H).mono ?_
      rintro _ H1 ⟨hf, ⟨hc, _⟩ | ⟨_, nb, ns, rfl, hn, b1, b2, b3, b4⟩⟩
      · omega
      refine vs ?_
      refine ⟨by omega, ?_⟩
      refine vs ?_
      have hs : (H1.new 343 (padZ [.int .i64 0, .int .i64 0, .int .u64 0] cap.toNat)).own H1.size = some (flatC (List.replicate cap.toNat (0, 0, 0))) := by
        rw [flatC_rep]
        exact own_new _ _ _
      have he : Ext (fun _ => False) (H1.new 343 (padZ [.int .i64 0, .int .i64 0, .int .u64 0] cap.toNat)) _ :=
        ((Ext.refl _ _).newm).new 308 [.int .i64 0, .slice (some ⟨H1.size, 0, none⟩) cap.toNat cap.toNat, .pointer (some ⟨nb, 0, none⟩), .map (some (H1.size + 1))]
      have hm : IMap (H1.new 343 (padZ [.int .i64 0, .int .i64 0, .int .u64 0] cap.toNat)).newm (H1.size + 1) (fun _ => none) := by
        have := IMap.new (H1.new 343 (padZ [.int .i64 0, .int .i64 0, .int .u64 0] cap.toNat))
        rwa [size_new] at this
      have hsz := hf.size
      have hl : (List.replicate cap.toNat ((0, 0, 0) : Ce)).length = cap.toNat := List.length_replicate
      refine ⟨(hf.trans ((Ext.refl _ _).new 343 _)).trans he, .inr ⟨by omega, H1.size + 1 + 1, fun x => H.size ≤ x ∧ x < H1.size + 1 + 1 + 1, rfl, ⟨⟨H1.size, nb, ns, H1.size + 1, by rw [hl]; exact own_new_eq (by simp only [size_new, size_newm]), he.own hs (fun h => h),
        (hn.ext ((Ext.refl (fun _ => False) _).new 343 _) (fun h => h) (fun h => h)).ext he (fun h => h) (fun h => h), hm.ext ((Ext.refl (fun _ => False) _).new _ _) (fun h => h), ?_, ?_, ?_, ?_⟩, by omega, by omega, by omega, ?_⟩, fun x h => h.1⟩⟩
      · exact ⟨by omega, by omega, by omega, by omega, by omega⟩
      · exact ⟨by omega, by omega, by omega, by omega⟩
      · exact ⟨by omega, by omega, by omega⟩
      · exact ⟨by omega, by omega⟩
      · intro x hx
        simp only [size_new, size_newm]
        exact hx.2
theorem cells_Has_spec {H : Hp} {c : Nat} {S : Nat → Prop} {st : Int} {cs : List Ce} {len : Nat} {rt : Nat → Nat} {many : Int → Option Int} (h : CellsAt H c S st cs len rt many) (i : Int) :
    CallH Tryz.prog n_cells_Cells_Has [ptr c, i64 i] H fun v H' => Post (v = .bool (decide (0 < i ∧ i < len ∧ rt i.toNat = i.toNat)) ∧ H = H') := by
  obtain ⟨⟨fb, nb, ns, mb, a1, a2, a3, a4, a5, a6, a7⟩, h2, h3, h4, h5⟩ := h
  refine ccT d_cells_Cells_Has ⟨rfl, ?_⟩
  refine v2 s_cells_Cells_Has.eq_1 (rd_of_own a1) ?_
  refine (names_Has_spec a3 i).mono ?_
  rintro _ _ ⟨rfl, rfl⟩
  refine vs ?_
  exact ⟨rfl, rfl⟩
def many0 (many : Int → Option Int) (i : Int) : Int := (many i).getD 0
theorem cells_Len_spec {H : Hp} {c : Nat} {S : Nat → Prop} {st : Int} {cs : List Ce} {len : Nat} {rt : Nat → Nat} {many : Int → Option Int} (h : CellsAt H c S st cs len rt many) (i : Int) :
    CallH Tryz.prog n_cells_Cells_Len [ptr c, i64 i] H fun v H' => Post (v = i64 (many0 many i) ∧ H = H') := by
  obtain ⟨⟨fb, nb, ns, mb, a1, a2, a3, a4, a5, a6, a7⟩, h2, h3, h4, h5⟩ := h
  refine ccT d_cells_Cells_Len ⟨rfl, ?_⟩
  refine v3 s_cells_Cells_Len.eq_1 (rd_of_own a1) a4.look ?_
  refine ⟨?_, rfl⟩
  unfold many0
  cases many i <;> rfl
theorem cells_there_spec {H : Hp} {c : Nat} {S : Nat → Prop} {st : Int} {cs : List Ce} {len : Nat} {rt : Nat → Nat} {many : Int → Option Int} (h : CellsAt H c S st cs len rt many) (i : Int) :
    CallH Tryz.prog n_cells_Cells_there [ptr c, i64 i] H fun v H' => Post (v = .bool (decide (0 ≤ i ∧ i < cs.length)) ∧ H = H') := by
  obtain ⟨⟨fb, nb, ns, mb, a1, a2, a3, a4, a5, a6, a7⟩, h2, h3, h4, h5⟩ := h
  refine ccT d_cells_Cells_there ⟨rfl, ?_⟩
  refine v1 s_cells_Cells_there.eq_1 ?_
  refine Both.dec (fun h => ?_) (fun h => ?_) <;> refine v1 (rd_of_own a1) ?_
  · exact ⟨congrArg Value.bool (by rw [decide_eq_decide]; omega), rfl⟩
  · exact ⟨congrArg Value.bool (decide_eq_false (by omega)).symm, rfl⟩
theorem cell_at {cs : List Ce} {i : Nat} {c : Ce} (hi : cs[i]? = some c) :
    (flatC cs)[i * 3]? = some (i64 c.1) ∧ (flatC cs)[i * 3 + 1]? = some (i64 c.2.1) ∧ (flatC cs)[i * 3 + 2]? = some (u64 c.2.2) ∧ ((flatC cs).drop (i * 3 + 1)).take 2 = [i64 c.2.1, u64 c.2.2] := by
  have hx : ∀ (cs : List Ce) (i : Nat) (c : Ce), cs[i]? = some c → (flatC cs)[i * 3]? = some (i64 c.1) ∧ (flatC cs)[i * 3 + 1]? = some (i64 c.2.1) ∧ (flatC cs)[i * 3 + 2]? = some (u64 c.2.2) := by
    intro cs
    induction cs with
    | nil => intro i c h; simp at h
    | cons a r ih =>
      intro i c h
      have e : flatC (a :: r) = i64 a.1 :: i64 a.2.1 :: u64 a.2.2 :: flatC r := rfl
      rw [e]
      cases i with
      | zero => simp at h; subst h; exact ⟨rfl, rfl, rfl⟩
      | succ i =>
        have := ih i c (by simpa using h)
        rw [show (i + 1) * 3 = i * 3 + 3 by omega]
        simpa using this
  obtain ⟨x0, x1, x2⟩ := hx cs i c hi
  refine ⟨x0, x1, x2, ?_⟩
  apply List.ext_getElem?
  intro k
  rw [List.getElem?_take]
  match k with
  | 0 => simpa using x1
  | 1 => rw [if_pos (by omega), List.getElem?_drop]; exact x2
  | k + 2 => rw [if_neg (by omega)]; rfl
def InC (cs : List Ce) (i : Int) : Prop := 0 ≤ i ∧ ∃ c, cs[i.toNat]? = some c ∧ 0 < c.1
instance (cs : List Ce) (i : Int) : Decidable (InC cs i) :=
  match h : cs[i.toNat]? with
  | none => .isFalse fun ⟨_, c, h1, _⟩ => by rw [h] at h1; simp at h1
  | some c => if h0 : 0 ≤ i ∧ 0 < c.1 then .isTrue ⟨h0.1, c, h, h0.2⟩ else .isFalse fun ⟨h1, c', h2, h3⟩ => by rw [h] at h2; injection h2 with h2; subst h2; exact h0 ⟨h1, h3⟩
theorem cells_in_spec {H : Hp} {c : Nat} {S : Nat → Prop} {st : Int} {cs : List Ce} {len : Nat} {rt : Nat → Nat} {many : Int → Option Int} (h : CellsAt H c S st cs len rt many) (i : Int) :
    CallH Tryz.prog n_cells_Cells_in [ptr c, i64 i] H fun v H' => Post (v = .bool (decide (InC cs i)) ∧ H = H') := by
  have ht := cells_there_spec h i
  obtain ⟨⟨fb, nb, ns, mb, a1, a2, a3, a4, a5, a6, a7⟩, h2, h3, h4, h5⟩ := h
  refine ccT d_cells_Cells_in ⟨rfl, ?_⟩
  refine v1 s_cells_Cells_in.eq_1 ?_
  refine ht.mono ?_
  rintro _ _ ⟨rfl, rfl⟩
  refine vs ?_
  refine Both.dec (fun h => ?_) (fun h => ?_) <;> refine v1 (rd_of_own a1) ?_
  · obtain ⟨x, hx⟩ : ∃ x, cs[i.toNat]? = some x := ⟨_, List.getElem?_eq_getElem (by omega)⟩
    obtain ⟨x0, x1, x2, x3⟩ := cell_at hx
    refine ⟨by omega, ?_⟩
    refine v4 (rd_of_own a2) x0 Nat.add_zero Nat.zero_add ?_
    exact ⟨congrArg Value.bool (by rw [decide_eq_decide]; exact ⟨fun hh => ⟨h.1, x, hx, hh⟩, fun ⟨_, c, e1, e2⟩ => by rw [hx] at e1; injection e1 with e1; subst e1; exact e2⟩), rfl⟩
  · exact ⟨congrArg Value.bool (decide_eq_false (by rintro ⟨x, c, x1, x2⟩; have := (List.getElem?_eq_some_iff.1 x1).1; omega)).symm, rfl⟩
theorem flatC_set (cs : List Ce) (i : Nat) (c : Ce) (hi : i < cs.length) : splice (flatC cs) (i * 3) [i64 c.1, i64 c.2.1, u64 c.2.2] = flatC (cs.set i c) := by
  simp only [splice]
  induction cs generalizing i with
  | nil => simp at hi
  | cons a r ih =>
    have e : flatC (a :: r) = i64 a.1 :: i64 a.2.1 :: u64 a.2.2 :: flatC r := rfl
    cases i with
    | zero => rfl
    | succ i =>
      have e2 : flatC ((a :: r).set (i + 1) c) = i64 a.1 :: i64 a.2.1 :: u64 a.2.2 :: flatC (r.set i c) := rfl
      rw [e, e2, show (i + 1) * 3 = i * 3 + 1 + 1 + 1 by omega]
      simp only [List.set_cons_succ]
      rw [ih i (by simpa using hi)]
theorem cells_Make_spec {H : Hp} {c : Nat} {S : Nat → Prop} {st : Int} {cs : List Ce} {len : Nat} {rt : Nat → Nat} {many : Int → Option Int} (h : CellsAt H c S st cs len rt many) :
    CallH Tryz.prog n_cells_Cells_Make [ptr c] H fun v H' => Post (
      (len = 65537 ∧ v = i64 0 ∧ H = H') ∨
      (len ≠ 65537 ∧ v = i64 len ∧ ∃ S', CellsAt H' c S' st cs (len + 1) (fun i => if i = len then i else rt i) many ∧ Ext S H H' ∧ ∀ x, S' x → S x ∨ H.size ≤ x)) := by
  obtain ⟨⟨fb, nb, ns, mb, a1, a2, a3, a4, a5, a6, a7⟩, h2, h3, h4, h5⟩ := h
  refine ccT d_cells_Cells_Make ⟨rfl, ?_⟩
  refine v2 s_cells_Cells_Make.eq_1 (rd_of_own a1) ?_
  refine (names_Make_spec a3).mono ?_
  rintro _ H1 (⟨hl, rfl, rfl⟩ | ⟨hl, rfl, s', b1, b2, b3⟩)
  · refine vs ?_
    exact .inl ⟨by omega, rfl, rfl⟩
  · refine vs ?_
    obtain ⟨s1, s2, s3, s4, s5⟩ := a5
    obtain ⟨d1, d2, d3, d4⟩ := a6
    obtain ⟨⟨d5, d6, d7⟩, d8, d9⟩ := a7
    have l1 := own_lt a1
    have l2 := own_lt a2
    have l3 := a4.lt
    refine .inr ⟨by omega, rfl, fun x => S x ∨ x = s', ⟨⟨fb, nb, s', mb, b2.own a1 (by omega), b2.own a2 (by omega), b1, a4.ext b2 (by omega), ⟨.inl s1, .inl s2, .inl s3, .inr rfl, .inl s5⟩, ⟨d1, d2, by omega, d4⟩, ⟨d5, by omega, d7⟩, d8, by omega⟩, h2, h3, h4, fun x hx => hx.elim (fun h => Nat.lt_of_lt_of_le (h5 x h) b2.size) (fun h => by rw [h]; exact b1.lt2)⟩,
      b2.mono (fun x _ hx => hx.elim (fun e => e ▸ s3) (fun e => e ▸ s4)), ?_⟩
    rintro x (hx | rfl)
    · exact .inl hx
    · rcases b3 with rfl | b3
      · exact .inl s4
      · exact .inr b3.1
theorem cells_Put_spec {H : Hp} {c : Nat} {S : Nat → Prop} {st : Int} {cs : List Ce} {len : Nat} {rt : Nat → Nat} {many : Int → Option Int} (h : CellsAt H c S st cs len rt many) (g i k s : Int)
    (hm : many0 many g ≤ 1000000 ∧ 0 ≤ many0 many g) :
    CallH Tryz.prog n_cells_Cells_Put [ptr c, i64 g, i64 i, ent k s] H fun v H' => Post (
      let ok := (0 < g ∧ g < len ∧ rt g.toNat = g.toNat) ∧ (0 ≤ i ∧ i < cs.length) ∧ ¬ InC cs i
      (¬ ok ∧ v = .bool false ∧ CellsAt H' c S st cs len rt many ∧ Ext S H H') ∨
      (ok ∧ v = .bool true ∧ CellsAt H' c S st (cs.set i.toNat (g, k, s)) len rt (fun j => if j = g then some (many0 many g + 1) else many j) ∧ Ext S H H')) := by
  have hc0 : Ext (fun _ => False) H (H.new 224 [i64 k, u64 s]) := (Ext.refl _ _).new _ _
  have h' := h.ext hc0 (fun _ _ h => h)
  refine ccT d_cells_Cells_Put ⟨rfl, ?_⟩
  simp (disch := (first | omega | (simp only [Zs] <;> omega) | fail)) only [go_sem, ↓reduceIte, Zv, s_cells_Cells_Put, ent]
  refine (cells_Has_spec h' g).mono ?_
  rintro _ _ ⟨rfl, rfl⟩
  refine vs ?_
  have hfail : ∀ v, v = Value.bool false → ¬ ((0 < g ∧ g < len ∧ rt g.toNat = g.toNat) ∧ (0 ≤ i ∧ i < cs.length) ∧ ¬ InC cs i) →
      ((¬ ((0 < g ∧ g < len ∧ rt g.toNat = g.toNat) ∧ (0 ≤ i ∧ i < cs.length) ∧ ¬ InC cs i) ∧ v = .bool false ∧ CellsAt (H.new 224 [i64 k, u64 s]) c S st cs len rt many ∧ Ext S H (H.new 224 [i64 k, u64 s])) ∨
      (((0 < g ∧ g < len ∧ rt g.toNat = g.toNat) ∧ (0 ≤ i ∧ i < cs.length) ∧ ¬ InC cs i) ∧ v = .bool true ∧ CellsAt (H.new 224 [i64 k, u64 s]) c S st (cs.set i.toNat (g, k, s)) len rt (fun j => if j = g then some (many0 many g + 1) else many j) ∧ Ext S H (H.new 224 [i64 k, u64 s]))) :=
    fun v hv hn => .inl ⟨hn, hv, h', (Ext.refl _ _).new _ _⟩
  refine Both.dec (fun hg => ?_) (fun hg => ?_) <;> refine vs ?_
  · refine (cells_there_spec h' i).mono ?_
    rintro _ _ ⟨rfl, rfl⟩
    refine vs ?_
    refine Both.dec (fun hi => ?_) (fun hi => ?_) <;> refine vs ?_
    · refine (cells_in_spec h' i).mono ?_
      rintro _ _ ⟨rfl, rfl⟩
      refine vs ?_
      refine Both.dec (fun hin => ?_) (fun hin => ?_) <;> refine vs ?_
      · exact hfail _ rfl (fun hc => hc.2.2 hin)
      · obtain ⟨⟨fb, nb, ns, mb, a1, a2, a3, a4, a5, a6, a7⟩, h2, h3, h4, h5⟩ := h'
        refine v1 (rd_of_own a1) ?_
        refine ⟨by omega, ?_⟩
        refine v1 a2 ?_
        refine ⟨by rw [flatC_length]; omega, ?_⟩
        rw [show splice (flatC cs) (i.toNat * 3) (vcells (Value.agg #[Value.int .i64 g, i64 k, u64 s])) = flatC (cs.set i.toNat (g, k, s)) from flatC_set cs i.toNat (g, k, s) (by omega)]
        obtain ⟨s1, s2, s3, s4, s5⟩ := a5
        obtain ⟨d1, d2, d3, d4⟩ := a6
        obtain ⟨⟨d5, d6, d7⟩, d8, d9⟩ := a7
        have e1 : Ext (fun x => x = fb) (H.new 224 [i64 k, u64 s]) ((H.new 224 [i64 k, u64 s]).wr fb (flatC (cs.set i.toNat (g, k, s)))) := (Ext.refl (fun x => x = fb) _).wr (fun _ => rfl) _
        have a1' := e1.own a1 d1
        have a2' : ((H.new 224 [i64 k, u64 s]).wr fb (flatC (cs.set i.toNat (g, k, s)))).own fb = _ := own_wr_same a2
        have a3' := a3.ext e1 (Ne.symm d5) (Ne.symm d6)
        have a4' := a4.ext e1 (Ne.symm d7)
        have el : okTuple false (Value.int .i64 0) ((many g).map i64) = i64 (many0 many g) := by unfold many0; cases many g <;> rfl
        refine v3 (rd_of_own a1') a4'.look el ?_
        rw [wrap64 (by omega) (by omega)]
        refine a4'.upd fun H2 m2 e2 => ?_
        refine vs ?_
        refine .inr ⟨⟨hg, hi, hin⟩, rfl, ⟨⟨fb, nb, ns, mb, by rw [List.length_set]; exact e2.own a1' d4, e2.own a2' d7, a3'.ext e2 d8 d9, ?_, ⟨s1, s2, s3, s4, s5⟩, ⟨d1, d2, d3, d4⟩, ⟨d5, d6, d7⟩, d8, d9⟩, h2, h3, by rw [List.length_set]; exact h4, fun x hx => Nat.lt_of_lt_of_le (h5 x hx) (Nat.le_trans e1.size e2.size)⟩, ?_⟩
        · have : (fun j => Option.map i64 (if j = g then some (many0 many g + 1) else many j)) = setF (fun j => (many j).map i64) g (i64 (many0 many g + 1)) := by
            funext j; unfold setF; by_cases hj : j = g <;> simp [hj]
          rw [this]; exact m2
        · exact (((Ext.refl S H).new 224 [i64 k, u64 s]).trans (e1.mono fun x _ hx => hx ▸ s2)).trans (e2.mono fun x _ hx => hx ▸ s5)
    · exact hfail _ rfl (fun hc => hi hc.2.1)
  · exact hfail _ rfl (fun hc => hg hc.1)
theorem stepsI_le {m n : Int} (h0 : 0 ≤ m) (h1 : m ≤ 4611686018427387904) : 0 ≤ stepsI m n ∧ stepsI m n ≤ 4611686018427387904 := by
  unfold stepsI; split
  · exact ⟨h0, h1⟩
  · split <;> omega
def AheadC (a b : Int) (x y : Ce) : Prop := cmpE x.2.1 x.2.2 y.2.1 y.2.2 < 0 ∨ cmpE x.2.1 x.2.2 y.2.1 y.2.2 = 0 ∧ a < b
instance (a b : Int) (x y : Ce) : Decidable (AheadC a b x y) := inferInstanceAs (Decidable (_ ∨ _ ∧ _))
theorem cells_Ahead_spec {H : Hp} {c : Nat} {S : Nat → Prop} {st : Int} {cs : List Ce} {len : Nat} {rt : Nat → Nat} {many : Int → Option Int} (h : CellsAt H c S st cs len rt many) (a b : Int) :
    CallH Tryz.prog n_cells_Cells_Ahead [ptr c, i64 a, i64 b] H fun v H' => Post (
      (¬ (InC cs a ∧ InC cs b) ∧ v = .bool false ∧ H = H') ∨
      (InC cs a ∧ InC cs b) ∧ ∃ x y, cs[a.toNat]? = some x ∧ cs[b.toNat]? = some y ∧ v = .bool (decide (AheadC a b x y)) ∧ CellsAt H' c S (stepsI st 1) cs len rt many ∧ Ext S H H') := by
  have h' := h
  obtain ⟨⟨fb, nb, ns, mb, a1, a2, a3, a4, a5, a6, a7⟩, h2, h3, h4, h5⟩ := h
  refine ccT d_cells_Cells_Ahead ⟨rfl, ?_⟩
  refine v1 s_cells_Cells_Ahead.eq_1 ?_
  refine (cells_in_spec h' a).mono ?_
  rintro _ _ ⟨rfl, rfl⟩
  refine vs ?_
  refine Both.dec (fun ha => ?_) (fun ha => ?_) <;> refine vs ?_
  · refine (cells_in_spec h' b).mono ?_
    rintro _ _ ⟨rfl, rfl⟩
    refine vs ?_
    refine Both.dec (fun hb => ?_) (fun hb => ?_) <;> refine vs ?_
    · obtain ⟨ha0, x, hx, hx0⟩ := id ha
      obtain ⟨hb0, y, hy, hy0⟩ := id hb
      refine (gauge_Count_spec a1 ⟨h2, h3⟩ 1 (by omega)).mono ?_
      rintro v H1 hH
      obtain ⟨rfl, b1, b2, b3, b4⟩ : v = .tuple [].toArray ∧ H1.own c = some [i64 (stepsI st 1), .slice (some ⟨fb, 0, none⟩) cs.length cs.length, ptr nb, .map (some mb)] ∧ H1.own fb = some (flatC cs) ∧ CellsAt H1 c S (stepsI st 1) cs len rt many ∧ Ext S H H1 := by
        have hst := stepsI_le (n := 1) h2 h3
        rcases hH.out with ⟨rfl, rfl⟩ | ⟨rfl, rfl, hs⟩
        · obtain ⟨s1, s2, s3, s4, s5⟩ := a5
          obtain ⟨d1, d2, d3, d4⟩ := a6
          have e1 : Ext (fun x => x = c) H (H.wr c [i64 (stepsI st 1), .slice (some ⟨fb, 0, none⟩) cs.length cs.length, ptr nb, .map (some mb)]) := (Ext.refl (fun x => x = c) _).wr (fun _ => rfl) _
          exact ⟨rfl, own_wr_same a1, e1.own a2 (Ne.symm d1), ⟨⟨fb, nb, ns, mb, own_wr_same a1, e1.own a2 (Ne.symm d1), a3.ext e1 (Ne.symm d2) (Ne.symm d3), a4.ext e1 (Ne.symm d4), ⟨s1, s2, s3, s4, s5⟩, ⟨d1, d2, d3, d4⟩, a7⟩, hst.1, hst.2, h4, fun x hx => Nat.lt_of_lt_of_le (h5 x hx) e1.size⟩, e1.mono fun x _ hx => hx ▸ s1⟩
        · rw [hs]
          exact ⟨rfl, a1, a2, h', Ext.refl _ _⟩
      have al := (List.getElem?_eq_some_iff.1 hx).1
      have bl := (List.getElem?_eq_some_iff.1 hy).1
      obtain ⟨x1, x2, x3, x4⟩ := cell_at hx
      obtain ⟨y1, y2, y3, y4⟩ := cell_at hy
      have fl := flatC_length cs
      refine v1 (rd_of_own b1) ?_
      refine ⟨by omega, ?_⟩
      refine v3 (rd_of_own b1) (rd_of_own b2) x4 ?_
      refine ⟨by omega, ?_⟩
      refine v2 (rd_of_own b1) x4 ?_
      refine ⟨by omega, ?_⟩
      refine v3 (rd_of_own b1) (rd_of_own b2) y4 ?_
      refine ⟨by omega, ?_⟩
      refine v2 x4 y4 ?_
      refine (entry_Compare_spec x.2.1 x.2.2 y.2.1 y.2.2 _).mono ?_
      rintro _ H2 ⟨rfl, hf⟩
      refine vs ?_
      have b5 := b3.ext hf (fun _ _ h => h)
      have b6 := b4.trans (hf.mono fun _ _ h => h.elim)
      refine Both.dec (fun hlt => ?_) (fun hlt => ?_) <;> refine vs ?_
      · exact .inr ⟨⟨ha, hb⟩, x, y, hx, hy, congrArg Value.bool (decide_eq_true (show AheadC a b x y from .inl hlt)).symm, b5, b6⟩
      · refine Both.dec (fun heq => ?_) (fun heq => ?_) <;> refine vs ?_
        · exact .inr ⟨⟨ha, hb⟩, x, y, hx, hy, congrArg Value.bool (by rw [decide_eq_decide]; exact ⟨fun hh => .inr ⟨heq, hh⟩, fun hh => hh.elim (fun e => absurd e hlt) (·.2)⟩), b5, b6⟩
        · exact .inr ⟨⟨ha, hb⟩, x, y, hx, hy, congrArg Value.bool (decide_eq_false (show ¬ AheadC a b x y from fun hh => hh.elim hlt (fun e => heq e.1))).symm, b5, b6⟩
    · exact .inl ⟨fun hc => hb hc.2, rfl, rfl⟩
  · exact .inl ⟨fun hc => ha hc.1, rfl, rfl⟩
theorem CellsAt.names {H H1 : Hp} {c : Nat} {S : Nat → Prop} {st : Int} {cs : List Ce} {len : Nat} {rt rt' : Nat → Nat} {many : Int → Option Int} {fb nb ns mb : Nat} (h : CellsAt H c S st cs len rt many)
    (a1 : H.own c = some [i64 st, .slice (some ⟨fb, 0, none⟩) cs.length cs.length, ptr nb, .map (some mb)]) (a2 : H.own fb = some (flatC cs)) (a4 : IMap H mb (fun i => (many i).map i64))
    (a5 : S c ∧ S fb ∧ S nb ∧ S ns ∧ S mb) (a6 : c ≠ fb ∧ c ≠ nb ∧ c ≠ ns ∧ c ≠ mb) (a7 : fb ≠ nb ∧ fb ≠ ns ∧ fb ≠ mb) (a8 : nb ≠ mb ∧ ns ≠ mb)
    (n : NamesAt H1 nb ns len rt' 65536) (e : Ext (fun x => x = nb ∨ x = ns) H H1) :
    CellsAt H1 c S st cs len rt' many ∧ Ext S H H1 ∧ H1.own c = some [i64 st, .slice (some ⟨fb, 0, none⟩) cs.length cs.length, ptr nb, .map (some mb)] ∧ IMap H1 mb (fun i => (many i).map i64) := by
  obtain ⟨s1, s2, s3, s4, s5⟩ := a5
  have b1 := e.own a1 (by omega)
  have b4 := a4.ext e (by omega)
  exact ⟨⟨⟨fb, nb, ns, mb, b1, e.own a2 (by omega), n, b4, ⟨s1, s2, s3, s4, s5⟩, a6, a7, a8⟩, h.st0, h.st1, h.csl, fun x hx => Nat.lt_of_lt_of_le (h.slt x hx) e.size⟩, e.mono fun x _ hx => hx.elim (fun h => h ▸ s3) (fun h => h ▸ s4), b1, b4⟩
theorem cells_Home_spec {H : Hp} {c : Nat} {S : Nat → Prop} {st : Int} {cs : List Ce} {len : Nat} {rt : Nat → Nat} {many : Int → Option Int} (h : CellsAt H c S st cs len rt many) (hl : ∀ x ∈ cs, x.1 < len) (i : Int) :
    CallH Tryz.prog n_cells_Cells_Home [ptr c, i64 i] H fun v H' => Post (
      (¬ InC cs i ∧ v = .tuple [i64 0, .bool false].toArray ∧ H = H') ∨
      (InC cs i ∧ ∃ x, cs[i.toNat]? = some x ∧ v = .tuple [i64 (rt x.1.toNat), .bool true].toArray ∧ CellsAt H' c S st cs len rt many ∧ Ext S H H')) := by
  have h' := h
  obtain ⟨⟨fb, nb, ns, mb, a1, a2, a3, a4, a5, a6, a7, a8⟩, h2, h3, h4, h5⟩ := h
  refine ccT d_cells_Cells_Home ⟨rfl, ?_⟩
  refine v1 s_cells_Cells_Home.eq_1 ?_
  refine (cells_in_spec h' i).mono ?_
  rintro _ _ ⟨rfl, rfl⟩
  refine vs ?_
  refine Both.dec (fun hi => ?_) (fun hi => ?_) <;> refine vs ?_
  · obtain ⟨hi0, x, hx, hx0⟩ := id hi
    have hxl := (List.getElem?_eq_some_iff.1 hx).1
    obtain ⟨x1, x2, x3, x4⟩ := cell_at hx
    refine v1 (rd_of_own a1) ?_
    refine ⟨by omega, ?_⟩
    refine v4 (rd_of_own a2) x1 Nat.add_zero Nat.zero_add ?_
    refine (names_Root_spec a3 x.1).mono ?_
    rintro _ H1 (⟨hn, _⟩ | ⟨_, rfl, n1, e1⟩)
    · exact absurd ⟨hx0, hl x (List.mem_of_getElem? hx)⟩ hn
    refine vs ?_
    obtain ⟨b1, b2, _⟩ := h'.names a1 a2 a4 a5 a6 a7 a8 n1 e1
    exact .inr ⟨hi, x, hx, rfl, b1, b2⟩
  · exact .inl ⟨hi, rfl, rfl⟩
theorem cells_Entry_spec {H : Hp} {c : Nat} {S : Nat → Prop} {st : Int} {cs : List Ce} {len : Nat} {rt : Nat → Nat} {many : Int → Option Int} (h : CellsAt H c S st cs len rt many) (i : Int) :
    CallH Tryz.prog n_cells_Cells_Entry [ptr c, i64 i] H fun v H' => Post (CellsAt H' c S st cs len rt many ∧ Fresh H H' ∧ (
      (¬ InC cs i ∧ v = .tuple [ent 0 0, .bool false].toArray) ∨
      (InC cs i ∧ ∃ x, cs[i.toNat]? = some x ∧ v = .tuple [ent x.2.1 x.2.2, .bool true].toArray))) := by
  have e0 : Fresh H (H.new 224 [.int .i64 0, .int .u64 0]) := (Ext.refl _ _).new _ _
  have h' := h.ext e0 (fun _ _ h => h)
  refine ccT d_cells_Cells_Entry ⟨rfl, ?_⟩
  refine v1 s_cells_Cells_Entry.eq_1 ?_
  refine (cells_in_spec h' i).mono ?_
  rintro _ _ ⟨rfl, rfl⟩
  refine vs ?_
  refine Both.dec (fun hi => ?_) (fun hi => ?_) <;> refine vs ?_
  · obtain ⟨hi0, x, hx, hx0⟩ := id hi
    have hxl := (List.getElem?_eq_some_iff.1 hx).1
    obtain ⟨x1, x2, x3, x4⟩ := cell_at hx
    have fl := flatC_length cs
    obtain ⟨⟨fb, nb, ns, mb, a1, a2, a3, a4, a5, a6, a7, a8⟩, h2, h3, h4, h5⟩ := id h'
    refine v1 (rd_of_own a1) ?_
    refine ⟨by omega, ?_⟩
    refine v1 (rd_of_own a2) ?_
    refine ⟨by omega, ?_⟩
    simp (disch := (first | omega | (simp only [Zs] <;> omega) | fail)) only [go_sem, ↓reduceIte, Zv, x4, rd_wr_same (own_new H 224 [.int .i64 0, .int .u64 0])]
    have e1 : Fresh H ((H.new 224 [.int .i64 0, .int .u64 0]).wr H.size [i64 x.2.1, u64 x.2.2]) := e0.wr (fun h => absurd h (Nat.lt_irrefl _)) _
    exact ⟨h.ext e1 (fun _ _ h => h), e1, .inr ⟨hi, x, hx, rfl⟩⟩
  · simp (disch := (first | omega | (simp only [Zs] <;> omega) | fail)) only [go_sem, ↓reduceIte, Zv, rd_wr_same (own_new H 224 [.int .i64 0, .int .u64 0])]
    have e1 : Fresh H ((H.new 224 [.int .i64 0, .int .u64 0]).wr H.size [.int .i64 0, .int .u64 0]) := e0.wr (fun h => absurd h (Nat.lt_irrefl _)) _
    exact ⟨h.ext e1 (fun _ _ h => h), e1, .inl ⟨hi, rfl⟩⟩
def setM (m : Int → Option Int) (i n : Int) : Int → Option Int := fun j => if j = i then some n else m j
def delM (m : Int → Option Int) (i : Int) : Int → Option Int := fun j => if j = i then none else m j
theorem setM_map (m : Int → Option Int) (i n : Int) : setF (fun j => (m j).map i64) i (i64 n) = fun j => (setM m i n j).map i64 := by
  funext j; unfold setF setM; by_cases hj : j = i <;> simp [hj]
theorem delM_map (m : Int → Option Int) (i : Int) : delF (fun j => (m j).map i64) i = fun j => (delM m i j).map i64 := by
  funext j; unfold delF delM; by_cases hj : j = i <;> simp [hj]
theorem many0_tuple (m : Int → Option Int) (g : Int) : okTuple false (Value.int .i64 0) ((m g).map i64) = i64 (many0 m g) := by
  unfold many0; cases m g <;> rfl
theorem cells_Drop_spec {H : Hp} {c : Nat} {S : Nat → Prop} {st : Int} {cs : List Ce} {len : Nat} {rt : Nat → Nat} {many : Int → Option Int} (h : CellsAt H c S st cs len rt many) (hl : ∀ x ∈ cs, x.1 < len) (i : Int) (hm : ∀ j, 0 ≤ many0 many j ∧ many0 many j ≤ 1000000) :
    CallH Tryz.prog n_cells_Cells_Drop [ptr c, i64 i] H fun v H' => Post (
      (¬ InC cs i ∧ v = .bool false ∧ H = H') ∨
      (InC cs i ∧ v = .bool true ∧ ∃ x, cs[i.toNat]? = some x ∧
        CellsAt H' c S st (cs.set i.toNat (0, 0, 0)) len rt (if many0 many (rt x.1.toNat) - 1 = 0 then delM (setM many (rt x.1.toNat) (many0 many (rt x.1.toNat) - 1)) (rt x.1.toNat) else setM many (rt x.1.toNat) (many0 many (rt x.1.toNat) - 1)) ∧ Ext S H H')) := by
  refine ccT d_cells_Cells_Drop ⟨rfl, ?_⟩
  refine v1 s_cells_Cells_Drop.eq_1 ?_
  refine (cells_Home_spec h hl i).mono ?_
  rintro _ H1 (⟨hi, rfl, rfl⟩ | ⟨hi, x, hx, rfl, b1, b2⟩)
  · refine vs ?_
    exact .inl ⟨hi, rfl, rfl⟩
  · have hxl := (List.getElem?_eq_some_iff.1 hx).1
    have hi0 := hi.1
    have fl := flatC_length cs
    obtain ⟨⟨fb, nb, ns, mb, a1, a2, a3, a4, a5, a6, a7, a8⟩, h2, h3, h4, h5⟩ := b1
    have hmg := hm (rt x.1.toNat)
    refine v1 (rd_of_own a1) ?_
    refine ⟨by omega, ?_⟩
    refine v1 a2 ?_
    refine ⟨by omega, ?_⟩
    rw [show splice (flatC cs) (i.toNat * 3) (vcells (Value.agg #[Value.int .i64 0, Value.int .i64 0, Value.int .u64 0])) = flatC (cs.set i.toNat (0, 0, 0)) from flatC_set cs i.toNat (0, 0, 0) (by omega)]
    have e2 : Ext (fun x => x = fb) H1 (H1.wr fb (flatC (cs.set i.toNat (0, 0, 0)))) := (Ext.refl (fun x => x = fb) _).wr (fun _ => rfl) _
    have c1 := e2.own a1 a6.1
    have c2 : (H1.wr fb (flatC (cs.set i.toNat (0, 0, 0)))).own fb = _ := own_wr_same a2
    have c3 := a3.ext e2 (Ne.symm a7.1) (Ne.symm a7.2.1)
    have c4 := a4.ext e2 (Ne.symm a7.2.2)
    refine v3 (rd_of_own c1) c4.look many0_tuple ?_
    rw [wrap64 (by omega) (by omega)]
    refine c4.upd fun H2 m2 e3 => ?_
    rw [setM_map] at m2
    have d1 := e3.own c1 a6.2.2.2
    have hs : many0 (setM many (rt x.1.toNat) (many0 many (rt x.1.toNat) - 1)) (rt x.1.toNat) = many0 many (rt x.1.toNat) - 1 := by simp [many0, setM]
    refine v4 (rd_of_own d1) m2.look many0_tuple hs ?_
    have e23 : Ext S H1 H2 := (e2.mono fun x _ hx => hx ▸ a5.2.1).trans (e3.mono fun x _ hx => hx ▸ a5.2.2.2.2)
    refine Both.dec (fun h0 => ?_) (fun h0 => ?_) <;> refine v1 (rd_of_own d1) ?_
    · refine m2.del fun H3 m3 e4 => ?_
      rw [delM_map] at m3
      refine vs ?_
      refine .inr ⟨hi, rfl, x, hx, ?_, (b2.trans e23).trans (e4.mono fun x _ hx => hx ▸ a5.2.2.2.2)⟩
      rw [if_pos h0]
      exact ⟨⟨fb, nb, ns, mb, by rw [List.length_set]; exact e4.own d1 a6.2.2.2, (e4.own (e3.own c2 a7.2.2) a7.2.2), (c3.ext e3 a8.1 a8.2).ext e4 a8.1 a8.2, m3, a5, a6, a7, a8⟩, h2, h3, by rw [List.length_set]; exact h4, fun x hx => Nat.lt_of_lt_of_le (h5 x hx) (Nat.le_trans e23.size e4.size)⟩
    · refine .inr ⟨hi, rfl, x, hx, ?_, b2.trans e23⟩
      rw [if_neg h0]
      exact ⟨⟨fb, nb, ns, mb, by rw [List.length_set]; exact d1, e3.own c2 a7.2.2, c3.ext e3 a8.1 a8.2, m2, a5, a6, a7, a8⟩, h2, h3, by rw [List.length_set]; exact h4, fun x hx => Nat.lt_of_lt_of_le (h5 x hx) e23.size⟩
theorem flatC_set2 (cs : List Ce) (i : Nat) (x : Ce) (k s : Int) (hx : cs[i]? = some x) : splice (flatC cs) (i * 3 + 1) [i64 k, u64 s] = flatC (cs.set i (x.1, k, s)) := by
  simp only [splice]
  induction cs generalizing i with
  | nil => simp at hx
  | cons a r ih =>
    have e : flatC (a :: r) = i64 a.1 :: i64 a.2.1 :: u64 a.2.2 :: flatC r := rfl
    cases i with
    | zero =>
      simp at hx
      subst hx
      rfl
    | succ i =>
      have e2 : flatC ((a :: r).set (i + 1) (x.1, k, s)) = i64 a.1 :: i64 a.2.1 :: u64 a.2.2 :: flatC (r.set i (x.1, k, s)) := rfl
      rw [e, e2, show (i + 1) * 3 + 1 = i * 3 + 1 + 1 + 1 + 1 by omega]
      simp only [List.set_cons_succ]
      rw [ih i (by simpa using hx)]
theorem cells_Lower_spec {H : Hp} {c : Nat} {S : Nat → Prop} {st : Int} {cs : List Ce} {len : Nat} {rt : Nat → Nat} {many : Int → Option Int} (h : CellsAt H c S st cs len rt many) (i k s : Int) :
    CallH Tryz.prog n_cells_Cells_Lower [ptr c, i64 i, ent k s] H fun v H' => Post (
      (¬ (InC cs i ∧ ∀ x, cs[i.toNat]? = some x → ¬ lessE x.2.1 x.2.2 k s) ∧ v = .bool false ∧ CellsAt H' c S st cs len rt many ∧ Fresh H H') ∨
      (InC cs i ∧ v = .bool true ∧ ∃ x, cs[i.toNat]? = some x ∧ ¬ lessE x.2.1 x.2.2 k s ∧ CellsAt H' c S st (cs.set i.toNat (x.1, k, s)) len rt many ∧ Ext S H H')) := by
  have e0 : Fresh H (H.new 224 [i64 k, u64 s]) := (Ext.refl _ _).new _ _
  have h' := h.ext e0 (fun _ _ h => h)
  refine ccT d_cells_Cells_Lower ⟨rfl, ?_⟩
  simp (disch := (first | omega | (simp only [Zs] <;> omega) | fail)) only [go_sem, ↓reduceIte, Zv, s_cells_Cells_Lower, ent]
  refine (cells_in_spec h' i).mono ?_
  rintro _ _ ⟨rfl, rfl⟩
  refine vs ?_
  refine Both.dec (fun hi => ?_) (fun hi => ?_) <;> refine vs ?_
  · obtain ⟨hi0, x, hx, hx0⟩ := id hi
    have hxl := (List.getElem?_eq_some_iff.1 hx).1
    obtain ⟨x1, x2, x3, x4⟩ := cell_at hx
    have fl := flatC_length cs
    obtain ⟨⟨fb, nb, ns, mb, a1, a2, a3, a4, a5, a6, a7, a8⟩, h2, h3, h4, h5⟩ := id h'
    refine v1 (rd_of_own a1) ?_
    refine ⟨by omega, ?_⟩
    refine v1 (rd_of_own a2) ?_
    refine ⟨by omega, ?_⟩
    refine v1 x4 ?_
    refine (entry_Less_spec x.2.1 x.2.2 k s _).mono ?_
    rintro _ H2 ⟨rfl, hf⟩
    have g1 := hf.own a1 (fun h => h)
    have g2 := hf.own a2 (fun h => h)
    have hr := hf.own (own_new H 224 [i64 k, u64 s]) (fun h => h)
    refine vs ?_
    refine Both.dec (fun hless => ?_) (fun hless => ?_) <;> refine vs ?_
    · exact .inl ⟨fun hc => hc.2 x hx hless, rfl, h'.ext hf (fun _ _ h => h), e0.trans hf⟩
    · refine v2 (rd_of_own g1) (rd_of_own hr) ?_
      refine ⟨by omega, ?_⟩
      refine v3 (rd_of_own g1) (rd_of_own hr) g2 ?_
      refine ⟨by omega, ?_⟩
      refine vs ?_
      have hsp : ((flatC cs).set (i.toNat * 3 + 1) (i64 k)).set (i.toNat * 3 + 1 + 1) (u64 s) = flatC (cs.set i.toNat (x.1, k, s)) := flatC_set2 cs i.toNat x k s hx
      rw [hsp]
      have e3 : Ext (fun x => x = fb) H2 (H2.wr fb (flatC (cs.set i.toNat (x.1, k, s)))) := (Ext.refl (fun x => x = fb) _).wr (fun _ => rfl) _
      refine .inr ⟨hi, rfl, x, hx, hless, ⟨⟨fb, nb, ns, mb, by rw [List.length_set]; exact e3.own g1 a6.1, own_wr_same g2, (a3.ext hf (fun h => h) (fun h => h)).ext e3 (Ne.symm a7.1) (Ne.symm a7.2.1), (a4.ext hf (fun h => h)).ext e3 (Ne.symm a7.2.2), a5, a6, a7, a8⟩, h2, h3, by rw [List.length_set]; exact h4, fun x hx => Nat.lt_of_lt_of_le (h5 x hx) (Nat.le_trans hf.size e3.size)⟩,
        ((e0.trans hf).mono fun _ _ h => h.elim).trans (e3.mono fun x _ hx => hx ▸ a5.2.1)⟩
  · exact .inl ⟨fun hc => hi hc.1, rfl, h', e0⟩
structure Nw where
  hs : List Bool
  cs : List Ce
def Nw.has (w : Nw) (h : Int) : Prop := 1 ≤ h ∧ w.hs[h.toNat]? = some true
instance (w : Nw) (h : Int) : Decidable (w.has h) := inferInstanceAs (Decidable (_ ∧ _))
def Nw.len (w : Nw) (h : Int) : Int := if 0 < h then (w.cs.countP fun c => decide (c.1 = h) : Nat) else 0
def Nw.put (w : Nw) (i : Int) (c : Ce) : Nw := ⟨w.hs, w.cs.set i.toNat c⟩
def Nw.make (w : Nw) : Nw := ⟨w.hs ++ [true], w.cs⟩
def Nw.ahead (w : Nw) (a b : Int) : Bool :=
  decide (InC w.cs a) && decide (InC w.cs b) && (match w.cs[a.toNat]?, w.cs[b.toNat]? with | some x, some y => decide (AheadC a b x y) | _, _ => false)
theorem Nw.len_le (w : Nw) (h : Int) : 0 ≤ w.len h ∧ w.len h ≤ w.cs.length := by
  unfold Nw.len
  have := List.countP_le_length (p := fun c : Ce => decide (c.1 = h)) (l := w.cs)
  split <;> omega
structure CellsRel (w : Nw) (cs : List Ce) (len : Nat) (rt : Nat → Nat) (many : Int → Option Int) : Prop where
  hl : w.hs.length = len
  h0 : w.hs[0]? = some false
  hh : ∀ h, 1 ≤ h → h < len → w.hs[h]? = some (decide (rt h = h))
  cl : w.cs = cs.map fun c => (if 0 < c.1 then ((rt c.1.toNat : Nat) : Int) else 0, c.2)
  lt : ∀ c ∈ cs, 0 ≤ c.1 ∧ c.1 < len
  mn : ∀ h : Int, many0 many h = w.len h
  low : ∀ i, i < len → rt i < len
  idem : ∀ i, i < len → rt (rt i) = rt i
  nz : ∀ i, i < len → rt i = 0 → i = 0
def CellsN (H : Hp) (c : Nat) (S : Nat → Prop) (st : Int) (w : Nw) : Prop := ∃ cs len rt many, CellsAt H c S st cs len rt many ∧ CellsRel w cs len rt many
theorem CellsN.ext {H H' : Hp} {c : Nat} {S T : Nat → Prop} {st : Int} {w : Nw} (h : CellsN H c S st w) (e : Ext T H H') (hd : ∀ x, S x → ¬ T x) : CellsN H' c S st w := by
  obtain ⟨cs, len, rt, many, h1, h2⟩ := h
  exact ⟨cs, len, rt, many, h1.ext e hd, h2⟩
theorem CellsN.fresh {H H' : Hp} {c : Nat} {S : Nat → Prop} {st : Int} {w : Nw} (h : CellsN H c S st w) (e : Fresh H H') : CellsN H' c S st w := h.ext e fun _ _ h => h
theorem CellsN.slt {H : Hp} {c : Nat} {S : Nat → Prop} {st : Int} {w : Nw} (h : CellsN H c S st w) : ∀ x, S x → x < H.size := by
  obtain ⟨cs, len, rt, many, h1, h2⟩ := h
  exact h1.slt
theorem CellsN.csl {H : Hp} {c : Nat} {S : Nat → Prop} {st : Int} {w : Nw} (h : CellsN H c S st w) : w.cs.length ≤ 65536 := by
  obtain ⟨cs, len, rt, many, h1, h2⟩ := h
  rw [h2.cl, List.length_map]
  exact h1.csl
theorem CellsN.st {H : Hp} {c : Nat} {S : Nat → Prop} {st : Int} {w : Nw} (h : CellsN H c S st w) : 0 ≤ st ∧ st ≤ 4611686018427387904 := by
  obtain ⟨cs, len, rt, many, h1, h2⟩ := h
  exact ⟨h1.st0, h1.st1⟩
theorem CellsRel.inC {w : Nw} {cs : List Ce} {len : Nat} {rt : Nat → Nat} {many : Int → Option Int} (h : CellsRel w cs len rt many) (i : Int) : InC w.cs i ↔ InC cs i := by
  unfold InC
  rw [h.cl]
  simp only [List.getElem?_map]
  constructor
  · rintro ⟨h0, c, hc, hp⟩
    cases hx : cs[i.toNat]? with
    | none => rw [hx] at hc; cases hc
    | some x =>
      rw [hx] at hc
      simp only [Option.map_some, Option.some.injEq] at hc
      subst hc
      refine ⟨h0, x, rfl, ?_⟩
      by_cases hx0 : 0 < x.1
      · exact hx0
      · simp [hx0] at hp
  · rintro ⟨h0, x, hx, hp⟩
    refine ⟨h0, _, by rw [hx]; rfl, ?_⟩
    have hlt := h.lt x (List.mem_of_getElem? hx)
    simp only [if_pos hp]
    have hnz : rt x.1.toNat ≠ 0 := fun e => by have := h.nz _ (by omega) e; omega
    omega
theorem CellsRel.get {w : Nw} {cs : List Ce} {len : Nat} {rt : Nat → Nat} {many : Int → Option Int} (h : CellsRel w cs len rt many) {i : Nat} {x : Ce} (hx : cs[i]? = some x) : w.cs[i]? = some (if 0 < x.1 then ((rt x.1.toNat : Nat) : Int) else 0, x.2) := by
  rw [h.cl, List.getElem?_map, hx]; rfl
theorem CellsRel.hasW {w : Nw} {cs : List Ce} {len : Nat} {rt : Nat → Nat} {many : Int → Option Int} (h : CellsRel w cs len rt many) (g : Int) : w.has g ↔ (0 < g ∧ g < len ∧ rt g.toNat = g.toNat) := by
  unfold Nw.has
  constructor
  · rintro ⟨h1, h2⟩
    have hlt := (List.getElem?_eq_some_iff.1 h2).1
    rw [h.hl] at hlt
    rw [h.hh g.toNat (by omega) hlt] at h2
    injection h2 with h2
    exact ⟨by omega, by omega, of_decide_eq_true h2⟩
  · rintro ⟨h1, h2, h3⟩
    exact ⟨by omega, by rw [h.hh g.toNat (by omega) (by omega), decide_eq_true h3]⟩
theorem cellsN_New_spec (cap : Int) (H : Hp) : CallH Tryz.prog n_cells_New [i64 cap] H fun v H' => Post (
    Fresh H H' ∧ ((¬ (0 ≤ cap ∧ cap ≤ 65536) ∧ v = .tuple [.pointer none, i64 31].toArray) ∨
      (0 ≤ cap ∧ cap ≤ 65536) ∧ ∃ c S, v = .tuple [ptr c, i64 0].toArray ∧ CellsN H' c S 0 ⟨[false], List.replicate cap.toNat (0, 0, 0)⟩ ∧ (∀ x, S x → H.size ≤ x))) := by
  refine (cells_New_spec cap H).mono ?_
  rintro _ H1 ⟨f, ⟨h, rfl⟩ | ⟨h, c, S, rfl, h1, h2⟩⟩
  · exact ⟨f, .inl ⟨h, rfl⟩⟩
  · refine ⟨f, .inr ⟨h, c, S, rfl, ⟨_, _, _, _, h1, ⟨rfl, rfl, fun h h1 h2 => by omega, ?_, fun c hc => ?_, fun h => ?_, fun i hi => hi, fun i hi => rfl, fun i hi h => h⟩⟩, h2⟩⟩
    · simp
    · rw [List.eq_of_mem_replicate hc]; exact ⟨by omega, by simp⟩
    · unfold Nw.len many0
      split
      · simp only [Option.getD_none, List.countP_replicate]
        rw [if_neg (by simp; omega)]; rfl
      · rfl
theorem cellsN_Has_spec {H : Hp} {c : Nat} {S : Nat → Prop} {st : Int} {w : Nw} (h : CellsN H c S st w) (i : Int) :
    CallH Tryz.prog n_cells_Cells_Has [ptr c, i64 i] H fun v H' => Post (v = .bool (decide (w.has i)) ∧ H = H') := by
  obtain ⟨cs, len, rt, many, h1, h2⟩ := h
  refine (cells_Has_spec h1 i).mono ?_
  rintro _ _ ⟨rfl, rfl⟩
  exact ⟨congrArg Value.bool (by rw [decide_eq_decide, h2.hasW]), rfl⟩
theorem cellsN_Len_spec {H : Hp} {c : Nat} {S : Nat → Prop} {st : Int} {w : Nw} (h : CellsN H c S st w) (i : Int) :
    CallH Tryz.prog n_cells_Cells_Len [ptr c, i64 i] H fun v H' => Post (v = i64 (w.len i) ∧ H = H') := by
  obtain ⟨cs, len, rt, many, h1, h2⟩ := h
  refine (cells_Len_spec h1 i).mono ?_
  rintro _ _ ⟨rfl, rfl⟩
  exact ⟨by rw [h2.mn], rfl⟩
theorem cellsN_Make_spec {H : Hp} {c : Nat} {S : Nat → Prop} {st : Int} {w : Nw} (h : CellsN H c S st w) :
    CallH Tryz.prog n_cells_Cells_Make [ptr c] H fun v H' => Post (
      (w.hs.length = 65537 ∧ v = i64 0 ∧ H = H') ∨
      (w.hs.length ≠ 65537 ∧ v = i64 w.hs.length ∧ ∃ S', CellsN H' c S' st w.make ∧ Ext S H H' ∧ ∀ x, S' x → S x ∨ H.size ≤ x)) := by
  obtain ⟨cs, len, rt, many, h1, h2⟩ := h
  refine (cells_Make_spec h1).mono ?_
  have hl := h2.hl
  rintro _ H1 (⟨e, rfl, rfl⟩ | ⟨e, rfl, S', g1, g2, g3⟩)
  · exact .inl ⟨by omega, rfl, rfl⟩
  · refine .inr ⟨by omega, by rw [hl], S', ⟨_, _, _, _, g1, ?_⟩, g2, g3⟩
    have hpos : 0 < w.hs.length := (List.getElem?_eq_some_iff.1 h2.h0).1
    refine ⟨by simp [Nw.make, hl], ?_, fun h a1 a2 => ?_, ?_, fun c hc => by have := h2.lt c hc; omega, h2.mn, fun i hi => ?_, fun i hi => ?_, fun i hi hz => ?_⟩
    · show (w.hs ++ [true])[0]? = some false
      rw [List.getElem?_append_left hpos]; exact h2.h0
    · show (w.hs ++ [true])[h]? = _
      by_cases he : h = len
      · subst he
        rw [List.getElem?_append_right (by omega), hl]
        simp
      · rw [List.getElem?_append_left (by omega), h2.hh h a1 (by omega), if_neg he]
    · show w.cs = _
      rw [h2.cl]
      apply List.map_congr_left
      intro x hx
      have := h2.lt x hx
      by_cases h0 : 0 < x.1
      · simp only [if_pos h0]; rw [if_neg (by omega)]
      · simp only [if_neg h0]
    · by_cases he : i = len
      · simp [he]
      · have := h2.low i (by omega); simp only [if_neg he]; omega
    · by_cases he : i = len
      · simp [he]
      · have := h2.low i (by omega)
        simp only [if_neg he]
        rw [if_neg (by omega)]
        exact h2.idem i (by omega)
    · by_cases he : i = len
      · simp only [if_pos he] at hz; omega
      · simp only [if_neg he] at hz; exact h2.nz i (by omega) hz
theorem countP_set_of {α : Type} (p : α → Bool) : ∀ (l : List α) (i : Nat) (x y : α), l[i]? = some x → (l.set i y).countP p + (if p x = true then 1 else 0) = l.countP p + (if p y = true then 1 else 0) := by
  intro l
  induction l with
  | nil => intro i x y h; simp at h
  | cons a l ih =>
    intro i x y h
    cases i with
    | zero =>
      simp only [List.getElem?_cons_zero, Option.some.injEq] at h
      subst h
      simp only [List.set_cons_zero, List.countP_cons]
      omega
    | succ i =>
      have := ih i x y (by simpa using h)
      simp only [List.set_cons_succ, List.countP_cons]
      omega
theorem Nw.len_put {w : Nw} {i : Int} {x y : Ce} (hx : w.cs[i.toNat]? = some x) (h : Int) : (w.put i y).len h = w.len h - (if 0 < h ∧ x.1 = h then 1 else 0) + (if 0 < h ∧ y.1 = h then 1 else 0) := by
  unfold Nw.len Nw.put
  by_cases h0 : 0 < h
  · simp only [if_pos h0, h0, true_and]
    have := countP_set_of (fun c : Ce => decide (c.1 = h)) w.cs i.toNat x y hx
    simp only [decide_eq_true_eq] at this
    split at this <;> split at this <;> simp_all <;> omega
  · simp only [if_neg h0, h0, false_and, if_false]; rfl
theorem cellsN_Put_spec {H : Hp} {c : Nat} {S : Nat → Prop} {st : Int} {w : Nw} (h : CellsN H c S st w) (g i k s : Int) :
    CallH Tryz.prog n_cells_Cells_Put [ptr c, i64 g, i64 i, ent k s] H fun v H' => Post (
      (¬ (w.has g ∧ (0 ≤ i ∧ i < w.cs.length) ∧ ¬ InC w.cs i) ∧ v = .bool false ∧ CellsN H' c S st w ∧ Ext S H H') ∨
      ((w.has g ∧ (0 ≤ i ∧ i < w.cs.length) ∧ ¬ InC w.cs i) ∧ v = .bool true ∧ CellsN H' c S st (w.put i (g, k, s)) ∧ Ext S H H')) := by
  obtain ⟨cs, len, rt, many, h1, h2⟩ := h
  have hcl : w.cs.length = cs.length := by rw [h2.cl, List.length_map]
  have hlen := w.len_le g
  have hcsl := h1.csl
  refine (cells_Put_spec h1 g i k s (by rw [h2.mn]; omega)).mono ?_
  rintro _ H1 (⟨e, rfl, g1, g2⟩ | ⟨e, rfl, g1, g2⟩)
  · exact .inl ⟨by rw [h2.hasW, h2.inC, hcl]; exact e, rfl, ⟨_, _, _, _, g1, h2⟩, g2⟩
  · refine .inr ⟨by rw [h2.hasW, h2.inC, hcl]; exact e, rfl, ⟨_, _, _, _, g1, ?_⟩, g2⟩
    obtain ⟨x, hx⟩ : ∃ x, cs[i.toNat]? = some x := ⟨_, List.getElem?_eq_getElem (by omega)⟩
    have hx0 : ¬ 0 < x.1 := fun hx0 => e.2.2 ⟨e.2.1.1, x, hx, hx0⟩
    have hwx := h2.get hx
    rw [if_neg hx0] at hwx
    refine ⟨h2.hl, h2.h0, h2.hh, ?_, fun y hy => ?_, fun j => ?_, h2.low, h2.idem, h2.nz⟩
    · show w.cs.set i.toNat _ = _
      rw [h2.cl, List.map_set]
      simp only [if_pos e.1.1, e.1.2.2]
      congr 3
      omega
    · rcases List.mem_or_eq_of_mem_set hy with hy | rfl
      · exact h2.lt y hy
      · exact ⟨by have := e.1.1; simp only; omega, e.1.2.1⟩
    · rw [Nw.len_put hwx]
      by_cases hj : j = g
      · subst hj
        have hg := e.1.1
        rw [if_neg (by rintro ⟨_, h⟩; omega), if_pos ⟨hg, rfl⟩, ← h2.mn]
        simp [many0]
      · rw [if_neg (by rintro ⟨_, h⟩; omega), if_neg (by rintro ⟨_, h⟩; exact hj h.symm), ← h2.mn]
        simp [many0, hj]
theorem cellsN_Home_spec {H : Hp} {c : Nat} {S : Nat → Prop} {st : Int} {w : Nw} (h : CellsN H c S st w) (i : Int) :
    CallH Tryz.prog n_cells_Cells_Home [ptr c, i64 i] H fun v H' => Post (
      (¬ InC w.cs i ∧ v = .tuple [i64 0, .bool false].toArray ∧ H = H') ∨
      (InC w.cs i ∧ ∃ x, w.cs[i.toNat]? = some x ∧ v = .tuple [i64 x.1, .bool true].toArray ∧ CellsN H' c S st w ∧ Ext S H H')) := by
  obtain ⟨cs, len, rt, many, h1, h2⟩ := h
  refine (cells_Home_spec h1 (fun x hx => (h2.lt x hx).2) i).mono ?_
  rintro _ H1 (⟨e, rfl, rfl⟩ | ⟨e, x, hx, rfl, g1, g2⟩)
  · exact .inl ⟨by rw [h2.inC]; exact e, rfl, rfl⟩
  · obtain ⟨e0, x', hx', hp⟩ := id e
    rw [hx] at hx'
    injection hx' with hx'
    subst hx'
    have hg := h2.get hx
    rw [if_pos hp] at hg
    exact .inr ⟨by rw [h2.inC]; exact e, _, hg, rfl, ⟨_, _, _, _, g1, h2⟩, g2⟩
theorem cellsN_Entry_spec {H : Hp} {c : Nat} {S : Nat → Prop} {st : Int} {w : Nw} (h : CellsN H c S st w) (i : Int) :
    CallH Tryz.prog n_cells_Cells_Entry [ptr c, i64 i] H fun v H' => Post (CellsN H' c S st w ∧ Fresh H H' ∧ (
      (¬ InC w.cs i ∧ v = .tuple [ent 0 0, .bool false].toArray) ∨
      (InC w.cs i ∧ ∃ x, w.cs[i.toNat]? = some x ∧ v = .tuple [ent x.2.1 x.2.2, .bool true].toArray))) := by
  obtain ⟨cs, len, rt, many, h1, h2⟩ := h
  refine (cells_Entry_spec h1 i).mono ?_
  rintro _ H1 ⟨g1, g2, ⟨e, rfl⟩ | ⟨e, x, hx, rfl⟩⟩
  · exact ⟨⟨_, _, _, _, g1, h2⟩, g2, .inl ⟨by rw [h2.inC]; exact e, rfl⟩⟩
  · exact ⟨⟨_, _, _, _, g1, h2⟩, g2, .inr ⟨by rw [h2.inC]; exact e, _, h2.get hx, rfl⟩⟩
theorem cellsN_Drop_spec {H : Hp} {c : Nat} {S : Nat → Prop} {st : Int} {w : Nw} (h : CellsN H c S st w) (i : Int) :
    CallH Tryz.prog n_cells_Cells_Drop [ptr c, i64 i] H fun v H' => Post (
      (¬ InC w.cs i ∧ v = .bool false ∧ H = H') ∨
      (InC w.cs i ∧ v = .bool true ∧ CellsN H' c S st (w.put i (0, 0, 0)) ∧ Ext S H H')) := by
  obtain ⟨cs, len, rt, many, h1, h2⟩ := h
  have hcsl := h1.csl
  have hcl : w.cs.length = cs.length := by rw [h2.cl, List.length_map]
  refine (cells_Drop_spec h1 (fun x hx => (h2.lt x hx).2) i (fun j => by rw [h2.mn]; have := w.len_le j; omega)).mono ?_
  rintro _ H1 (⟨e, rfl, rfl⟩ | ⟨e, rfl, x, hx, g1, g2⟩)
  · exact .inl ⟨by rw [h2.inC]; exact e, rfl, rfl⟩
  · obtain ⟨e0, x', hx', hp⟩ := id e
    rw [hx] at hx'
    injection hx' with hx'
    subst hx'
    have hg := h2.get hx
    rw [if_pos hp] at hg
    have hlt := h2.lt x (List.mem_of_getElem? hx)
    have hnz : rt x.1.toNat ≠ 0 := fun e => by have := h2.nz _ (by omega) e; omega
    refine .inr ⟨by rw [h2.inC]; exact e, rfl, ⟨_, _, _, _, g1, h2.hl, h2.h0, h2.hh, ?_, fun y hy => ?_, fun j => ?_, h2.low, h2.idem, h2.nz⟩, g2⟩
    · show w.cs.set i.toNat _ = _
      rw [h2.cl, List.map_set]
      rfl
    · rcases List.mem_or_eq_of_mem_set hy with hy | rfl
      · exact h2.lt y hy
      · exact ⟨by simp only; omega, by simp only; omega⟩
    · have hp := Nw.len_put (y := ((0 : Int), (0 : Int), (0 : Int))) hg j
      simp only at hp
      have hm := h2.mn j
      by_cases hj : j = rt x.1.toNat
      · subst hj
        rw [if_pos ⟨by omega, rfl⟩, if_neg (by rintro ⟨h1, h2⟩; omega)] at hp
        rw [hp, ← hm]
        split
        · rename_i hz
          simp only [many0] at hz
          simp only [many0, delM, if_true, Option.getD_none]
          omega
        · simp [many0, setM]
      · rw [if_neg (by rintro ⟨_, h⟩; exact hj h.symm), if_neg (by rintro ⟨h1, h2⟩; omega)] at hp
        rw [hp, ← hm]
        split
        · simp [many0, setM, delM, hj]
        · simp [many0, setM, hj]
theorem cellsN_Lower_spec {H : Hp} {c : Nat} {S : Nat → Prop} {st : Int} {w : Nw} (h : CellsN H c S st w) (i k s : Int) :
    CallH Tryz.prog n_cells_Cells_Lower [ptr c, i64 i, ent k s] H fun v H' => Post (
      (¬ (InC w.cs i ∧ ∀ x, w.cs[i.toNat]? = some x → ¬ lessE x.2.1 x.2.2 k s) ∧ v = .bool false ∧ CellsN H' c S st w ∧ Fresh H H') ∨
      (InC w.cs i ∧ v = .bool true ∧ ∃ x, w.cs[i.toNat]? = some x ∧ ¬ lessE x.2.1 x.2.2 k s ∧ CellsN H' c S st (w.put i (x.1, k, s)) ∧ Ext S H H')) := by
  obtain ⟨cs, len, rt, many, h1, h2⟩ := h
  refine (cells_Lower_spec h1 i k s).mono ?_
  rintro _ H1 (⟨e, rfl, g1, g2⟩ | ⟨e, rfl, x, hx, hl, g1, g2⟩)
  · refine .inl ⟨fun hc => e ⟨(h2.inC i).1 hc.1, fun x hx => ?_⟩, rfl, ⟨_, _, _, _, g1, h2⟩, g2⟩
    have := hc.2 _ (h2.get hx)
    exact this
  · have hg := h2.get hx
    refine .inr ⟨(h2.inC i).2 e, rfl, _, hg, hl, ⟨_, _, _, _, g1, h2.hl, h2.h0, h2.hh, ?_, fun y hy => ?_, fun j => ?_, h2.low, h2.idem, h2.nz⟩, g2⟩
    · show w.cs.set i.toNat _ = _
      rw [h2.cl, List.map_set]
    · rcases List.mem_or_eq_of_mem_set hy with hy | rfl
      · exact h2.lt y hy
      · exact h2.lt x (List.mem_of_getElem? hx)
    · rw [Nw.len_put hg, ← h2.mn]
      simp only
      split <;> omega
theorem cellsN_Ahead_spec {H : Hp} {c : Nat} {S : Nat → Prop} {st : Int} {w : Nw} (h : CellsN H c S st w) (a b : Int) :
    CallH Tryz.prog n_cells_Cells_Ahead [ptr c, i64 a, i64 b] H fun v H' => Post (v = .bool (w.ahead a b) ∧ CellsN H' c S (if InC w.cs a ∧ InC w.cs b then stepsI st 1 else st) w ∧ Ext S H H') := by
  obtain ⟨cs, len, rt, many, h1, h2⟩ := h
  refine (cells_Ahead_spec h1 a b).mono ?_
  rintro _ H1 (⟨e, rfl, rfl⟩ | ⟨e, x, y, hx, hy, rfl, g1, g2⟩)
  · have e' : ¬ (InC w.cs a ∧ InC w.cs b) := fun hc => e ⟨(h2.inC a).1 hc.1, (h2.inC b).1 hc.2⟩
    refine ⟨congrArg Value.bool ?_, by rw [if_neg e']; exact ⟨_, _, _, _, h1, h2⟩, Ext.refl _ _⟩
    unfold Nw.ahead
    by_cases ha : InC w.cs a
    · by_cases hb : InC w.cs b
      · exact absurd ⟨ha, hb⟩ e'
      · simp [hb]
    · simp [ha]
  · have ha := (h2.inC a).2 e.1
    have hb := (h2.inC b).2 e.2
    refine ⟨congrArg Value.bool ?_, by rw [if_pos ⟨ha, hb⟩]; exact ⟨_, _, _, _, g1, h2⟩, g2⟩
    unfold Nw.ahead
    rw [decide_eq_true ha, decide_eq_true hb, h2.get hx, h2.get hy]
    rfl
theorem CellsN.hsl {H : Hp} {c : Nat} {S : Nat → Prop} {st : Int} {w : Nw} (h : CellsN H c S st w) : w.hs.length ≤ 65537 := by
  obtain ⟨cs, len, rt, many, ⟨⟨fb, nb, ns, mb, _, _, g, _⟩, _⟩, h2⟩ := h
  have := g.le
  rw [h2.hl]
  omega
theorem CellsN.home {H : Hp} {c : Nat} {S : Nat → Prop} {st : Int} {w : Nw} (h : CellsN H c S st w) : ∀ x ∈ w.cs, 0 ≤ x.1 ∧ x.1 < w.hs.length := by
  obtain ⟨cs, len, rt, many, h1, h2⟩ := h
  intro x hx
  rw [h2.cl] at hx
  obtain ⟨y, hy, rfl⟩ := List.mem_map.1 hx
  have h3 := h2.lt y hy
  rw [h2.hl]
  have h4 := h2.low y.1.toNat (by omega)
  have h5 : 0 < len := by
    have := (List.getElem?_eq_some_iff.1 h2.h0).1
    rw [h2.hl] at this
    exact this
  simp only
  split <;> omega
theorem CellsN.live {H : Hp} {c : Nat} {S : Nat → Prop} {st : Int} {w : Nw} (h : CellsN H c S st w) : ∀ x ∈ w.cs, 0 < x.1 → w.hs[x.1.toNat]? = some true := by
  obtain ⟨cs, len, rt, many, h1, h2⟩ := h
  intro x hx
  rw [h2.cl] at hx
  obtain ⟨y, hy, rfl⟩ := List.mem_map.1 hx
  have h3 := h2.lt y hy
  simp only
  split
  · intro h0
    have h4 := h2.low y.1.toNat (by omega)
    have h5 := h2.idem y.1.toNat (by omega)
    rw [show ((rt y.1.toNat : Nat) : Int).toNat = rt y.1.toNat by omega, h2.hh _ (by omega) h4, h5]
    simp
  · intro h0; omega
theorem RdS.val2 {H : Hp} {size n : Nat} {v : Value} {xs : List Value} (h : RdS H size v n xs) : ∃ a c, v = .slice a n c := by
  obtain ⟨_, ⟨rfl, a, c, rfl⟩ | ⟨b, o, c, l, rfl, _⟩⟩ := h
  · exact ⟨_, _, rfl⟩
  · exact ⟨_, _, rfl⟩
theorem lessE_iff (k s k' s' : Int) : (cmpE k s k' s' < 0 ↔ lessE k s k' s') ∧ (cmpE k s k' s' = 0 ↔ (k = k' ∧ s = s')) := by
  refine ⟨cmpE_neg k s k' s', ?_⟩
  unfold cmpE orI cmpI
  simp only [List.find?]
  by_cases h1 : k < k'
  · simp [h1]; omega
  · by_cases h2 : k' < k
    · simp [h1, h2]; omega
    · by_cases h3 : s < s'
      · simp [h1, h2, h3]; omega
      · by_cases h4 : s' < s
        · simp [h1, h2, h3, h4]; omega
        · simp [h1, h2, h3, h4]; omega
theorem aheadC_iff (a b : Int) (x y : Ce) : AheadC a b x y ↔ (lessE x.2.1 x.2.2 y.2.1 y.2.2 ∨ (x.2.1 = y.2.1 ∧ x.2.2 = y.2.2) ∧ a < b) := by
  unfold AheadC
  rw [(lessE_iff _ _ _ _).1, (lessE_iff _ _ _ _).2]
structure RowAt (H : Hp) (r : Nat) (S : Nat → Prop) (d : Int) (l : List Int) (pl : Int → Option Int) : Prop where
  rep : ∃ sv fp mb, H.own r = some [i64 d, sv, .map (some mb)] ∧ Sl H 1 sv l.length (l.map i64) fp ∧ IMap H mb (fun i => (pl i).map i64) ∧
    S r ∧ S mb ∧ r ≠ mb ∧ (∀ b, fp = some b → S b ∧ b ≠ r ∧ b ≠ mb)
  slt : ∀ x, S x → x < H.size
theorem RowAt.ext {H H' : Hp} {r : Nat} {S T : Nat → Prop} {d : Int} {l : List Int} {pl : Int → Option Int} (h : RowAt H r S d l pl) (e : Ext T H H') (hd : ∀ x, S x → ¬ T x) : RowAt H' r S d l pl := by
  obtain ⟨⟨sv, fp, mb, a1, a2, a3, s1, s2, s3, s4⟩, h2⟩ := h
  exact ⟨⟨sv, fp, mb, e.own a1 (hd _ s1), a2.ext e (fun b hb => hd _ (s4 b hb).1), a3.ext e (hd _ s2), s1, s2, s3, s4⟩, fun x hx => Nat.lt_of_lt_of_le (h2 x hx) e.size⟩
theorem sift_New_spec (d : Int) (H : Hp) : CallH Tryz.prog n_sift_New [i64 d] H fun v H' => Post (
    Fresh H H' ∧ ((¬ FineD d ∧ v = .tuple [.pointer none, i64 22].toArray) ∨
      FineD d ∧ ∃ r S, v = .tuple [ptr r, i64 0].toArray ∧ RowAt H' r S d [] (fun _ => none) ∧ ∀ x, S x → H.size ≤ x)) := by
  refine ccT d_sift_New ⟨rfl, ?_⟩
  refine v1 s_sift_New.eq_1 ?_
  refine (sift_fine_spec d H).mono ?_
  rintro _ _ ⟨rfl, rfl⟩
  refine vs ?_
  refine Both.dec (fun h => ?_) (fun h => ?_) <;> refine vs ?_
  · have e1 : Fresh H (H.newm.new 310 [i64 d, .slice none 0 0, .map (some H.size)]) := ((Ext.refl _ _).newm).new _ _
    refine ⟨e1, .inr ⟨h, H.size + 1, fun x => H.size ≤ x ∧ x < H.size + 1 + 1, rfl, ⟨⟨_, none, H.size, own_new_eq (by simp only [size_newm]), Sl.nil _ _, ?_, ?_, ?_, ?_, ?_⟩, ?_⟩, fun x hx => hx.1⟩⟩
    · exact (IMap.new H).ext ((Ext.refl (fun _ => False) _).new _ _) (fun h => h)
    · omega
    · omega
    · omega
    · intro b hb; cases hb
    · intro x hx
      simp only [size_new, size_newm]
      exact hx.2
  · exact ⟨Ext.refl _ _, .inl ⟨h, rfl⟩⟩
theorem sift_At_spec {H : Hp} {r : Nat} {S : Nat → Prop} {d : Int} {l : List Int} {pl : Int → Option Int} (h : RowAt H r S d l pl) (i : Int) :
    CallH Tryz.prog n_sift_Row_At [ptr r, i64 i] H fun v H' => Post (v = twoF (if 0 ≤ i then l[i.toNat]? else none) ∧ H = H') := by
  obtain ⟨⟨sv, fp, mb, a1, a2, a3, s1, s2, s3, s4⟩, h2⟩ := h
  refine ccT d_sift_Row_At ⟨rfl, ?_⟩
  refine v1 s_sift_Row_At.eq_1 ?_
  refine Both.dec (fun h => ?_) (fun h => ?_) <;> refine v1 (rd_of_own a1) ?_
  · exact ⟨by rw [if_neg (by omega)]; rfl, rfl⟩
  · cases fp with
    | none =>
      obtain ⟨_, e, rfl⟩ := a2
      have hl : l = [] := List.length_eq_zero_iff.1 e
      subst hl
      refine vs ?_
      refine Both.of_true (by simp only [decide_eq_true_eq]; omega) ?_
      refine vs ?_
      exact ⟨by rw [if_pos (by omega)]; rfl, rfl⟩
    | some b =>
      obtain ⟨_, l', c, rfl, a4, a5, a6, a7⟩ := a2
      refine vs ?_
      refine Both.dec (fun h3 => ?_) (fun h3 => ?_) <;> refine v1 (rd_of_own a1) ?_
      · exact ⟨by rw [if_pos (by omega), List.getElem?_eq_none (by omega)]; rfl, rfl⟩
      · obtain ⟨x, hx⟩ : ∃ x, l[i.toNat]? = some x := ⟨_, List.getElem?_eq_getElem (by omega)⟩
        have hx2 : l'[i.toNat]? = some (i64 x) := by
          have h1 : (l.map i64)[i.toNat]? = some (i64 x) := by simp [hx]
          rw [← a7, List.getElem?_take_of_lt (by omega)] at h1
          exact h1
        refine ⟨by omega, ?_⟩
        refine v3 (rd_of_own a4) Nat.mul_one hx2 ?_
        exact ⟨by rw [if_pos (by omega), hx]; rfl, rfl⟩
theorem sift_set_spec {H : Hp} {r : Nat} {S : Nat → Prop} {d : Int} {l : List Int} {pl : Int → Option Int} (h : RowAt H r S d l pl) (i x : Int) (hi : 0 ≤ i ∧ i < l.length) :
    CallH Tryz.prog n_sift_Row_set [ptr r, i64 i, i64 x] H fun v H' => Post (v = .tuple [].toArray ∧ RowAt H' r S d (l.set i.toNat x) (setM pl x i) ∧ Ext S H H') := by
  obtain ⟨⟨sv, fp, mb, a1, a2, a3, s1, s2, s3, s4⟩, h2⟩ := h
  refine ccT d_sift_Row_set ⟨rfl, ?_⟩
  cases fp with
  | none => obtain ⟨_, e, _⟩ := a2; omega
  | some b =>
    have a2' := a2
    obtain ⟨_, l', c, rfl, a4, a5, a6, a7⟩ := a2
    refine v2 s_sift_Row_set.eq_1 (rd_of_own a1) ?_
    refine ⟨by omega, ?_⟩
    refine v2 a4 Nat.mul_one ?_
    refine ⟨by omega, ?_⟩
    obtain ⟨hb1, hb2, hb3⟩ := s4 b rfl
    have e1 : Ext (fun z => z = b) H (H.wr b (l'.set i.toNat (i64 x))) := (Ext.refl (fun z => z = b) _).wr (fun _ => rfl) _
    have b1 := e1.own a1 (Ne.symm hb2)
    have b2 := a2'.set1 a4 i.toNat (i64 x)
    have b3 := a3.ext e1 (Ne.symm hb3)
    refine v1 (rd_of_own b1) ?_
    refine b3.upd fun H2 m2 e2 => ?_
    rw [setM_map] at m2
    refine vs ?_
    refine ⟨rfl, ⟨⟨_, some b, mb, by exact e2.own b1 s3, ?_, m2, s1, s2, s3, s4⟩, fun z hz => Nat.lt_of_lt_of_le (h2 z hz) (Nat.le_trans e1.size e2.size)⟩, (e1.mono fun z _ hz => hz ▸ hb1).trans (e2.mono fun z _ hz => hz ▸ s2)⟩
    rw [List.length_set, List.map_set]
    exact b2.ext e2 (fun z hz => by injection hz with hz; exact hz ▸ hb3)
structure OrdS (ov : Value) (I : Hp → Nat → Prop) (T : Nat → Prop) (lt : Int → Int → Bool) (D : Int → Prop := fun _ => True) : Prop where
  call : ∀ H n a b, D a → D b → I H n → InvH Tryz.prog ov "Ahead" [i64 a, i64 b] H fun v H' => v = .bool (lt a b) ∧ I H' (n + 1) ∧ Ext T H H'
  nil : NilP Tryz.prog (.func (.method "Ahead") #[ov] #[])
  keep : ∀ H H' n U, I H n → Ext U H H' → (∀ x, T x → ¬ U x) → I H' n
  tlt : ∀ H n, I H n → ∀ x, T x → x < H.size
structure UpR where
  l : List Int
  pl : Int → Option Int
  at_ : Int
  asked : Nat
def upM (lt : Int → Int → Bool) (d x : Int) : Nat → List Int → (Int → Option Int) → Int → UpR
  | 0, l, pl, i => ⟨l.set i.toNat x, setM pl x i, i, 0⟩
  | m + 1, l, pl, i => match parentF d i with
    | none => ⟨l.set i.toNat x, setM pl x i, i, 0⟩
    | some p =>
      if lt x (l.getD p.toNat 0) = true then
        let r := upM lt d x m (l.set i.toNat (l.getD p.toNat 0)) (setM pl (l.getD p.toNat 0) i) p
        ⟨r.l, r.pl, r.at_, r.asked + 1⟩
      else ⟨l.set i.toNat x, setM pl x i, i, 1⟩
theorem upM_more (lt : Int → Int → Bool) (d x : Int) : ∀ (m m' : Nat) (l : List Int) (pl : Int → Option Int) (i : Int), i.toNat ≤ m → i.toNat ≤ m' → upM lt d x m l pl i = upM lt d x m' l pl i := by
  intro m
  induction m with
  | zero =>
    intro m' l pl i h _
    have hn : parentF d i = none := by unfold parentF; rw [if_neg (by omega)]
    cases m' <;> simp [upM, hn]
  | succ m ih =>
    intro m' l pl i h h'
    cases hp : parentF d i with
    | none => cases m' <;> simp [upM, hp]
    | some p =>
      have hb := parentF_lt hp
      cases m' with
      | zero => omega
      | succ m' => simp only [upM, hp]; rw [ih m' _ _ p (by omega) (by omega)]
theorem mem_setL {l : List Int} {i : Nat} {y z : Int} (h : z ∈ l.set i y) : z = y ∨ z ∈ l := (List.mem_or_eq_of_mem_set h).symm
theorem upM_mem (lt : Int → Int → Bool) (d x : Int) : ∀ (m : Nat) (l : List Int) (pl : Int → Option Int) (i : Int), 0 ≤ i → i < l.length → ∀ z ∈ (upM lt d x m l pl i).l, z = x ∨ z ∈ l := by
  intro m
  induction m with
  | zero => intro l pl i _ _ z hz; exact mem_setL hz
  | succ m ih =>
    intro l pl i h0 h1 z hz
    cases hp : parentF d i with
    | none => simp only [upM, hp] at hz; exact mem_setL hz
    | some p =>
      have hb := parentF_lt hp
      simp only [upM, hp] at hz
      split at hz
      · rcases ih _ _ p (by omega) (by rw [List.length_set]; omega) z hz with h | h
        · exact .inl h
        · rcases mem_setL h with h | h
          · rw [h, List.getD_eq_getElem?_getD, List.getElem?_eq_getElem (by omega)]
            exact .inr (List.getElem_mem _)
          · exact .inr h
      · exact mem_setL hz
theorem sift_up_spec {ov : Value} {I : Hp → Nat → Prop} {T : Nat → Prop} {lt : Int → Int → Bool} {D : Int → Prop} (ho : OrdS ov I T lt D) {H : Hp} {r : Nat} {S : Nat → Prop} {d : Int} {l : List Int} {pl : Int → Option Int}
    (h : RowAt H r S d l pl) (hd : ∀ x, S x → ¬ T x) {n : Nat} (hI : I H n) (i x : Int) (hi : 0 ≤ i ∧ i < l.length) (hl : l.length ≤ 1000000) (hx : D x := by trivial) (hD : ∀ z ∈ l, D z := by intros; trivial) :
    CallH Tryz.prog n_sift_Row_up [ptr r, ov, i64 i, i64 x] H fun v H' => Post (
      let R := upM lt d x i.toNat l pl i
      v = i64 R.at_ ∧ RowAt H' r S d R.l R.pl ∧ I H' (n + R.asked) ∧ Ext (fun z => S z ∨ T z) H H') := by
  refine ccT d_sift_Row_up ⟨rfl, ?_⟩
  refine v1 s_sift_Row_up.eq_1 ?_
  refine LoopV.intro (fun m env H1 => ∃ (l1 : List Int) (pl1 : Int → Option Int) (i1 : Int) (k : Nat), env = [(0, ptr r), (1, ov), (2, i64 i1), (3, i64 x)] ∧ (∀ z ∈ l1, D z) ∧ m = i1.toNat ∧ 0 ≤ i1 ∧ i1 < l1.length ∧ l1.length = l.length ∧
      RowAt H1 r S d l1 pl1 ∧ I H1 (n + k) ∧ Ext (fun z => S z ∨ T z) H H1 ∧
      (upM lt d x i.toNat l pl i).l = (upM lt d x i1.toNat l1 pl1 i1).l ∧ (upM lt d x i.toNat l pl i).pl = (upM lt d x i1.toNat l1 pl1 i1).pl ∧ (upM lt d x i.toNat l pl i).at_ = (upM lt d x i1.toNat l1 pl1 i1).at_ ∧
      (upM lt d x i.toNat l pl i).asked = k + (upM lt d x i1.toNat l1 pl1 i1).asked) i.toNat ⟨l, pl, i, 0, rfl, hD, rfl, hi.1, hi.2, rfl, h, hI, Ext.refl _ _, rfl, rfl, rfl, by omega⟩ ?_
  rintro m env H1 ⟨l1, pl1, i1, k, rfl, hD1, rfl, i0, il, ll, h1, hI1, e1, u1, u2, u3, u4⟩
  obtain ⟨⟨sv, fp, mb, a1, a2, a3, s1, s2, s3, s4⟩, h2⟩ := id h1
  have key : ∀ o : Option Int, twoF o = .tuple [i64 (o.getD 0), .bool o.isSome].toArray := by intro o; cases o <;> rfl
  refine v1 (rd_of_own a1) ?_
  refine (sift_Parent_spec d i1 (by omega) H1).mono ?_
  rintro _ _ ⟨rfl, rfl⟩
  rw [key]
  have stop : ∀ (H2 : Hp) (k2 : Nat), RowAt H2 r S d l1 pl1 → I H2 (n + k + k2) → Ext (fun z => S z ∨ T z) H H2 → upM lt d x i1.toNat l1 pl1 i1 = ⟨l1.set i1.toNat x, setM pl1 x i1, i1, k2⟩ →
      CallH Tryz.prog n_sift_Row_set [ptr r, i64 i1, i64 x] H2 fun _ H' => (i64 i1 = i64 (upM lt d x i.toNat l pl i).at_ ∧ RowAt H' r S d (upM lt d x i.toNat l pl i).l (upM lt d x i.toNat l pl i).pl ∧
        I H' (n + (upM lt d x i.toNat l pl i).asked) ∧ Ext (fun z => S z ∨ T z) H H') := by
    intro H2 k2 g1 g2 g3 g4
    refine (sift_set_spec g1 i1 x ⟨i0, il⟩).mono ?_
    rintro _ H3 ⟨_, g5, g6⟩
    rw [u1, u2, u3, u4, g4]
    exact ⟨rfl, g5, by rw [← Nat.add_assoc]; exact ho.keep _ _ _ _ g2 g6 (fun z hz hs => hd z hs hz), g3.trans (g6.mono fun z _ hz => .inl hz)⟩
  cases hp : parentF d i1 with
  | none =>
    simp (disch := (first | omega | (simp only [Zs] <;> omega) | fail)) only [go_sem, ↓reduceIte, Zv, Option.isSome_none]
    refine (stop H1 0 h1 hI1 e1 ?_).mono ?_
    · cases hm : i1.toNat <;> simp [upM, hp, hm]
    · rintro _ H3 ⟨g1, g2, g3, g4⟩
      refine vs ?_
      exact ⟨g1, g2, g3, g4⟩
  | some p =>
    have hpb := parentF_lt hp
    obtain ⟨b, rfl⟩ : ∃ b, fp = some b := by
      cases fp with
      | none => obtain ⟨_, e, _⟩ := a2; omega
      | some b => exact ⟨b, rfl⟩
    obtain ⟨_, l', c, rfl, a4, a5, a6, a7⟩ := a2
    obtain ⟨y, hy⟩ : ∃ y, l1[p.toNat]? = some y := ⟨_, List.getElem?_eq_getElem (by omega)⟩
    have hy2 : l'[p.toNat]? = some (i64 y) := by
      have h1 : (l1.map i64)[p.toNat]? = some (i64 y) := by simp [hy]
      rw [← a7, List.getElem?_take_of_lt (by omega)] at h1
      exact h1
    have hy3 : l1.getD p.toNat 0 = y := by simp [List.getD, hy]
    simp (disch := (first | omega | (simp only [Zs] <;> omega) | fail)) only [go_sem, ↓reduceIte, Zv, Option.isSome_some, Option.getD_some, rd_of_own a1]
    refine ⟨by omega, ?_⟩
    refine v3 (rd_of_own a4) Nat.mul_one hy2 ?_
    refine ⟨ho.nil, ?_⟩
    refine vs ?_
    refine InvH.mono (ho.call H1 (n + k) x y hx (hD1 y (List.mem_of_getElem? hy)) hI1) ?_
    rintro _ H2 ⟨rfl, hI2, e2⟩
    have h2' := h1.ext e2 hd
    have e12 := e1.trans (e2.mono fun z _ hz => .inr hz)
    have b1 := e2.own a1 (hd _ s1)
    have b4 := e2.own a4 (hd _ (s4 b rfl).1)
    refine vs ?_
    cases hlt : lt x y with
    | false =>
      refine vs ?_
      refine (stop H2 1 h2' hI2 e12 ?_).mono ?_
      · obtain ⟨q, hq⟩ : ∃ q, i1.toNat = q + 1 := ⟨i1.toNat - 1, by omega⟩
        rw [hq]
        simp [upM, hp, hy, hlt, hq]
      · rintro _ H3 ⟨g1, g2, g3, g4⟩
        refine vs ?_
        exact ⟨g1, g2, g3, g4⟩
    | true =>
      refine v1 (rd_of_own b1) ?_
      refine ⟨by omega, ?_⟩
      refine v3 (rd_of_own b4) Nat.mul_one hy2 ?_
      refine (sift_set_spec h2' i1 y ⟨i0, il⟩).mono ?_
      rintro _ H3 ⟨_, g5, g6⟩
      refine vs ?_
      obtain ⟨q, hq⟩ : ∃ q, i1.toNat = q + 1 := ⟨i1.toNat - 1, by omega⟩
      have hup : upM lt d x i1.toNat l1 pl1 i1 = ⟨(upM lt d x p.toNat (l1.set i1.toNat y) (setM pl1 y i1) p).l, (upM lt d x p.toNat (l1.set i1.toNat y) (setM pl1 y i1) p).pl, (upM lt d x p.toNat (l1.set i1.toNat y) (setM pl1 y i1) p).at_,
          (upM lt d x p.toNat (l1.set i1.toNat y) (setM pl1 y i1) p).asked + 1⟩ := by
        rw [upM_more lt d x p.toNat q _ _ p (Nat.le_refl _) (by omega), hq]
        simp only [upM, hp, hy3, hlt, if_true, hq]
      refine ⟨p.toNat, by omega, l1.set i1.toNat y, setM pl1 y i1, p, k + 1, rfl, fun z hz => (mem_setL hz).elim (fun e => e ▸ hD1 y (List.mem_of_getElem? hy)) (hD1 z), rfl, by omega, by rw [List.length_set]; omega, by rw [List.length_set]; exact ll, g5,
        ho.keep _ _ _ _ hI2 g6 (fun z hz hs => hd z hs hz), e12.trans (g6.mono fun z _ hz => .inl hz), by rw [u1, hup], by rw [u2, hup], by rw [u3, hup], by rw [u4, hup]; simp only; omega⟩
theorem sift_Add_spec {ov : Value} {I : Hp → Nat → Prop} {T : Nat → Prop} {lt : Int → Int → Bool} {D : Int → Prop} (ho : OrdS ov I T lt D) {H : Hp} {r : Nat} {S : Nat → Prop} {d : Int} {l : List Int} {pl : Int → Option Int}
    (h : RowAt H r S d l pl) (hd : ∀ x, S x → ¬ T x) {n : Nat} (hI : I H n) (x : Int) (hl : l.length < 1000000) (hDx : D x := by trivial) (hD : ∀ z ∈ l, D z := by intros; trivial) :
    CallH Tryz.prog n_sift_Row_Add [ptr r, ov, i64 x] H fun v H' => Post (
      let R := upM lt d x l.length (l ++ [x]) pl l.length
      (pl x ≠ none ∧ v = .bool false ∧ H = H') ∨
      (pl x = none ∧ v = .bool true ∧ ∃ S', RowAt H' r S' d R.l R.pl ∧ I H' (n + R.asked) ∧ Ext (fun z => S z ∨ T z) H H' ∧ ∀ z, S' z → S z ∨ H.size ≤ z)) := by
  obtain ⟨⟨sv, fp, mb, a1, a2, a3, s1, s2, s3, s4⟩, h2⟩ := id h
  have key : okTuple true (Value.int .i64 0) ((pl x).map i64) = .tuple [i64 ((pl x).getD 0), .bool (pl x).isSome].toArray := by cases pl x <;> rfl
  refine ccT d_sift_Row_Add ⟨rfl, ?_⟩
  refine v4 s_sift_Row_Add.eq_1 (rd_of_own a1) a3.look key ?_
  cases hx : pl x with
  | some p =>
    simp (disch := (first | omega | (simp only [Zs] <;> omega) | fail)) only [go_sem, ↓reduceIte, Zv, Option.isSome_some]
    exact .inl ⟨by simp, rfl, rfl⟩
  | none =>
    simp (disch := (first | omega | (simp only [Zs] <;> omega) | fail)) only [go_sem, ↓reduceIte, Zv, Option.isSome_none, rd_of_own a1]
    have hb := own_lt a1
    have e0 : Ext (fun _ => False) H (H.new 3 [i64 x]) := (Ext.refl _ H).new 3 [i64 x]
    refine Sl.append (a2.ext e0 (fun _ _ h => h)) (Sl.lit_at (size := 1) (xs := [i64 x]) rfl rfl).rd rfl (allOne_ints [x]) (by omega) ?_
    intro v' H2 fp' hs hext hfp
    have b1 := hext.own (e0.own a1 (fun h => h)) (fun e => (s4 r e).2.1 rfl)
    have hs' := hs
    obtain ⟨f, rfl⟩ : ∃ f, fp' = some f := by
      cases fp' with
      | none => obtain ⟨_, e, _⟩ := hs; omega
      | some f => exact ⟨f, rfl⟩
    obtain ⟨_, l', c', rfl, g1, g2, g3, g4⟩ := hs'
    have hf : (fp = some f) ∨ H.size ≤ f := by
      rcases hfp with h | ⟨z, h, h5, h6⟩
      · exact .inl h.symm
      · injection h with h; subst h; rw [size_new] at h5; exact .inr (by omega)
    have hfr : f ≠ r ∧ f ≠ mb := by
      rcases hf with h | h
      · exact (s4 f h).2
      · have := a3.lt; omega
    have e2 : Ext (fun z => S z) H H2 := (e0.mono fun _ _ h => h.elim).trans' hext (fun z _ hz => (s4 z hz).1)
    have e3 : Ext (fun z => S z) H (H2.wr r [i64 d, .slice (some ⟨f, 0, none⟩) (l.length + 1) c', .map (some mb)]) := e2.wr (fun _ => s1) _
    have hr : RowAt (H2.wr r [i64 d, .slice (some ⟨f, 0, none⟩) (l.length + 1) c', .map (some mb)]) r (fun z => S z ∨ z = f) d (l ++ [x]) pl := by
      have ew : Ext (fun z => z = r) H2 (H2.wr r [i64 d, .slice (some ⟨f, 0, none⟩) (l.length + 1) c', .map (some mb)]) := (Ext.refl (fun z => z = r) _).wr (fun _ => rfl) _
      refine ⟨⟨.slice (some ⟨f, 0, none⟩) (l.length + 1) c', some f, mb, ?_, ?_, ((a3.ext e0 (fun h => h)).ext hext (fun e => (s4 mb e).2.2 rfl)).ext ew (Ne.symm s3), .inl s1, .inl s2, s3, fun b e => by cases e; exact ⟨.inr rfl, hfr⟩⟩, ?_⟩
      · exact own_wr_same b1
      · rw [List.length_append, List.map_append]; exact hs.ext ew (fun b e => by injection e with e; subst e; exact hfr.1)
      · rintro z (hz | rfl)
        · exact Nat.lt_of_lt_of_le (h2 z hz) e3.size
        · rw [size_wr]; exact own_lt g1
    have hd2 : ∀ z, (S z ∨ z = f) → ¬ T z := by
      rintro z (hz | rfl) ht
      · exact hd z hz ht
      · rcases hf with h | h
        · exact hd _ (s4 _ h).1 ht
        · have := ho.tlt H n hI _ ht; omega
    have hI2 := ho.keep _ _ _ _ hI e3 (fun z hz hs => hd z hs hz)
    simp (disch := (first | omega | (simp only [Zs] <;> omega) | fail)) only [go_sem, ↓reduceIte, Zv, b1, rd_wr_same b1]
    rw [wrap64 (by omega) (by omega), show ((l.length + 1 : Nat) : Int) - 1 = (l.length : Int) by omega]
    refine (sift_up_spec ho hr hd2 hI2 l.length x ⟨by omega, by rw [List.length_append, List.length_singleton]; omega⟩ (by rw [List.length_append]; simp; omega) hDx (fun z hz => by rcases List.mem_append.1 hz with h | h; exact hD z h; rw [List.mem_singleton.1 h]; exact hDx)).mono ?_
    rintro _ H3 ⟨_, r1, r2, r3⟩
    refine vs ?_
    refine .inr ⟨rfl, rfl, _, r1, r2, ?_, ?_⟩
    · refine (e3.mono fun z _ hz => Or.inl hz).trans' r3 ?_
      rintro z hz ((h | rfl) | h)
      · exact .inl h
      · rcases hf with h | h
        · exact .inl (s4 _ h).1
        · omega
      · exact .inr h
    · rintro z (h | rfl)
      · exact .inl h
      · rcases hf with h | h
        · exact .inl (s4 _ h).1
        · exact .inr h
theorem sift_Raise_spec {ov : Value} {I : Hp → Nat → Prop} {T : Nat → Prop} {lt : Int → Int → Bool} {D : Int → Prop} (ho : OrdS ov I T lt D) {H : Hp} {r : Nat} {S : Nat → Prop} {d : Int} {l : List Int} {pl : Int → Option Int}
    (h : RowAt H r S d l pl) (hd : ∀ x, S x → ¬ T x) {n : Nat} (hI : I H n) (x : Int) (hl : l.length ≤ 1000000) (hp : ∀ i, pl x = some i → 0 ≤ i ∧ i < l.length) (hDx : D x := by trivial) (hD : ∀ z ∈ l, D z := by intros; trivial) :
    CallH Tryz.prog n_sift_Row_Raise [ptr r, ov, i64 x] H fun v H' => Post (
      (pl x = none ∧ v = .bool false ∧ H = H') ∨
      (∃ i, pl x = some i ∧ v = .bool true ∧ RowAt H' r S d (upM lt d x i.toNat l pl i).l (upM lt d x i.toNat l pl i).pl ∧ I H' (n + (upM lt d x i.toNat l pl i).asked) ∧ Ext (fun z => S z ∨ T z) H H')) := by
  obtain ⟨⟨sv, fp, mb, a1, a2, a3, s1, s2, s3, s4⟩, h2⟩ := id h
  have key : okTuple true (Value.int .i64 0) ((pl x).map i64) = .tuple [i64 ((pl x).getD 0), .bool (pl x).isSome].toArray := by cases pl x <;> rfl
  refine ccT d_sift_Row_Raise ⟨rfl, ?_⟩
  refine v4 s_sift_Row_Raise.eq_1 (rd_of_own a1) a3.look key ?_
  cases hx : pl x with
  | none =>
    simp (disch := (first | omega | (simp only [Zs] <;> omega) | fail)) only [go_sem, ↓reduceIte, Zv, Option.isSome_none]
    exact .inl ⟨rfl, rfl, rfl⟩
  | some i =>
    simp (disch := (first | omega | (simp only [Zs] <;> omega) | fail)) only [go_sem, ↓reduceIte, Zv, Option.isSome_some, Option.getD_some]
    refine (sift_up_spec ho h hd hI i x (hp i hx) hl hDx hD).mono ?_
    rintro _ H3 ⟨_, r1, r2, r3⟩
    refine vs ?_
    exact .inr ⟨i, rfl, rfl, r1, r2, r3⟩
theorem slices_Clone_spec {H : Hp} {v : Value} {n : Nat} {xs : List Int} (h : RdS H 1 v n (xs.map i64)) (hn : n ≤ 1000000) :
    CallH Tryz.prog n_slices_Clone_int_int [v] H fun r H' => Post (Fresh H H' ∧ ∃ fp, Sl H' 1 r n (xs.map i64) fp ∧ ∀ b, fp = some b → H.size ≤ b ∧ b < H'.size) := by
  refine ccT d_slices_Clone_int_int ⟨rfl, ?_⟩
  have hv : ∃ a c, v = .slice a n c := by
    obtain ⟨_, ⟨rfl, a, c, rfl⟩ | ⟨b, o, c, l, rfl, _⟩⟩ := h
    · exact ⟨_, _, rfl⟩
    · exact ⟨_, _, rfl⟩
  obtain ⟨a, c, rfl⟩ := hv
  refine v1 s_slices_Clone_int_int.eq_1 ?_
  cases a with
  | none =>
    have hn0 : n = 0 := by
      obtain ⟨_, ⟨rfl, _⟩ | ⟨b, o, c, l, e, _⟩⟩ := h
      · rfl
      · cases e
    have hx : xs.map i64 = [] := List.length_eq_zero_iff.1 (by have := h.1; simpa [hn0] using this)
    simp (disch := (first | omega | (simp only [Zs] <;> omega) | fail)) only [go_sem, ↓reduceIte, Zv, Option.isNone_none]
    rw [hx, hn0]
    exact ⟨Ext.refl _ _, none, Sl.nil H 1, fun b hb => by cases hb⟩
  | some ad =>
    simp (disch := (first | omega | (simp only [Zs] <;> omega) | fail)) only [go_sem, ↓reduceIte, Zv, Option.isNone_some]
    have e0 : Ext (fun _ => False) H (H.new 3 []) := (Ext.refl _ H).new 3 []
    refine Sl.append (Sl.lit_at (size := 1) (n := 0) (xs := []) rfl rfl) (h.fresh e0) rfl (allOne_ints xs) (by omega) ?_
    intro v' H2 fp' hs hext hfp
    refine vs ?_
    refine ⟨Ext.trans' e0 hext (fun z hz hzs => by injection hzs with hzs; omega), fp', by simpa [tup] using hs, ?_⟩
    intro z hz
    have hsz := hext.size
    rw [size_new] at hsz
    rcases hfp with h | ⟨y, h, h5, h6⟩
    · rw [h] at hz; injection hz with hz; omega
    · rw [h] at hz; injection hz with hz; subst hz; rw [size_new] at h5; omega
def bestM (lt : Int → Int → Bool) (l : List Int) (d i : Int) : Nat → Int → Int × Nat
  | 0, best => (best, 0)
  | m + 1, best =>
    if d * i + (d - m) < l.length then
      let r := bestM lt l d i m (if lt (l.getD (d * i + (d - m)).toNat 0) (l.getD best.toNat 0) = true then d * i + (d - m) else best)
      (r.1, r.2 + 1)
    else bestM lt l d i m best
theorem RowAt.read {H : Hp} {r : Nat} {S : Nat → Prop} {d : Int} {l : List Int} {pl : Int → Option Int} (h : RowAt H r S d l pl) (hl : 0 < l.length) :
    ∃ f l' c mb, H.own r = some [i64 d, .slice (some ⟨f, 0, none⟩) l.length c, .map (some mb)] ∧ H.own f = some l' ∧ ∀ (i : Nat) (x : Int), l[i]? = some x → l'[i]? = some (i64 x) := by
  obtain ⟨⟨sv, fp, mb, a1, a2, a3, s1, s2, s3, s4⟩, h2⟩ := h
  cases fp with
  | none => obtain ⟨_, e, _⟩ := a2; omega
  | some f =>
    obtain ⟨_, l', c, rfl, a4, a5, a6, a7⟩ := a2
    refine ⟨f, l', c, mb, a1, a4, ?_⟩
    intro i x hx
    have hi := (List.getElem?_eq_some_iff.1 hx).1
    have h1 : (l.map i64)[i]? = some (i64 x) := by simp [hx]
    rw [← a7, List.getElem?_take_of_lt (by omega)] at h1
    exact h1
theorem sift_first_spec {ov : Value} {I : Hp → Nat → Prop} {T : Nat → Prop} {lt : Int → Int → Bool} {D : Int → Prop} (ho : OrdS ov I T lt D) {H : Hp} {r : Nat} {S : Nat → Prop} {d : Int} {l : List Int} {pl : Int → Option Int}
    (h : RowAt H r S d l pl) (hd : ∀ x, S x → ¬ T x) {n : Nat} (hI : I H n) (hf : FineD d) (i : Int) (hi : 0 ≤ i ∧ i < l.length) (hl : l.length ≤ 1000000) (hD : ∀ z ∈ l, D z := by intros; trivial) :
    CallH Tryz.prog n_sift_Row_first [ptr r, ov, i64 i] H fun v H' => Post (
      ((l.length : Int) ≤ d * i + 1 ∧ v = .tuple [i64 0, .bool false].toArray ∧ H = H') ∨
      (d * i + 1 < l.length ∧ v = .tuple [i64 (bestM lt l d i (d - 1).toNat (d * i + 1)).1, .bool true].toArray ∧ RowAt H' r S d l pl ∧ I H' (n + (bestM lt l d i (d - 1).toNat (d * i + 1)).2) ∧ Ext T H H')) := by
  obtain ⟨f, l', c, mb, a1, a2, a3⟩ := h.read (by omega)
  have hf1 := hf.1
  have hf2 := hf.2
  have hc : ∀ k, 1 ≤ k → k ≤ d → childF d i k = some (d * i + k) := fun k h1 h2 => by unfold childF; rw [if_pos ⟨hf, by omega, by omega, h1, h2⟩]
  have hb := childF_bound (i := i) hf (by omega) (by omega) (by omega : (1 : Int) ≤ 1) (by omega)
  refine ccT d_sift_Row_first ⟨rfl, ?_⟩
  refine v2 s_sift_Row_first.eq_1 (rd_of_own a1) ?_
  refine (sift_Child_spec d i 1 H).mono ?_
  rintro _ _ ⟨rfl, rfl⟩
  rw [hc 1 (by omega) (by omega)]
  simp (disch := (first | omega | (simp only [Zs] <;> omega) | fail)) only [go_sem, ↓reduceIte, Zv, twoF, rd_of_own a1]
  refine Both.dec (fun h1 => ?_) (fun h1 => ?_) <;> refine vs ?_
  · exact .inl ⟨by omega, rfl, rfl⟩
  · refine LoopV.intro (fun m env H1 => ∃ (best : Int) (k : Nat), env = [(0, ptr r), (1, ov), (2, i64 i), (8, i64 best), (10, i64 (d + 1 - m))] ∧ (m : Int) ≤ d - 1 ∧ 0 ≤ best ∧ best < l.length ∧
      RowAt H1 r S d l pl ∧ I H1 (n + k) ∧ Ext T H H1 ∧
      (bestM lt l d i (d - 1).toNat (d * i + 1)).1 = (bestM lt l d i m best).1 ∧ (bestM lt l d i (d - 1).toNat (d * i + 1)).2 = k + (bestM lt l d i m best).2) (d - 1).toNat
      ⟨d * i + 1, 0, by rw [show d + 1 - ((d - 1).toNat : Int) = 2 by omega], by omega, by omega, by omega, h, hI, Ext.refl _ _, rfl, by omega⟩ ?_
    rintro m env H1 ⟨best, k, rfl, hm, b0, b1, r1, i1, e1, u1, u2⟩
    obtain ⟨f1, l1, c1, mb1, g1, g2, g3⟩ := r1.read (by omega)
    refine v1 (rd_of_own g1) ?_
    refine Both.dec (fun hk => ?_) (fun hk => ?_) <;> refine vs ?_
    · obtain ⟨q, rfl⟩ : ∃ q, m = q + 1 := ⟨m - 1, by omega⟩
      rw [show d + 1 - ((q + 1 : Nat) : Int) = d - q by omega] at *
      refine v1 (rd_of_own g1) ?_
      refine (sift_Child_spec d i (d - q) H1).mono ?_
      rintro _ _ ⟨rfl, rfl⟩
      have hcb := childF_bound (i := i) hf (by omega) (by omega) (by omega : (1 : Int) ≤ d - q) (by omega)
      rw [hc (d - q) (by omega) (by omega)]
      simp (disch := (first | omega | (simp only [Zs] <;> omega) | fail)) only [go_sem, ↓reduceIte, Zv, twoF, rd_of_own g1]
      refine Both.dec (fun hcl => ?_) (fun hcl => ?_) <;> refine vs ?_
      · obtain ⟨x, hx⟩ : ∃ x, l[(d * i + (d - q)).toNat]? = some x := ⟨_, List.getElem?_eq_getElem (by omega)⟩
        obtain ⟨y, hy⟩ : ∃ y, l[best.toNat]? = some y := ⟨_, List.getElem?_eq_getElem (by omega)⟩
        have hx' := g3 _ _ hx
        have hy' := g3 _ _ hy
        refine v1 (rd_of_own g1) ?_
        refine ⟨by omega, ?_⟩
        refine v4 (rd_of_own g1) (rd_of_own g2) Nat.mul_one hx' ?_
        refine ⟨by omega, ?_⟩
        refine v3 (rd_of_own g2) Nat.mul_one hy' ?_
        refine ⟨ho.nil, ?_⟩
        refine vs ?_
        refine InvH.mono (ho.call H1 (n + k) x y (hD x (List.mem_of_getElem? hx)) (hD y (List.mem_of_getElem? hy)) i1) ?_
        rintro _ H2 ⟨rfl, hI2, e2⟩
        have hbm : ∀ z, z = (if lt x y = true then d * i + (d - q) else best) → bestM lt l d i (q + 1) best = ((bestM lt l d i q z).1, (bestM lt l d i q z).2 + 1) := by
          intro z hz
          rw [bestM, if_pos hcl]
          simp only [List.getD, hx, hy, Option.getD_some, hz]
        refine vs ?_
        refine Both.intro (fun hlt => ?_) (fun hlt => ?_) <;> refine vs ?_
        · rw [wrap64 (by omega) (by omega)]
          exact ⟨q, by omega, d * i + (d - q), k + 1, by rw [show d + 1 - (q : Int) = d - q + 1 by omega], by omega, by omega, by omega, r1.ext e2 hd, hI2, e1.trans e2,
            by rw [u1, hbm (d * i + (d - q)) (by rw [if_pos hlt])], by rw [u2, hbm (d * i + (d - q)) (by rw [if_pos hlt])]; simp only; omega⟩
        · rw [wrap64 (by omega) (by omega)]
          exact ⟨q, by omega, best, k + 1, by rw [show d + 1 - (q : Int) = d - q + 1 by omega], by omega, by omega, by omega, r1.ext e2 hd, hI2, e1.trans e2,
            by rw [u1, hbm best (by rw [if_neg (by rw [hlt]; simp)])], by rw [u2, hbm best (by rw [if_neg (by rw [hlt]; simp)])]; simp only; omega⟩
      · rw [wrap64 (by omega) (by omega)]
        have hbm : bestM lt l d i (q + 1) best = bestM lt l d i q best := by rw [bestM, if_neg hcl]
        exact ⟨q, by omega, best, k, by rw [show d + 1 - (q : Int) = d - q + 1 by omega], by omega, by omega, by omega, r1, i1, e1, by rw [u1, hbm], by rw [u2, hbm]⟩
    · have h0 : m = 0 := by omega
      subst h0
      refine .inr ⟨by omega, ?_, r1, ?_, e1⟩
      · rw [u1]; rfl
      · rw [u2]; exact i1
def downM (lt : Int → Int → Bool) (d x : Int) : Nat → List Int → (Int → Option Int) → Int → List Int × (Int → Option Int) × Nat
  | 0, l, pl, i => (l.set i.toNat x, setM pl x i, 0)
  | m + 1, l, pl, i =>
    if (l.length : Int) ≤ d * i + 1 then (l.set i.toNat x, setM pl x i, 0)
    else
      let b := bestM lt l d i (d - 1).toNat (d * i + 1)
      let y := l.getD b.1.toNat 0
      if lt y x = true then
        let r := downM lt d x m (l.set i.toNat y) (setM pl y i) b.1
        (r.1, r.2.1, r.2.2 + b.2 + 1)
      else (l.set i.toNat x, setM pl x i, b.2 + 1)
theorem bestM_bound (lt : Int → Int → Bool) (l : List Int) (d i : Int) (h : 0 ≤ d * i) : ∀ (m : Nat) (best : Int), (m : Int) ≤ d - 1 → d * i + 1 ≤ best → best < l.length → d * i + 1 ≤ (bestM lt l d i m best).1 ∧ (bestM lt l d i m best).1 < l.length := by
  intro m
  induction m with
  | zero => intro best _ h1 h2; exact ⟨h1, h2⟩
  | succ m ih =>
    intro best hm h1 h2
    unfold bestM
    split
    · simp only
      split
      · exact ih _ (by omega) (by omega) (by omega)
      · exact ih _ (by omega) h1 h2
    · exact ih _ (by omega) h1 h2
theorem below_more {d i b : Int} (hf : FineD d) (hi : 0 ≤ i) (hb : d * i + 1 ≤ b) : i < b := by
  have h1 := hf.1
  have : 1 * i ≤ d * i := Int.mul_le_mul_of_nonneg_right (by omega) hi
  omega
theorem downM_more (lt : Int → Int → Bool) (d x : Int) (hf : FineD d) : ∀ (m m' : Nat) (l : List Int) (pl : Int → Option Int) (i : Int), 0 ≤ i → l.length ≤ i.toNat + m → l.length ≤ i.toNat + m' →
    downM lt d x m l pl i = downM lt d x m' l pl i := by
  have hz : ∀ (m : Nat) (l : List Int) (pl : Int → Option Int) (i : Int), 0 ≤ i → l.length ≤ i.toNat → downM lt d x m l pl i = (l.set i.toNat x, setM pl x i, 0) := by
    intro m l pl i hi hl
    cases m with
    | zero => rfl
    | succ m =>
      have h1 := hf.1
      have : 1 * i ≤ d * i := Int.mul_le_mul_of_nonneg_right (by omega) hi
      rw [downM, if_pos (by omega)]
  intro m
  induction m with
  | zero => intro m' l pl i hi h h'; rw [hz 0 l pl i hi (by omega), hz m' l pl i hi (by omega)]
  | succ m ih =>
    intro m' l pl i hi h h'
    cases m' with
    | zero => rw [hz 0 l pl i hi (by omega), hz (m + 1) l pl i hi (by omega)]
    | succ m' =>
      rw [downM, downM]
      split
      · rfl
      · rename_i hc
        have h1 := hf.1
        have hdi : 0 ≤ d * i := Int.mul_nonneg (by omega) hi
        have hb := bestM_bound lt l d i hdi (d - 1).toNat (d * i + 1) (by omega) (by omega) (by omega)
        have hlt := below_more hf hi hb.1
        simp only
        split
        · rw [ih m' _ _ _ (by omega) (by rw [List.length_set]; omega) (by rw [List.length_set]; omega)]
        · rfl
theorem sift_down_spec {ov : Value} {I : Hp → Nat → Prop} {T : Nat → Prop} {lt : Int → Int → Bool} {D : Int → Prop} (ho : OrdS ov I T lt D) {H : Hp} {r : Nat} {S : Nat → Prop} {d : Int} {l : List Int} {pl : Int → Option Int}
    (h : RowAt H r S d l pl) (hd : ∀ x, S x → ¬ T x) {n : Nat} (hI : I H n) (hf : FineD d) (i x : Int) (hi : 0 ≤ i ∧ i < l.length) (hl : l.length ≤ 1000000) (hx : D x := by trivial) (hD : ∀ z ∈ l, D z := by intros; trivial) :
    CallH Tryz.prog n_sift_Row_down [ptr r, ov, i64 i, i64 x] H fun v H' => Post (
      let R := downM lt d x l.length l pl i
      RowAt H' r S d R.1 R.2.1 ∧ I H' (n + R.2.2) ∧ Ext (fun z => S z ∨ T z) H H') := by
  refine ccT d_sift_Row_down ⟨rfl, ?_⟩
  refine v1 s_sift_Row_down.eq_1 ?_
  refine LoopV.intro (fun m env H1 => ∃ (l1 : List Int) (pl1 : Int → Option Int) (i1 : Int) (k : Nat), env = [(0, ptr r), (1, ov), (2, i64 i1), (3, i64 x)] ∧ (∀ z ∈ l1, D z) ∧ m = l1.length - i1.toNat ∧ 0 ≤ i1 ∧ i1 < l1.length ∧ l1.length = l.length ∧
      RowAt H1 r S d l1 pl1 ∧ I H1 (n + k) ∧ Ext (fun z => S z ∨ T z) H H1 ∧
      (downM lt d x l.length l pl i).1 = (downM lt d x l1.length l1 pl1 i1).1 ∧ (downM lt d x l.length l pl i).2.1 = (downM lt d x l1.length l1 pl1 i1).2.1 ∧
      (downM lt d x l.length l pl i).2.2 = k + (downM lt d x l1.length l1 pl1 i1).2.2) (l.length - i.toNat) ⟨l, pl, i, 0, rfl, hD, rfl, hi.1, hi.2, rfl, h, hI, Ext.refl _ _, rfl, rfl, by omega⟩ ?_
  rintro m env H1 ⟨l1, pl1, i1, k, rfl, hD1, rfl, i0, il, ll, h1, hI1, e1, u1, u2, u3⟩
  have hd1 := hf.1
  have hdi : 0 ≤ d * i1 := Int.mul_nonneg (by omega) i0
  have stop : ∀ (H2 : Hp) (k2 : Nat), RowAt H2 r S d l1 pl1 → I H2 (n + k + k2) → Ext (fun z => S z ∨ T z) H H2 → downM lt d x l1.length l1 pl1 i1 = (l1.set i1.toNat x, setM pl1 x i1, k2) →
      CallH Tryz.prog n_sift_Row_set [ptr r, i64 i1, i64 x] H2 fun _ H' => (RowAt H' r S d (downM lt d x l.length l pl i).1 (downM lt d x l.length l pl i).2.1 ∧
        I H' (n + (downM lt d x l.length l pl i).2.2) ∧ Ext (fun z => S z ∨ T z) H H') := by
    intro H2 k2 g1 g2 g3 g4
    refine (sift_set_spec g1 i1 x ⟨i0, il⟩).mono ?_
    rintro _ H3 ⟨_, g5, g6⟩
    rw [u1, u2, u3, g4]
    exact ⟨g5, by rw [← Nat.add_assoc]; exact ho.keep _ _ _ _ g2 g6 (fun z hz hs => hd z hs hz), g3.trans (g6.mono fun z _ hz => .inl hz)⟩
  obtain ⟨q, hq⟩ : ∃ q, l1.length = q + 1 := ⟨l1.length - 1, by omega⟩
  refine vs ?_
  refine (sift_first_spec ho h1 hd hI1 hf i1 ⟨i0, il⟩ (by omega) hD1).mono ?_
  rintro _ H2 (⟨hc, rfl, rfl⟩ | ⟨hc, rfl, h2, hI2, e2⟩)
  · refine vs ?_
    refine (stop H1 0 h1 hI1 e1 ?_).mono ?_
    · rw [hq, downM, if_pos hc]
    · rintro _ H3 ⟨g1, g2, g3⟩
      refine vs ?_
      exact ⟨g1, g2, g3⟩
  · have hb := bestM_bound lt l1 d i1 hdi (d - 1).toNat (d * i1 + 1) (by omega) (by omega) hc
    have hlt := below_more hf i0 hb.1
    obtain ⟨f1, l', c1, mb1, g1, g2, g3⟩ := h2.read (by omega)
    obtain ⟨y, hy⟩ : ∃ y, l1[(bestM lt l1 d i1 (d - 1).toNat (d * i1 + 1)).1.toNat]? = some y := ⟨_, List.getElem?_eq_getElem (by omega)⟩
    have hy' := g3 _ _ hy
    have hy3 : l1.getD (bestM lt l1 d i1 (d - 1).toNat (d * i1 + 1)).1.toNat 0 = y := by rw [List.getD_eq_getElem?_getD, hy]; rfl
    have e12 := e1.trans (e2.mono fun z _ hz => .inr hz)
    refine v1 (rd_of_own g1) ?_
    refine ⟨by omega, ?_⟩
    refine v3 (rd_of_own g2) Nat.mul_one hy' ?_
    refine ⟨ho.nil, ?_⟩
    refine vs ?_
    refine InvH.mono (ho.call H2 _ y x (hD1 y (List.mem_of_getElem? hy)) hx hI2) ?_
    rintro _ H3 ⟨rfl, hI3, e3⟩
    have h3 := h2.ext e3 hd
    have e13 := e12.trans (e3.mono fun z _ hz => .inr hz)
    obtain ⟨f4, l4, c4, mb4, k1, k2, k3⟩ := h3.read (by omega)
    have hy4 := k3 _ _ hy
    refine vs ?_
    cases hyx : lt y x with
    | false =>
      refine vs ?_
      refine (stop H3 ((bestM lt l1 d i1 (d - 1).toNat (d * i1 + 1)).2 + 1) h3 (by rw [← Nat.add_assoc]; exact hI3) e13 ?_).mono ?_
      · rw [hq, downM, if_neg (by omega)]
        simp only [hy3, hyx]
        rfl
      · rintro _ H4 ⟨g1, g2, g3⟩
        refine vs ?_
        exact ⟨g1, g2, g3⟩
    | true =>
      refine v1 (rd_of_own k1) ?_
      refine ⟨by omega, ?_⟩
      refine v3 (rd_of_own k2) Nat.mul_one hy4 ?_
      refine (sift_set_spec h3 i1 y ⟨i0, il⟩).mono ?_
      rintro _ H4 ⟨_, g5, g6⟩
      refine vs ?_
      have hdn : downM lt d x l1.length l1 pl1 i1 = ((downM lt d x (l1.set i1.toNat y).length (l1.set i1.toNat y) (setM pl1 y i1) (bestM lt l1 d i1 (d - 1).toNat (d * i1 + 1)).1).1,
          (downM lt d x (l1.set i1.toNat y).length (l1.set i1.toNat y) (setM pl1 y i1) (bestM lt l1 d i1 (d - 1).toNat (d * i1 + 1)).1).2.1,
          (downM lt d x (l1.set i1.toNat y).length (l1.set i1.toNat y) (setM pl1 y i1) (bestM lt l1 d i1 (d - 1).toNat (d * i1 + 1)).1).2.2 + (bestM lt l1 d i1 (d - 1).toNat (d * i1 + 1)).2 + 1) := by
        rw [downM_more lt d x hf (l1.set i1.toNat y).length q _ _ _ (by omega) (by omega) (by rw [List.length_set]; omega), hq, downM, if_neg (by omega)]
        simp only [hy3, hyx, if_true]
      refine ⟨l1.length - (bestM lt l1 d i1 (d - 1).toNat (d * i1 + 1)).1.toNat, by omega, l1.set i1.toNat y, setM pl1 y i1, (bestM lt l1 d i1 (d - 1).toNat (d * i1 + 1)).1, k + (bestM lt l1 d i1 (d - 1).toNat (d * i1 + 1)).2 + 1, rfl, fun z hz => (mem_setL hz).elim (fun e => e ▸ hD1 y (List.mem_of_getElem? hy)) (hD1 z), by rw [List.length_set], by omega, by rw [List.length_set]; omega, by rw [List.length_set]; exact ll, g5, ?_,
        e13.trans (g6.mono fun z _ hz => .inl hz), by rw [u1, hdn], by rw [u2, hdn], by rw [u3, hdn]; simp only; omega⟩
      have := ho.keep _ _ _ _ hI3 g6 (fun z hz hs => hd z hs hz)
      rw [show n + (k + (bestM lt l1 d i1 (d - 1).toNat (d * i1 + 1)).2 + 1) = n + k + (bestM lt l1 d i1 (d - 1).toNat (d * i1 + 1)).2 + 1 by omega]
      exact this
def pa (d : Int) (j : Nat) : Nat := (((j : Int) - 1) / d).toNat
theorem parentF_pa {d : Int} (hf : FineD d) {i : Int} (h1 : 1 ≤ i) : ∃ p, parentF d i = some p ∧ p.toNat = pa d i.toNat ∧ 0 ≤ p ∧ p < i := by
  have hp : parentF d i = some ((i - 1) / d) := by unfold parentF; rw [if_pos ⟨hf, h1⟩]
  have hb := parentF_lt hp
  refine ⟨_, hp, ?_, hb.1, hb.2⟩
  unfold pa
  rw [show ((i.toNat : Nat) : Int) = i by omega]
theorem pa_lt {d : Int} (hf : FineD d) {j : Nat} (h : 1 ≤ j) : pa d j < j := by
  obtain ⟨p, _, h1, h2, h3⟩ := parentF_pa hf (i := (j : Int)) (by omega)
  simp only [Int.toNat_natCast] at h1
  omega
theorem pa_iff {d : Int} (hf : FineD d) {i j : Nat} (h : 1 ≤ j) : pa d j = i ↔ (d * i + 1 ≤ j ∧ (j : Int) ≤ d * i + d) := by
  have hd := hf.1
  unfold pa
  have e1 := Int.mul_ediv_add_emod ((j : Int) - 1) d
  have e2 := Int.emod_nonneg ((j : Int) - 1) (show d ≠ 0 by omega)
  have e3 := Int.emod_lt_of_pos ((j : Int) - 1) (show 0 < d by omega)
  have e4 : 0 ≤ ((j : Int) - 1) / d := Int.ediv_nonneg (by omega) (by omega)
  constructor
  · intro h
    have : ((j : Int) - 1) / d = i := by omega
    rw [this] at e1
    omega
  · rintro ⟨h1, h2⟩
    have h3 := parent_of_child (d := d) (i := (i : Int)) (j := (j : Int) - d * i) hd (by omega) (by omega) (by omega)
    rw [show d * (i : Int) + ((j : Int) - d * i) - 1 = (j : Int) - 1 by omega] at h3
    omega
theorem getD_set (l : List Int) (i j : Nat) (v : Int) (hi : i < l.length) : (l.set i v).getD j 0 = if i = j then v else l.getD j 0 := by
  rw [List.getD_eq_getElem?_getD, List.getElem?_set, List.getD_eq_getElem?_getD]
  by_cases h : i = j
  · subst h; simp [hi]
  · simp [h]
def HeapL (lt : Int → Int → Bool) (d : Int) (l : List Int) : Prop := ∀ j, 1 ≤ j → j < l.length → lt (l.getD j 0) (l.getD (pa d j) 0) = false
def HeapBut (lt : Int → Int → Bool) (d : Int) (l : List Int) (i : Nat) : Prop :=
  (∀ j, 1 ≤ j → j < l.length → j ≠ i → pa d j ≠ i → lt (l.getD j 0) (l.getD (pa d j) 0) = false) ∧
  (∀ j, 1 ≤ j → j < l.length → pa d j = i → 1 ≤ i → lt (l.getD j 0) (l.getD (pa d i) 0) = false)
theorem HeapL.but {lt : Int → Int → Bool} (ho : Strict lt) {d : Int} (hf : FineD d) {l : List Int} (h : HeapL lt d l) (i : Nat) : HeapBut lt d l i := by
  refine ⟨fun j h1 h2 _ _ => h j h1 h2, fun j h1 h2 h3 h4 => ?_⟩
  have e1 := h j h1 h2
  have e2 := h i h4 (by have := pa_lt hf h1; omega)
  rw [h3] at e1
  exact ho.nt _ _ _ e1 e2
theorem HeapBut.set {lt : Int → Int → Bool} {d : Int} (hf : FineD d) {l : List Int} {i : Nat} (hi : i < l.length) (h : HeapBut lt d l i) {x : Int} (hB : ∀ j, 1 ≤ j → j < l.length → pa d j = i → lt (l.getD j 0) x = false)
    (hD : 1 ≤ i → lt x (l.getD (pa d i) 0) = false) : HeapL lt d (l.set i x) := by
  intro j h1 h2
  rw [List.length_set] at h2
  rw [getD_set _ _ _ _ hi, getD_set _ _ _ _ hi]
  have hlt := pa_lt hf h1
  by_cases e1 : i = j
  · subst e1
    rw [if_pos rfl, if_neg (by omega)]
    exact hD h1
  · rw [if_neg e1]
    by_cases e2 : i = pa d j
    · rw [if_pos e2]; exact hB j h1 h2 e2.symm
    · rw [if_neg e2]; exact h.1 j h1 h2 (Ne.symm e1) (Ne.symm e2)
theorem up_heap {lt : Int → Int → Bool} (ho : Strict lt) {d : Int} (hf : FineD d) (x : Int) : ∀ (m : Nat) (l : List Int) (pl : Int → Option Int) (i : Int), i.toNat ≤ m → 0 ≤ i → i < l.length → HeapBut lt d l i.toNat →
    (∀ j, 1 ≤ j → j < l.length → pa d j = i.toNat → lt (l.getD j 0) x = false) → HeapL lt d (upM lt d x m l pl i).l := by
  intro m
  induction m with
  | zero =>
    intro l pl i hm h0 hl hA hB
    exact hA.set hf (by omega) hB (fun h => by omega)
  | succ m ih =>
    intro l pl i hm h0 hl hA hB
    by_cases hi : 1 ≤ i
    · obtain ⟨p, hp, hpa, p0, p1⟩ := parentF_pa hf hi
      unfold upM
      rw [hp]
      simp only [hpa]
      cases hlt : lt x (l.getD (pa d i.toNat) 0) with
      | false =>
        exact hA.set hf (by omega) hB (fun _ => hlt)
      | true =>
        simp only [if_true]
        have hil : i.toNat < l.length := by omega
        have hpi := pa_lt hf (j := i.toNat) (by omega)
        refine ih _ _ p (by omega) p0 (by rw [List.length_set]; omega) ⟨fun j h1 h2 h3 h4 => ?_, fun j h1 h2 h3 h4 => ?_⟩ (fun j h1 h2 h3 => ?_)
        · rw [List.length_set] at h2
          rw [hpa] at h3 h4
          rw [getD_set _ _ _ _ hil, getD_set _ _ _ _ hil]
          have e1 : i.toNat ≠ j := fun e => h4 (by rw [← e])
          rw [if_neg e1]
          by_cases e2 : i.toNat = pa d j
          · rw [if_pos e2]
            exact hA.2 j h1 h2 e2.symm (by omega)
          · rw [if_neg e2]
            exact hA.1 j h1 h2 (Ne.symm e1) (Ne.symm e2)
        · rw [List.length_set] at h2
          rw [hpa] at h3 h4 ⊢
          rw [getD_set _ _ _ _ hil, getD_set _ _ _ _ hil]
          have hpp := pa_lt hf h4
          rw [if_neg (show i.toNat ≠ pa d (pa d i.toNat) by omega)]
          have e3 := hA.1 (pa d i.toNat) h4 (by omega) (by omega) (by omega)
          by_cases e1 : i.toNat = j
          · rw [if_pos e1]; exact e3
          · rw [if_neg e1]
            have e4 := hA.1 j h1 h2 (Ne.symm e1) (by omega)
            rw [h3] at e4
            exact ho.nt _ _ _ e4 e3
        · rw [List.length_set] at h2
          rw [hpa] at h3
          rw [getD_set _ _ _ _ hil]
          by_cases e1 : i.toNat = j
          · rw [if_pos e1]; exact ho.asym hlt
          · rw [if_neg e1]
            have e4 := hA.1 j h1 h2 (Ne.symm e1) (by omega)
            rw [h3] at e4
            cases hx : lt (l.getD j 0) x with
            | false => rfl
            | true => have := ho.tr _ _ _ hx hlt; rw [this] at e4; cases e4
    · have hi0 : i = 0 := by omega
      subst hi0
      have hn : parentF d 0 = none := by unfold parentF; rw [if_neg (by omega)]
      unfold upM
      rw [hn]
      exact hA.set hf (by omega) hB (fun h => by simp at h)
theorem up_asked (lt : Int → Int → Bool) (d x : Int) : ∀ (m : Nat) (l : List Int) (pl : Int → Option Int) (i : Int), (upM lt d x m l pl i).asked ≤ upF d m i := by
  intro m
  induction m with
  | zero => intro l pl i; simp [upM, upF]
  | succ m ih =>
    intro l pl i
    unfold upM upF
    cases hp : parentF d i with
    | none => simp
    | some p =>
      simp only
      split
      · have := ih (l.set i.toNat (l.getD p.toNat 0)) (setM pl (l.getD p.toNat 0) i) p
        simp only; omega
      · simp only; omega
theorem up_length (lt : Int → Int → Bool) (d x : Int) : ∀ (m : Nat) (l : List Int) (pl : Int → Option Int) (i : Int), (upM lt d x m l pl i).l.length = l.length := by
  intro m
  induction m with
  | zero => intro l pl i; simp [upM]
  | succ m ih =>
    intro l pl i
    unfold upM
    cases hp : parentF d i with
    | none => simp
    | some p =>
      simp only
      split
      · simp [ih]
      · simp
theorem up_stays {lt : Int → Int → Bool} {d : Int} (hf : FineD d) (x : Int) (l : List Int) (pl : Int → Option Int) (i : Int) (h0 : 0 ≤ i) :
    ((upM lt d x i.toNat l pl i).at_ = i ∧ (upM lt d x i.toNat l pl i).l = l.set i.toNat x ∧ (upM lt d x i.toNat l pl i).pl = setM pl x i ∧ (upM lt d x i.toNat l pl i).asked ≤ 1 ∧ (1 ≤ i → lt x (l.getD (pa d i.toNat) 0) = false)) ∨
    ((upM lt d x i.toNat l pl i).at_ < i ∧ 1 ≤ i ∧ lt x (l.getD (pa d i.toNat) 0) = true) := by
  by_cases hi : 1 ≤ i
  · obtain ⟨p, hp, hpa, p0, p1⟩ := parentF_pa hf hi
    obtain ⟨q, hq⟩ : ∃ q, i.toNat = q + 1 := ⟨i.toNat - 1, by omega⟩
    have low : ∀ (m : Nat) (l : List Int) (pl : Int → Option Int) (i : Int), (upM lt d x m l pl i).at_ ≤ i := by
      intro m
      induction m with
      | zero => intro l pl i; simp [upM]
      | succ m ih =>
        intro l pl i
        unfold upM
        cases hp : parentF d i with
        | none => simp
        | some p =>
          have := parentF_lt hp
          simp only
          split
          · have := ih (l.set i.toNat (l.getD p.toNat 0)) (setM pl (l.getD p.toNat 0) i) p
            simp only; omega
          · simp only; omega
    rw [hq, upM, hp, ← hq]
    simp only [hpa]
    cases hlt : lt x (l.getD (pa d i.toNat) 0) with
    | false => exact .inl ⟨rfl, rfl, rfl, Nat.le_refl _, fun _ => rfl⟩
    | true =>
      have := low q (l.set i.toNat (l.getD (pa d i.toNat) 0)) (setM pl (l.getD (pa d i.toNat) 0) i) p
      exact .inr ⟨by simp only [if_true]; omega, hi, rfl⟩
  · have hi0 : i = 0 := by omega
    subst hi0
    exact .inl ⟨rfl, rfl, rfl, by simp [upM], fun h => by omega⟩
def PlH (l : List Int) (pl : Int → Option Int) (i : Int) (x : Int) : Prop :=
  ∀ z, z ≠ x → ∀ k, pl z = some k ↔ (0 ≤ k ∧ k ≠ i ∧ l[k.toNat]? = some z)
def PlOk (l : List Int) (pl : Int → Option Int) : Prop := ∀ z k, pl z = some k ↔ (0 ≤ k ∧ l[k.toNat]? = some z)
theorem PlOk.hole {l : List Int} {pl : Int → Option Int} (h : PlOk l pl) {i x : Int} (hx : l[i.toNat]? = some x) (h0 : 0 ≤ i) : PlH l pl i x := by
  intro z hz k
  rw [h z k]
  constructor
  · rintro ⟨a, b⟩; exact ⟨a, fun e => by subst e; rw [hx] at b; injection b with b; exact hz b.symm, b⟩
  · rintro ⟨a, _, b⟩; exact ⟨a, b⟩
theorem PlOk.uniq {l : List Int} {pl : Int → Option Int} (h : PlOk l pl) {i j : Nat} {z : Int} (hi : l[i]? = some z) (hj : l[j]? = some z) : i = j := by
  have h1 := (h z i).2 ⟨by omega, by simpa using hi⟩
  have h2 := (h z j).2 ⟨by omega, by simpa using hj⟩
  rw [h1] at h2
  injection h2 with h2
  omega
def Oth (l : List Int) (i : Int) (z : Int) : Prop := ∃ k : Nat, (k : Int) ≠ i ∧ l[k]? = some z
theorem PlH.set {l : List Int} {pl : Int → Option Int} {i x : Int} (h : PlH l pl i x) (h0 : 0 ≤ i) (hl : i < l.length) (hx : ¬ Oth l i x) : PlOk (l.set i.toNat x) (setM pl x i) := by
  intro z k
  have hil : i.toNat < l.length := by omega
  by_cases e : z = x
  · subst e
    simp only [setM, if_true]
    constructor
    · intro hk; injection hk with hk; subst hk; exact ⟨h0, by rw [List.getElem?_set_self hil]⟩
    · rintro ⟨a, b⟩
      by_cases e2 : k = i
      · rw [e2]
      · exfalso
        rw [List.getElem?_set_ne (by omega)] at b
        exact hx ⟨k.toNat, by omega, b⟩
  · simp only [setM, if_neg e]
    rw [h z e k]
    constructor
    · rintro ⟨a, b, c⟩; exact ⟨a, by rw [List.getElem?_set_ne (by omega)]; exact c⟩
    · rintro ⟨a, b⟩
      have e2 : k ≠ i := fun e2 => by
        rw [e2, List.getElem?_set_self hil] at b; injection b with b; exact e b.symm
      exact ⟨a, e2, by rw [List.getElem?_set_ne (by omega)] at b; exact b⟩
theorem PlH.move {l : List Int} {pl : Int → Option Int} {i p x y : Int} (h : PlH l pl i x) (h0 : 0 ≤ i) (hl : i < l.length) (p0 : 0 ≤ p) (hpi : p ≠ i) (hy : l[p.toNat]? = some y) (hx : ¬ Oth l i x) :
    PlH (l.set i.toNat y) (setM pl y i) p x ∧ (¬ Oth (l.set i.toNat y) p x) ∧ ∀ z, Oth (l.set i.toNat y) p z ↔ Oth l i z := by
  have hil : i.toNat < l.length := by omega
  have hyx : y ≠ x := fun e => hx ⟨p.toNat, by omega, by rw [hy, e]⟩
  have huniq : ∀ k : Int, 0 ≤ k → k ≠ i → l[k.toNat]? = some y → k = p := by
    intro k k0 ki hk
    have h1 := (h y hyx k).2 ⟨k0, ki, hk⟩
    have h2 := (h y hyx p).2 ⟨p0, hpi, hy⟩
    rw [h1] at h2; injection h2
  have hoth : ∀ z, Oth (l.set i.toNat y) p z ↔ Oth l i z := by
    intro z
    constructor
    · rintro ⟨k, k1, k2⟩
      by_cases e : i.toNat = k
      · rw [← e, List.getElem?_set_self hil] at k2
        injection k2 with k2
        subst k2
        exact ⟨p.toNat, by omega, hy⟩
      · rw [List.getElem?_set_ne e] at k2
        exact ⟨k, by omega, k2⟩
    · rintro ⟨k, k1, k2⟩
      by_cases e : (k : Int) = p
      · refine ⟨i.toNat, by omega, ?_⟩
        rw [List.getElem?_set_self hil]
        rw [show k = p.toNat by omega, hy] at k2
        exact k2
      · exact ⟨k, e, by rw [List.getElem?_set_ne (by omega)]; exact k2⟩
  refine ⟨?_, fun hc => hx ((hoth x).1 hc), hoth⟩
  intro z hz k
  by_cases e : z = y
  · subst e
    simp only [setM, if_true]
    constructor
    · intro hk; injection hk with hk; subst hk; exact ⟨h0, by omega, by rw [List.getElem?_set_self hil]⟩
    · rintro ⟨a, b, c⟩
      by_cases e2 : k = i
      · rw [e2]
      · rw [List.getElem?_set_ne (by omega)] at c
        exact absurd (huniq k a e2 c) b
  · simp only [setM, if_neg e]
    rw [h z hz k]
    constructor
    · rintro ⟨a, b, c⟩
      refine ⟨a, fun e2 => ?_, by rw [List.getElem?_set_ne (by omega)]; exact c⟩
      rw [e2, hy] at c; injection c with c; exact e c.symm
    · rintro ⟨a, b, c⟩
      have e2 : k ≠ i := fun e2 => by rw [e2, List.getElem?_set_self hil] at c; injection c with c; exact e c.symm
      exact ⟨a, e2, by rw [List.getElem?_set_ne (by omega)] at c; exact c⟩
theorem mem_set {l : List Int} {i : Nat} (hi : i < l.length) (x z : Int) : z ∈ l.set i x ↔ z = x ∨ Oth l i z := by
  constructor
  · intro h
    obtain ⟨k, hk⟩ := List.getElem?_of_mem h
    by_cases e : i = k
    · subst e; rw [List.getElem?_set_self hi] at hk; injection hk with hk; exact .inl hk.symm
    · rw [List.getElem?_set_ne e] at hk; exact .inr ⟨k, by omega, hk⟩
  · rintro (rfl | ⟨k, k1, k2⟩)
    · exact List.mem_of_getElem? (i := i) (List.getElem?_set_self hi)
    · exact List.mem_of_getElem? (i := k) (by rw [List.getElem?_set_ne (by omega)]; exact k2)
theorem up_places {lt : Int → Int → Bool} {d : Int} (x : Int) : ∀ (m : Nat) (l : List Int) (pl : Int → Option Int) (i : Int), i.toNat ≤ m → 0 ≤ i → i < l.length → PlH l pl i x → ¬ Oth l i x →
    PlOk (upM lt d x m l pl i).l (upM lt d x m l pl i).pl ∧ ∀ z, z ∈ (upM lt d x m l pl i).l ↔ z = x ∨ Oth l i z := by
  intro m
  induction m with
  | zero =>
    intro l pl i hm h0 hl hP hx
    exact ⟨hP.set h0 hl hx, fun z => by have := mem_set (l := l) (i := i.toNat) (by omega) x z; rw [show ((i.toNat : Nat) : Int) = i by omega] at this; exact this⟩
  | succ m ih =>
    intro l pl i hm h0 hl hP hx
    have hend : PlOk (l.set i.toNat x) (setM pl x i) ∧ ∀ z, z ∈ l.set i.toNat x ↔ z = x ∨ Oth l i z :=
      ⟨hP.set h0 hl hx, fun z => by have := mem_set (l := l) (i := i.toNat) (by omega) x z; rw [show ((i.toNat : Nat) : Int) = i by omega] at this; exact this⟩
    unfold upM
    cases hp : parentF d i with
    | none => exact hend
    | some p =>
      have hb := parentF_lt hp
      simp only
      split
      · have hy : l[p.toNat]? = some (l.getD p.toNat 0) := by
          rw [List.getD_eq_getElem?_getD, List.getElem?_eq_getElem (by omega)]; rfl
        obtain ⟨m1, m2, m3⟩ := hP.move h0 hl hb.1 (by omega) hy hx
        obtain ⟨r1, r2⟩ := ih (l.set i.toNat (l.getD p.toNat 0)) (setM pl (l.getD p.toNat 0) i) p (by omega) hb.1 (by rw [List.length_set]; omega) m1 m2
        exact ⟨r1, fun z => by rw [r2 z, m3 z]⟩
      · exact hend
theorem bestM_least {lt : Int → Int → Bool} (ho : Strict lt) (l : List Int) (d i : Int) (h : 0 ≤ d * i) : ∀ (m : Nat) (best : Int), (m : Int) ≤ d - 1 → d * i + 1 ≤ best → best < l.length →
    (∀ c : Int, d * i + 1 ≤ c → c ≤ d * i + (d - m) → c < l.length → lt (l.getD c.toNat 0) (l.getD best.toNat 0) = false) →
    ∀ c : Int, d * i + 1 ≤ c → c ≤ d * i + d → c < l.length → lt (l.getD c.toNat 0) (l.getD (bestM lt l d i m best).1.toNat 0) = false := by
  intro m
  induction m with
  | zero => intro best _ _ _ hc c c1 c2 c3; exact hc c c1 (by omega) c3
  | succ m ih =>
    intro best hm h1 h2 hc c c1 c2 c3
    unfold bestM
    split
    · rename_i hlt
      simp only
      split
      · rename_i hl
        refine ih _ (by omega) (by omega) (by omega) (fun e e1 e2 e3 => ?_) c c1 c2 c3
        by_cases he : e = d * i + (d - m)
        · rw [he]; exact ho.irr _
        · have := hc e e1 (by omega) e3
          cases hx : lt (l.getD e.toNat 0) (l.getD (d * i + (d - (m : Int))).toNat 0) with
          | false => rfl
          | true =>
            have := ho.tr _ _ _ hx hl
            simp_all
      · rename_i hl
        refine ih _ (by omega) h1 h2 (fun e e1 e2 e3 => ?_) c c1 c2 c3
        by_cases he : e = d * i + (d - m)
        · rw [he]; simpa using hl
        · exact hc e e1 (by omega) e3
    · rename_i hlt
      refine ih _ (by omega) h1 h2 (fun e e1 e2 e3 => ?_) c c1 c2 c3
      by_cases he : e = d * i + (d - m)
      · omega
      · exact hc e e1 (by omega) e3
theorem down_heap {lt : Int → Int → Bool} (ho : Strict lt) {d : Int} (hf : FineD d) (x : Int) : ∀ (m : Nat) (l : List Int) (pl : Int → Option Int) (i : Int), l.length ≤ i.toNat + m → 0 ≤ i → i < l.length → HeapBut lt d l i.toNat →
    (1 ≤ i → lt x (l.getD (pa d i.toNat) 0) = false) → HeapL lt d (downM lt d x m l pl i).1 := by
  intro m
  induction m with
  | zero => intro l pl i hm h0 hl; omega
  | succ m ih =>
    intro l pl i hm h0 hl hA hD
    have hdd := hf.1
    have hdi : 0 ≤ d * i := Int.mul_nonneg (by omega) h0
    have hit : ((i.toNat : Nat) : Int) = i := by omega
    have hch : ∀ j : Nat, 1 ≤ j → (pa d j = i.toNat ↔ (d * i + 1 ≤ j ∧ (j : Int) ≤ d * i + d)) := fun j hj => by have := pa_iff hf (i := i.toNat) hj; rw [hit] at this; exact this
    unfold downM
    split
    · rename_i hc
      exact hA.set hf (by omega) (fun j h1 h2 h3 => by have := (hch j h1).1 h3; omega) (fun h => hD (by omega))
    · rename_i hc
      have hb := bestM_bound lt l d i hdi (d - 1).toNat (d * i + 1) (by omega) (by omega) (by omega)
      have hb2 : (bestM lt l d i (d - 1).toNat (d * i + 1)).1 ≤ d * i + d := by
        have key : ∀ (m : Nat) (best : Int), (m : Int) ≤ d - 1 → best ≤ d * i + d → (bestM lt l d i m best).1 ≤ d * i + d := by
          intro m
          induction m with
          | zero => intro best _ h; exact h
          | succ m ih =>
            intro best hm h
            unfold bestM
            split
            · simp only; split
              · exact ih _ (by omega) (by omega)
              · exact ih _ (by omega) h
            · exact ih _ (by omega) h
        exact key _ _ (by omega) (by omega)
      have hbl := bestM_least ho l d i hdi (d - 1).toNat (d * i + 1) (by omega) (by omega) (by omega) (fun c c1 c2 c3 => by rw [show c = d * i + 1 by omega]; exact ho.irr _)
      have hlt := below_more hf h0 hb.1
      generalize bestM lt l d i (d - 1).toNat (d * i + 1) = B at *
      obtain ⟨b, q⟩ := B
      simp only at hb hb2 hbl hlt
      have hbp : pa d b.toNat = i.toNat := (hch b.toNat (by omega)).2 ⟨by omega, by omega⟩
      have hil : i.toNat < l.length := by omega
      have hleast : ∀ j, 1 ≤ j → j < l.length → pa d j = i.toNat → lt (l.getD j 0) (l.getD b.toNat 0) = false := fun j h1 h2 h3 => by
        have h4 := (hch j h1).1 h3
        have := hbl j h4.1 h4.2 (by omega)
        simpa using this
      simp only
      by_cases hy : lt (l.getD b.toNat 0) x = true
      · rw [if_pos hy]
        refine ih _ _ b (by rw [List.length_set]; omega) (by omega) (by rw [List.length_set]; omega) ⟨fun j h1 h2 h3 h4 => ?_, fun j h1 h2 h3 h4 => ?_⟩ (fun _ => ?_)
        · rw [List.length_set] at h2
          rw [getD_set _ _ _ _ hil, getD_set _ _ _ _ hil]
          have hpj := pa_lt hf h1
          by_cases e1 : i.toNat = j
          · subst e1
            rw [if_pos rfl, if_neg (by omega)]
            have := hA.2 b.toNat (by omega) (by omega) hbp h1
            exact this
          · rw [if_neg e1]
            by_cases e2 : i.toNat = pa d j
            · rw [if_pos e2]; exact hleast j h1 h2 e2.symm
            · rw [if_neg e2]; exact hA.1 j h1 h2 (Ne.symm e1) (Ne.symm e2)
        · rw [List.length_set] at h2
          rw [hbp, getD_set _ _ _ _ hil, getD_set _ _ _ _ hil, if_pos rfl]
          have hpj := pa_lt hf h1
          rw [if_neg (by omega)]
          have := hA.1 j h1 h2 (by omega) (by omega)
          rw [h3] at this
          exact this
        · rw [hbp, getD_set _ _ _ _ hil, if_pos rfl]
          exact ho.asym hy
      · rw [if_neg hy]
        exact hA.set hf hil (fun j h1 h2 h3 => ho.nt _ _ _ (hleast j h1 h2 h3) (by simpa using hy)) (fun h => hD (by omega))
theorem down_length (lt : Int → Int → Bool) (d x : Int) : ∀ (m : Nat) (l : List Int) (pl : Int → Option Int) (i : Int), (downM lt d x m l pl i).1.length = l.length := by
  intro m
  induction m with
  | zero => intro l pl i; simp [downM]
  | succ m ih =>
    intro l pl i
    unfold downM
    split
    · simp
    · simp only
      split
      · simp [ih]
      · simp
theorem down_places {lt : Int → Int → Bool} {d : Int} (hf : FineD d) (x : Int) : ∀ (m : Nat) (l : List Int) (pl : Int → Option Int) (i : Int), 0 ≤ i → i < l.length → PlH l pl i x → ¬ Oth l i x →
    PlOk (downM lt d x m l pl i).1 (downM lt d x m l pl i).2.1 ∧ ∀ z, z ∈ (downM lt d x m l pl i).1 ↔ z = x ∨ Oth l i z := by
  intro m
  induction m with
  | zero =>
    intro l pl i h0 hl hP hx
    exact ⟨hP.set h0 hl hx, fun z => by have := mem_set (l := l) (i := i.toNat) (by omega) x z; rw [show ((i.toNat : Nat) : Int) = i by omega] at this; exact this⟩
  | succ m ih =>
    intro l pl i h0 hl hP hx
    have hend : PlOk (l.set i.toNat x) (setM pl x i) ∧ ∀ z, z ∈ l.set i.toNat x ↔ z = x ∨ Oth l i z :=
      ⟨hP.set h0 hl hx, fun z => by have := mem_set (l := l) (i := i.toNat) (by omega) x z; rw [show ((i.toNat : Nat) : Int) = i by omega] at this; exact this⟩
    have hdd := hf.1
    have hdi : 0 ≤ d * i := Int.mul_nonneg (by omega) h0
    unfold downM
    split
    · exact hend
    · have hb := bestM_bound lt l d i hdi (d - 1).toNat (d * i + 1) (by omega) (by omega) (by omega)
      have hlt := below_more hf h0 hb.1
      simp only
      split
      · have hy : l[(bestM lt l d i (d - 1).toNat (d * i + 1)).1.toNat]? = some (l.getD (bestM lt l d i (d - 1).toNat (d * i + 1)).1.toNat 0) := by
          rw [List.getD_eq_getElem?_getD, List.getElem?_eq_getElem (by omega)]; rfl
        obtain ⟨m1, m2, m3⟩ := hP.move h0 hl (by omega) (by omega) hy hx
        obtain ⟨r1, r2⟩ := ih _ _ _ (by omega) (by rw [List.length_set]; omega) m1 m2
        exact ⟨r1, fun z => by rw [r2 z, m3 z]⟩
      · exact hend
def upN (d i : Int) : Nat := upF d i.toNat i
theorem upN_child {d i p : Int} (h : parentF d i = some p) : upN d i = upN d p + 1 := upF_some h _ (Nat.le_refl _)
theorem upN_mono {d : Int} (hf : FineD d) : ∀ (m : Nat) (i j : Int), j.toNat ≤ m → i ≤ j → upN d i ≤ upN d j := by
  intro m
  induction m with
  | zero =>
    intro i j hm hij
    have : upN d i = 0 := by unfold upN; rw [show i.toNat = 0 by omega]; rfl
    omega
  | succ m ih =>
    intro i j hm hij
    by_cases hi : 1 ≤ i
    · have hdd := hf.1
      have hp : parentF d i = some ((i - 1) / d) := by unfold parentF; rw [if_pos ⟨hf, hi⟩]
      have hq : parentF d j = some ((j - 1) / d) := by unfold parentF; rw [if_pos ⟨hf, by omega⟩]
      have hb := parentF_lt hq
      rw [upN_child hp, upN_child hq]
      have := ih ((i - 1) / d) ((j - 1) / d) (by omega) (Int.ediv_le_ediv (by omega) (by omega))
      omega
    · have : upN d i = 0 := by
        unfold upN
        have hn : parentF d i = none := by unfold parentF; rw [if_neg (by omega)]
        cases i.toNat <;> simp [upF, hn]
      omega
theorem bestM_asked (lt : Int → Int → Bool) (l : List Int) (d i : Int) : ∀ (m : Nat) (best : Int), (bestM lt l d i m best).2 ≤ m := by
  intro m
  induction m with
  | zero => intro best; simp [bestM]
  | succ m ih =>
    intro best
    unfold bestM
    split
    · simp only
      have := ih (if lt (l.getD (d * i + (d - m)).toNat 0) (l.getD best.toNat 0) = true then d * i + (d - m) else best)
      omega
    · have := ih best; omega
theorem down_asked {lt : Int → Int → Bool} {d : Int} (hf : FineD d) (x : Int) : ∀ (m : Nat) (l : List Int) (pl : Int → Option Int) (i : Int), l.length ≤ i.toNat + m → 0 ≤ i → i < l.length →
    ((downM lt d x m l pl i).2.2 : Int) + d * (upN d i : Nat) ≤ d * (upN d ((l.length : Int) - 1) : Nat) := by
  intro m
  induction m with
  | zero => intro l pl i hm h0 hl; omega
  | succ m ih =>
    intro l pl i hm h0 hl
    have hdd := hf.1
    have hdi : 0 ≤ d * i := Int.mul_nonneg (by omega) h0
    have hmono : ∀ k, k ≤ (l.length : Int) - 1 → d * (upN d k : Nat) ≤ d * (upN d ((l.length : Int) - 1) : Nat) := fun k hk =>
      Int.mul_le_mul_of_nonneg_left (by have := upN_mono hf ((l.length : Int) - 1).toNat k ((l.length : Int) - 1) (Nat.le_refl _) hk; omega) (by omega)
    unfold downM
    split
    · have := hmono i (by omega); simp only; omega
    · have hb := bestM_bound lt l d i hdi (d - 1).toNat (d * i + 1) (by omega) (by omega) (by omega)
      have hlt := below_more hf h0 hb.1
      have hask := bestM_asked lt l d i (d - 1).toNat (d * i + 1)
      have hb2 : (bestM lt l d i (d - 1).toNat (d * i + 1)).1 ≤ d * i + d := by
        have key : ∀ (m : Nat) (best : Int), (m : Int) ≤ d - 1 → best ≤ d * i + d → (bestM lt l d i m best).1 ≤ d * i + d := by
          intro m
          induction m with
          | zero => intro best _ h; exact h
          | succ m ih =>
            intro best hm h
            unfold bestM
            split
            · simp only; split
              · exact ih _ (by omega) (by omega)
              · exact ih _ (by omega) h
            · exact ih _ (by omega) h
        exact key _ _ (by omega) (by omega)
      generalize bestM lt l d i (d - 1).toNat (d * i + 1) = B at *
      have hpb : parentF d B.1 = some i := by
        unfold parentF
        rw [if_pos ⟨hf, by omega⟩]
        have := parent_of_child (d := d) (i := i) (j := B.1 - d * i) hdd h0 (by omega) (by omega)
        rw [show d * i + (B.1 - d * i) - 1 = B.1 - 1 by omega] at this
        rw [this]
      have hup := upN_child hpb
      have hmul : d * ((upN d i + 1 : Nat) : Int) = d * (upN d i : Nat) + d := by rw [Int.natCast_add, Int.mul_add]; simp
      simp only
      split
      · have := ih (l.set i.toNat (l.getD B.1.toNat 0)) (setM pl (l.getD B.1.toNat 0) i) B.1 (by rw [List.length_set]; omega) (by omega) (by rw [List.length_set]; omega)
        rw [List.length_set, hup, hmul] at this
        simp only
        omega
      · have := hmono B.1 (by omega)
        rw [hup, hmul] at this
        simp only
        omega
def removeM (lt : Int → Int → Bool) (d x : Int) (l : List Int) (pl : Int → Option Int) (i : Int) : List Int × (Int → Option Int) × Nat :=
  if l.getD (l.length - 1) 0 = x then (l.dropLast, delM pl x, 0)
  else
    let U := upM lt d (l.getD (l.length - 1) 0) i.toNat l.dropLast (delM pl x) i
    if U.at_ = i then
      let D := downM lt d (l.getD (l.length - 1) 0) U.l.length U.l U.pl i
      (D.1, D.2.1, U.asked + D.2.2)
    else (U.l, U.pl, U.asked)
theorem getD_dropLast (l : List Int) (j : Nat) (h : j < l.length - 1) : l.dropLast.getD j 0 = l.getD j 0 := by
  rw [List.getD_eq_getElem?_getD, List.getD_eq_getElem?_getD, List.getElem?_dropLast, if_pos h]
theorem remove_spec {lt : Int → Int → Bool} (ho : Strict lt) {d : Int} (hf : FineD d) {x i : Int} {l : List Int} {pl : Int → Option Int} (hh : HeapL lt d l) (hp : PlOk l pl) (hi : pl x = some i) :
    HeapL lt d (removeM lt d x l pl i).1 ∧ PlOk (removeM lt d x l pl i).1 (removeM lt d x l pl i).2.1 ∧ (removeM lt d x l pl i).1.length = l.length - 1 ∧
      (∀ z, z ∈ (removeM lt d x l pl i).1 ↔ z ∈ l ∧ z ≠ x) ∧ ((removeM lt d x l pl i).2.2 : Int) ≤ d * (upN d ((l.length : Int) - 1) : Nat) + 1 := by
  obtain ⟨h0, hx⟩ := (hp x i).1 hi
  have hil : i.toNat < l.length := (List.getElem?_eq_some_iff.1 hx).1
  have hdd := hf.1
  have hlast : l[l.length - 1]? = some (l.getD (l.length - 1) 0) := by
    rw [List.getD_eq_getElem?_getD, List.getElem?_eq_getElem (by omega)]; rfl
  have hdrop : ∀ k, k < l.length - 1 → l.dropLast[k]? = l[k]? := fun k hk => by rw [List.getElem?_dropLast, if_pos hk]
  have hheap : HeapL lt d l.dropLast := by
    intro j h1 h2
    rw [List.length_dropLast] at h2
    have := pa_lt hf h1
    rw [getD_dropLast _ _ h2, getD_dropLast _ _ (by omega)]
    exact hh j h1 (by omega)
  unfold removeM
  split
  · rename_i he
    have hi2 : i.toNat = l.length - 1 := hp.uniq hx (by rw [hlast, he])
    refine ⟨hheap, fun z k => ?_, by simp, fun z => ?_, ?_⟩
    · show delM pl x z = some k ↔ (0 ≤ k ∧ l.dropLast[k.toNat]? = some z)
      unfold delM
      by_cases hz : z = x
      · subst hz
        simp only [if_true]
        constructor
        · intro h; cases h
        · rintro ⟨a, b⟩
          have hk : k.toNat < l.length - 1 := by have := (List.getElem?_eq_some_iff.1 b).1; rwa [List.length_dropLast] at this
          rw [hdrop _ hk] at b
          have := hp.uniq b hx
          omega
      · rw [if_neg hz, hp z k]
        constructor
        · rintro ⟨a, b⟩
          have hk : k.toNat < l.length := (List.getElem?_eq_some_iff.1 b).1
          have hk2 : k.toNat ≠ l.length - 1 := fun e => by rw [e, hlast, he] at b; injection b with b; exact hz b.symm
          exact ⟨a, by rw [hdrop _ (by omega)]; exact b⟩
        · rintro ⟨a, b⟩
          have hk : k.toNat < l.length - 1 := by have := (List.getElem?_eq_some_iff.1 b).1; rwa [List.length_dropLast] at this
          exact ⟨a, by rw [hdrop _ hk] at b; exact b⟩
    · constructor
      · intro h
        obtain ⟨k, hk⟩ := List.getElem?_of_mem h
        have hk1 : k < l.length - 1 := by have := (List.getElem?_eq_some_iff.1 hk).1; rwa [List.length_dropLast] at this
        rw [hdrop _ hk1] at hk
        refine ⟨List.mem_of_getElem? hk, fun e => ?_⟩
        subst e
        have := hp.uniq hk hx
        omega
      · rintro ⟨h, hz⟩
        obtain ⟨k, hk⟩ := List.getElem?_of_mem h
        have hk1 : k < l.length := (List.getElem?_eq_some_iff.1 hk).1
        have hk2 : k ≠ l.length - 1 := fun e => by rw [e, hlast, he] at hk; injection hk with hk; exact hz hk.symm
        exact List.mem_of_getElem? (i := k) (by rw [hdrop _ (by omega)]; exact hk)
    · have : 0 ≤ d * (upN d ((l.length : Int) - 1) : Nat) := Int.mul_nonneg (by omega) (by omega)
      simp only
      omega
  · rename_i hne
    generalize hy : l.getD (l.length - 1) 0 = y at *
    have hi2 : i.toNat < l.length - 1 := by
      rcases Nat.lt_or_ge i.toNat (l.length - 1) with h | h
      · exact h
      · exfalso
        rw [show i.toNat = l.length - 1 by omega, hlast] at hx
        injection hx with hx
        exact hne hx
    have hP : PlH l.dropLast (delM pl x) i y := by
      intro z hz k
      unfold delM
      by_cases e : z = x
      · subst e
        simp only [if_true]
        constructor
        · intro h; cases h
        · rintro ⟨a, b, c⟩
          have hk : k.toNat < l.length - 1 := by have := (List.getElem?_eq_some_iff.1 c).1; rwa [List.length_dropLast] at this
          rw [hdrop _ hk] at c
          have := hp.uniq c hx
          omega
      · rw [if_neg e, hp z k]
        constructor
        · rintro ⟨a, b⟩
          have hk : k.toNat < l.length := (List.getElem?_eq_some_iff.1 b).1
          have hk2 : k.toNat ≠ l.length - 1 := fun e2 => by rw [e2, hlast] at b; injection b with b; exact hz b.symm
          exact ⟨a, fun e2 => by rw [e2, hx] at b; injection b with b; exact e b.symm, by rw [hdrop _ (by omega)]; exact b⟩
        · rintro ⟨a, _, b⟩
          have hk : k.toNat < l.length - 1 := by have := (List.getElem?_eq_some_iff.1 b).1; rwa [List.length_dropLast] at this
          exact ⟨a, by rw [hdrop _ hk] at b; exact b⟩
    have hO : ¬ Oth l.dropLast i y := by
      rintro ⟨k, k1, k2⟩
      have hk : k < l.length - 1 := by have := (List.getElem?_eq_some_iff.1 k2).1; rwa [List.length_dropLast] at this
      rw [hdrop _ hk] at k2
      have := hp.uniq k2 hlast
      omega
    have hmem : ∀ z, (z = y ∨ Oth l.dropLast i z) ↔ (z ∈ l ∧ z ≠ x) := by
      intro z
      constructor
      · rintro (rfl | ⟨k, k1, k2⟩)
        · exact ⟨List.mem_of_getElem? hlast, hne⟩
        · have hk : k < l.length - 1 := by have := (List.getElem?_eq_some_iff.1 k2).1; rwa [List.length_dropLast] at this
          rw [hdrop _ hk] at k2
          refine ⟨List.mem_of_getElem? k2, fun e => ?_⟩
          subst e
          have := hp.uniq k2 hx
          omega
      · rintro ⟨h, hz⟩
        obtain ⟨k, hk⟩ := List.getElem?_of_mem h
        have hk1 : k < l.length := (List.getElem?_eq_some_iff.1 hk).1
        by_cases e : k = l.length - 1
        · rw [e, hlast] at hk; injection hk with hk; exact .inl hk.symm
        · exact .inr ⟨k, fun e2 => hz (by rw [show k = i.toNat by omega, hx] at hk; injection hk with hk; exact hk.symm), by rw [hdrop _ (by omega)]; exact hk⟩
    have hlen : (i : Int) < l.dropLast.length := by rw [List.length_dropLast]; omega
    have hbut := hheap.but ho hf i.toNat
    have hup := up_places (lt := lt) (d := d) y i.toNat l.dropLast (delM pl x) i (Nat.le_refl _) h0 hlen hP hO
    have hmono : d * (upN d ((l.length : Int) - 1 - 1) : Nat) ≤ d * (upN d ((l.length : Int) - 1) : Nat) :=
      Int.mul_le_mul_of_nonneg_left (by have := upN_mono hf ((l.length : Int) - 1).toNat ((l.length : Int) - 1 - 1) ((l.length : Int) - 1) (Nat.le_refl _) (by omega); omega) (by omega)
    rcases up_stays hf (lt := lt) y l.dropLast (delM pl x) i h0 with ⟨s1, s2, s3, s4, s5⟩ | ⟨s1, s2, s3⟩
    · simp only
      rw [if_pos s1, s2, s3, List.length_set]
      simp only
      have hil2 : i.toNat < l.dropLast.length := by rw [List.length_dropLast]; omega
      have hset : ∀ j, j ≠ i.toNat → (l.dropLast.set i.toNat y).getD j 0 = l.dropLast.getD j 0 := fun j hj => by rw [getD_set _ _ _ _ hil2, if_neg (Ne.symm hj)]
      have hP2 : PlH (l.dropLast.set i.toNat y) (setM (delM pl x) y i) i y := by
        intro z hz k
        unfold setM
        rw [if_neg hz, hP z hz k]
        constructor
        · rintro ⟨a, b, c⟩; exact ⟨a, b, by rw [List.getElem?_set_ne (by omega)]; exact c⟩
        · rintro ⟨a, b, c⟩; exact ⟨a, b, by rw [List.getElem?_set_ne (by omega)] at c; exact c⟩
      have hoth : ∀ z, Oth (l.dropLast.set i.toNat y) i z ↔ Oth l.dropLast i z := by
        intro z
        constructor
        · rintro ⟨k, k1, k2⟩; exact ⟨k, k1, by rw [List.getElem?_set_ne (by omega)] at k2; exact k2⟩
        · rintro ⟨k, k1, k2⟩; exact ⟨k, k1, by rw [List.getElem?_set_ne (by omega)]; exact k2⟩
      have hl2 : (i : Int) < (l.dropLast.set i.toNat y).length := by rw [List.length_set]; exact hlen
      obtain ⟨d1, d2⟩ := down_places (lt := lt) hf y l.dropLast.length (l.dropLast.set i.toNat y) (setM (delM pl x) y i) i h0 hl2 hP2 (fun hc => hO ((hoth y).1 hc))
      refine ⟨?_, d1, by rw [down_length, List.length_set, List.length_dropLast], fun z => by rw [d2 z, hoth z]; exact hmem z, ?_⟩
      · refine down_heap ho hf y _ _ _ i (by rw [List.length_set]; omega) h0 hl2 ⟨fun j h1 h2 h3 h4 => ?_, fun j h1 h2 h3 h4 => ?_⟩ (fun h => ?_)
        · rw [hset j h3, hset _ h4]; exact hbut.1 j h1 (by simpa using h2) h3 h4
        · have := pa_lt hf h1
          have := pa_lt hf h4
          rw [hset j (by omega), hset _ (by omega)]
          exact hbut.2 j h1 (by simpa using h2) h3 h4
        · have := pa_lt hf (j := i.toNat) (by omega)
          rw [hset _ (by omega)]
          exact s5 h
      · have := down_asked (lt := lt) hf y l.dropLast.length (l.dropLast.set i.toNat y) (setM (delM pl x) y i) i (by rw [List.length_set]; omega) h0 hl2
        have hdl : l.dropLast.length = l.length - 1 := List.length_dropLast
        rw [List.length_set, show ((l.dropLast.length : Nat) : Int) - 1 = (l.length : Int) - 1 - 1 by omega] at this
        have h5 : 0 ≤ d * (upN d i : Nat) := Int.mul_nonneg (by omega) (by omega)
        omega
    · simp only
      rw [if_neg (by omega)]
      have hi1 := pa_lt hf (j := i.toNat) (by omega)
      refine ⟨up_heap ho hf y _ _ _ i (Nat.le_refl _) h0 hlen hbut (fun j h1 h2 h3 => ?_), hup.1, by rw [up_length, List.length_dropLast], fun z => by rw [hup.2 z]; exact hmem z, ?_⟩
      · have e1 := hbut.2 j h1 h2 h3 (by omega)
        cases hxx : lt (l.dropLast.getD j 0) y with
        | false => rfl
        | true => have := ho.tr _ _ _ hxx s3; rw [this] at e1; cases e1
      · have e1 := up_asked lt d y i.toNat l.dropLast (delM pl x) i
        have e2 := upN_mono hf ((l.length : Int) - 1).toNat i ((l.length : Int) - 1) (Nat.le_refl _) (by omega)
        unfold upN at e2 ⊢
        have e3 : (1 : Int) * (upF d ((l.length : Int) - 1).toNat ((l.length : Int) - 1) : Nat) ≤ d * (upF d ((l.length : Int) - 1).toNat ((l.length : Int) - 1) : Nat) :=
          Int.mul_le_mul_of_nonneg_right (by omega) (by omega)
        dsimp only
        omega
theorem heap_first {lt : Int → Int → Bool} (ho : Strict lt) {d : Int} (hf : FineD d) {l : List Int} (hh : HeapL lt d l) : ∀ (m j : Nat), j ≤ m → j < l.length → lt (l.getD j 0) (l.getD 0 0) = false := by
  intro m
  induction m with
  | zero => intro j hj _; rw [show j = 0 by omega]; exact ho.irr _
  | succ m ih =>
    intro j hj hl
    by_cases h : 1 ≤ j
    · have := pa_lt hf h
      exact ho.nt _ _ _ (hh j h hl) (ih (pa d j) (by omega) (by omega))
    · rw [show j = 0 by omega]; exact ho.irr _
def Nw.key (w : Nw) (a : Int) : Int := (w.cs.getD a.toNat (0, 0, 0)).2.1
def Nw.seq (w : Nw) (a : Int) : Int := (w.cs.getD a.toNat (0, 0, 0)).2.2
def ltW (w : Nw) (a b : Int) : Bool := decide (w.key a < w.key b ∨ w.key a = w.key b ∧ (w.seq a < w.seq b ∨ w.seq a = w.seq b ∧ a < b))
theorem ltW_strict (w : Nw) : Strict (ltW w) := by
  refine ⟨fun a => ?_, fun a b c h1 h2 => ?_, fun a b c h1 h2 => ?_, fun a b h => ?_⟩
  · exact decide_eq_false (by omega)
  · simp only [ltW, decide_eq_true_eq] at *; omega
  · simp only [ltW, decide_eq_false_iff_not] at *; omega
  · simp only [ltW, decide_eq_true_eq]; omega
theorem ltW_ahead {w : Nw} {a b : Int} (ha : InC w.cs a) (hb : InC w.cs b) : w.ahead a b = ltW w a b := by
  obtain ⟨a0, x, hx, _⟩ := id ha
  obtain ⟨b0, y, hy, _⟩ := id hb
  have k1 : w.key a = x.2.1 := by unfold Nw.key; rw [List.getD_eq_getElem?_getD, hx]; rfl
  have k2 : w.key b = y.2.1 := by unfold Nw.key; rw [List.getD_eq_getElem?_getD, hy]; rfl
  have k3 : w.seq a = x.2.2 := by unfold Nw.seq; rw [List.getD_eq_getElem?_getD, hx]; rfl
  have k4 : w.seq b = y.2.2 := by unfold Nw.seq; rw [List.getD_eq_getElem?_getD, hy]; rfl
  unfold Nw.ahead ltW
  rw [decide_eq_true ha, decide_eq_true hb, hx, hy, k1, k2, k3, k4]
  simp only [Bool.true_and]
  refine decide_eq_decide.2 ?_
  rw [aheadC_iff, lessE]
  omega
theorem ltW_put (w : Nw) (x : Int) (c : Ce) {a b : Int} (ha : a.toNat ≠ x.toNat) (hb : b.toNat ≠ x.toNat) : ltW (w.put x c) a b = ltW w a b := by
  have key : ∀ z : Int, z.toNat ≠ x.toNat → (w.put x c).key z = w.key z ∧ (w.put x c).seq z = w.seq z := fun z hz => by
    unfold Nw.key Nw.seq Nw.put
    simp only [List.getD_eq_getElem?_getD]
    rw [List.getElem?_set_ne (Ne.symm hz)]
    exact ⟨rfl, rfl⟩
  unfold ltW
  rw [(key a ha).1, (key a ha).2, (key b hb).1, (key b hb).2]
def Nw.first (w : Nw) (g x : Int) : Prop := 0 < g ∧ 0 ≤ x ∧ (∃ e, w.cs[x.toNat]? = some (g, e)) ∧ ∀ y, 0 ≤ y → (∃ e, w.cs[y.toNat]? = some (g, e)) → y ≠ x → ltW w x y = true
theorem Nw.len0 {w : Nw} {g : Int} : w.len g = 0 ↔ (g ≤ 0 ∨ ∀ (i : Nat) (c : Ce), w.cs[i]? = some c → c.1 ≠ g) := by
  unfold Nw.len
  by_cases hg : 0 < g
  · rw [if_pos hg]
    constructor
    · intro h
      refine .inr fun i c hc e => ?_
      have h1 : w.cs.countP (fun c => decide (c.1 = g)) = 0 := by omega
      exact (List.countP_eq_zero.1 h1) c (List.mem_of_getElem? hc) (decide_eq_true e)
    · rintro (h | h)
      · omega
      · rw [List.countP_eq_zero.2 (fun c hc => by
          obtain ⟨i, hi⟩ := List.getElem?_of_mem hc
          simpa using h i c hi)]
        rfl
  · rw [if_neg hg]
    exact ⟨fun _ => .inl (by omega), fun _ => rfl⟩
def hmW (w : Nw) (x : Int) : Int := if 0 ≤ x then (w.cs.getD x.toNat (0, 0, 0)).1 else 0
theorem hmW_at {w : Nw} {x : Int} {y : Ce} (h0 : 0 ≤ x) (h : w.cs[x.toNat]? = some y) : hmW w x = y.1 := by
  unfold hmW
  rw [if_pos h0, List.getD_eq_getElem?_getD, h]
  rfl
theorem hmW_get {w : Nw} {x : Int} (h : 0 < hmW w x) : 0 ≤ x ∧ x < w.cs.length ∧ ∃ e, w.cs[x.toNat]? = some (hmW w x, e) := by
  unfold hmW at h ⊢
  split at h
  · rename_i h0
    rw [if_pos h0]
    rw [List.getD_eq_getElem?_getD] at h ⊢
    cases hc : w.cs[x.toNat]? with
    | none => rw [hc] at h; simp at h
    | some y =>
      have := (List.getElem?_eq_some_iff.1 hc).1
      exact ⟨h0, by omega, y.2, rfl⟩
  · omega
theorem hmW_inC {w : Nw} {x : Int} : 0 < hmW w x ↔ InC w.cs x := by
  constructor
  · intro h
    obtain ⟨h0, _, e, he⟩ := hmW_get h
    exact ⟨h0, _, he, h⟩
  · rintro ⟨h0, y, hy, hp⟩
    rw [hmW_at h0 hy]
    exact hp
theorem hmW_first {w : Nw} {g x : Int} : w.first g x ↔ (0 < g ∧ hmW w x = g ∧ ∀ y, hmW w y = g → y ≠ x → ltW w x y = true) := by
  constructor
  · rintro ⟨h1, h2, ⟨e, he⟩, h4⟩
    refine ⟨h1, hmW_at h2 he, fun y hy hne => ?_⟩
    obtain ⟨y0, _, e', he'⟩ := hmW_get (w := w) (x := y) (by omega)
    rw [hy] at he'
    exact h4 y y0 ⟨e', he'⟩ hne
  · rintro ⟨h1, h2, h3⟩
    obtain ⟨x0, _, e, he⟩ := hmW_get (w := w) (x := x) (by omega)
    rw [h2] at he
    exact ⟨h1, x0, ⟨e, he⟩, fun y y0 ⟨e', he'⟩ hne => h3 y (hmW_at y0 he') hne⟩
theorem hmW_len0 {w : Nw} {g : Int} (hg : 0 < g) : w.len g = 0 ↔ ∀ x, hmW w x ≠ g := by
  rw [Nw.len0]
  constructor
  · rintro (h | h) x hx
    · omega
    · obtain ⟨_, _, e, he⟩ := hmW_get (w := w) (x := x) (by omega)
      exact h _ _ he hx
  · intro h
    refine .inr fun i c hc e => h (i : Int) ?_
    rw [hmW_at (y := c) (by omega) (by simpa using hc)]
    exact e
theorem hmW_put {w : Nw} {i : Int} (hi : 0 ≤ i ∧ i < w.cs.length) (c : Ce) (x : Int) : hmW (w.put i c) x = if x = i then c.1 else hmW w x := by
  unfold hmW Nw.put
  simp only
  by_cases hx : x = i
  · subst hx
    rw [if_pos hi.1, if_pos rfl, List.getD_eq_getElem?_getD, List.getElem?_set_self (by omega)]
    rfl
  · rw [if_neg hx]
    split
    · rw [List.getD_eq_getElem?_getD, List.getElem?_set_ne (by omega), List.getD_eq_getElem?_getD]
    · rfl
theorem least_of {lt : Int → Int → Bool} (hs : Strict lt) {P : Int → Prop} {n : Nat} (hP : ∀ x, P x → 0 ≤ x ∧ x < n) {x : Int} (hx : P x) : ∃ m, P m ∧ ∀ y, P y → y ≠ m → lt m y = true := by
  have key : ∀ k : Nat, ∀ x, P x → ((List.range n).countP fun (i : Nat) => lt i x) ≤ k → ∃ m, P m ∧ ∀ y, P y → y ≠ m → lt m y = true := by
    intro k
    induction k with
    | zero =>
      intro x hx hk
      refine ⟨x, hx, fun y hy hne => ?_⟩
      rcases hs.tot x y (Ne.symm hne) with h | h
      · exact h
      · have hy2 := hP y hy
        have := (List.countP_eq_zero.1 (Nat.le_zero.1 hk)) y.toNat (List.mem_range.2 (by omega))
        rw [show ((y.toNat : Nat) : Int) = y by omega] at this
        exact absurd h this
    | succ k ih =>
      intro x hx hk
      by_cases hz : ∃ y, P y ∧ lt y x = true
      · obtain ⟨y, hy, hl⟩ := hz
        refine ih y hy ?_
        have hy2 := hP y hy
        have h9 : (List.range n).countP (fun (i : Nat) => lt i y) < (List.range n).countP fun (i : Nat) => lt i x := by
          refine countP_lt_of (fun i hi => hs.tr _ _ _ hi hl) (x := y.toNat) (List.mem_range.2 (by omega)) ?_ ?_
          · rw [show ((y.toNat : Nat) : Int) = y by omega]; exact hs.irr _
          · rw [show ((y.toNat : Nat) : Int) = y by omega]; exact hl
        omega
      · refine ⟨x, hx, fun y hy hne => ?_⟩
        rcases hs.tot x y (Ne.symm hne) with h | h
        · exact h
        · exact absurd ⟨y, hy, h⟩ hz
  exact key _ x hx (Nat.le_refl _)
theorem first_of {w : Nw} {g : Int} (hg : 0 < g) (h : w.len g ≠ 0) : ∃ x, w.first g x := by
  have h1 : ¬ ∀ x, hmW w x ≠ g := fun hn => h ((hmW_len0 hg).2 hn)
  obtain ⟨x, hx⟩ := Classical.not_forall.1 h1
  have hx := Classical.not_not.1 hx
  obtain ⟨m, hm, hl⟩ := least_of (ltW_strict w) (P := fun x => hmW w x = g) (n := w.cs.length) (fun x hx => by obtain ⟨a, b, _⟩ := hmW_get (w := w) (x := x) (by omega); omega) hx
  exact ⟨m, hmW_first.2 ⟨hg, hm, hl⟩⟩
theorem ltW_put' {w : Nw} {i : Int} (hi : 0 ≤ i ∧ i < w.cs.length) (c : Ce) {a b : Int} (ha : 0 < hmW w a) (hb : 0 < hmW w b) (hai : a ≠ i) (hbi : b ≠ i) : ltW (w.put i c) a b = ltW w a b := by
  obtain ⟨a0, _⟩ := hmW_get ha
  obtain ⟨b0, _⟩ := hmW_get hb
  exact ltW_put w i c (by omega) (by omega)
theorem ltW_low {w : Nw} {i k s : Int} (hin : InC w.cs i) {y : Ce} (hy : w.cs[i.toNat]? = some y) (hl : ¬ lessE y.2.1 y.2.2 k s) {b : Int} (hb : 0 < hmW w b) (hbi : b ≠ i) (h : ltW w i b = true) : ltW (w.put i (y.1, k, s)) i b = true := by
  obtain ⟨b0, _⟩ := hmW_get hb
  have hi0 := hin.1
  have hil := (List.getElem?_eq_some_iff.1 hy).1
  have k1 : (w.put i (y.1, k, s)).key i = k ∧ (w.put i (y.1, k, s)).seq i = s := by
    unfold Nw.key Nw.seq Nw.put
    simp only [List.getD_eq_getElem?_getD]
    rw [List.getElem?_set_self hil]
    exact ⟨rfl, rfl⟩
  have k2 : w.key i = y.2.1 ∧ w.seq i = y.2.2 := by
    unfold Nw.key Nw.seq
    simp only [List.getD_eq_getElem?_getD, hy]
    exact ⟨rfl, rfl⟩
  have k3 : (w.put i (y.1, k, s)).key b = w.key b ∧ (w.put i (y.1, k, s)).seq b = w.seq b := by
    unfold Nw.key Nw.seq Nw.put
    simp only [List.getD_eq_getElem?_getD]
    rw [List.getElem?_set_ne (by omega)]
    exact ⟨rfl, rfl⟩
  unfold ltW at h ⊢
  rw [k2.1, k2.2] at h
  rw [k1.1, k1.2, k3.1, k3.2]
  unfold lessE at hl
  simp only [decide_eq_true_eq] at h ⊢
  omega
def CQ (H : Hp) (c : Nat) (C : Nat → Prop) (w : Nw) : Prop := ∃ st, CellsN H c C st w
section
variable {H H' : Hp} {c : Nat} {C T : Nat → Prop} {w : Nw}
theorem CQ.ext (h : CQ H c C w) (e : Ext T H H') (hd : ∀ x, C x → ¬ T x) : CQ H' c C w := by obtain ⟨st, h⟩ := h; exact ⟨st, h.ext e hd⟩
theorem CQ.fresh (h : CQ H c C w) (e : Fresh H H') : CQ H' c C w := h.ext e fun _ _ h => h
theorem CQ.slt (h : CQ H c C w) : ∀ x, C x → x < H.size := by obtain ⟨st, h⟩ := h; exact h.slt
theorem CQ.csl (h : CQ H c C w) : w.cs.length ≤ 65536 := by obtain ⟨st, h⟩ := h; exact h.csl
theorem CQ.hsl (h : CQ H c C w) : w.hs.length ≤ 65537 := by obtain ⟨st, h⟩ := h; exact h.hsl
theorem CQ.home (h : CQ H c C w) : ∀ x ∈ w.cs, 0 ≤ x.1 ∧ x.1 < w.hs.length := by obtain ⟨st, h⟩ := h; exact h.home
theorem CQ.live (h : CQ H c C w) : ∀ x ∈ w.cs, 0 < x.1 → w.hs[x.1.toNat]? = some true := by obtain ⟨st, h⟩ := h; exact h.live
theorem CQ.hm (h : CQ H c C w) (x : Int) : 0 ≤ hmW w x ∧ (0 < hmW w x → w.has (hmW w x) ∧ hmW w x < w.hs.length) := by
  by_cases h0 : 0 < hmW w x
  · obtain ⟨h1, h2, e, he⟩ := hmW_get h0
    have hm := List.mem_of_getElem? he
    have := h.home _ hm
    have hl := h.live _ hm h0
    exact ⟨by omega, fun _ => ⟨⟨by omega, hl⟩, this.2⟩⟩
  · refine ⟨?_, fun h => absurd h h0⟩
    unfold hmW
    split
    · rw [List.getD_eq_getElem?_getD]
      cases hc : w.cs[x.toNat]? with
      | none => exact Int.le_refl _
      | some y => exact (h.home y (List.mem_of_getElem? hc)).1
    · exact Int.le_refl _
theorem CQ.pos (h : CQ H c C w) : 0 < w.hs.length := by
  obtain ⟨st, cs, len, rt, many, h1, h2⟩ := h
  exact (List.getElem?_eq_some_iff.1 h2.h0).1
theorem cq_Ahead_spec (h : CQ H c C w) (a b : Int) : CallH Tryz.prog n_cells_Cells_Ahead [ptr c, i64 a, i64 b] H fun v H' => Post (v = .bool (w.ahead a b) ∧ CQ H' c C w ∧ Ext C H H') := by
  obtain ⟨st, h⟩ := h
  refine (cellsN_Ahead_spec h a b).mono ?_
  rintro v H' ⟨h1, h2, h3⟩
  exact ⟨h1, ⟨_, h2⟩, h3⟩
theorem cq_Len_spec (h : CQ H c C w) (i : Int) : CallH Tryz.prog n_cells_Cells_Len [ptr c, i64 i] H fun v H' => Post (v = i64 (w.len i) ∧ H = H') := by
  obtain ⟨st, h⟩ := h
  exact cellsN_Len_spec h i
theorem cq_Has_spec (h : CQ H c C w) (i : Int) : CallH Tryz.prog n_cells_Cells_Has [ptr c, i64 i] H fun v H' => Post (v = .bool (decide (w.has i)) ∧ H = H') := by
  obtain ⟨st, h⟩ := h
  exact cellsN_Has_spec h i
theorem cq_Make_spec (h : CQ H c C w) : CallH Tryz.prog n_cells_Cells_Make [ptr c] H fun v H' => Post (
    (w.hs.length = 65537 ∧ v = i64 0 ∧ H = H') ∨ (w.hs.length ≠ 65537 ∧ v = i64 w.hs.length ∧ ∃ C', CQ H' c C' w.make ∧ Ext C H H' ∧ ∀ x, C' x → C x ∨ H.size ≤ x)) := by
  obtain ⟨st, h⟩ := h
  refine (cellsN_Make_spec h).mono ?_
  rintro v H' (h1 | ⟨h1, h2, S', h3, h4⟩)
  · exact .inl h1
  · exact .inr ⟨h1, h2, S', ⟨_, h3⟩, h4⟩
theorem cq_Put_spec (h : CQ H c C w) (g i k s : Int) : CallH Tryz.prog n_cells_Cells_Put [ptr c, i64 g, i64 i, ent k s] H fun v H' => Post (
    (¬ (w.has g ∧ (0 ≤ i ∧ i < w.cs.length) ∧ ¬ InC w.cs i) ∧ v = .bool false ∧ CQ H' c C w ∧ Ext C H H') ∨
    ((w.has g ∧ (0 ≤ i ∧ i < w.cs.length) ∧ ¬ InC w.cs i) ∧ v = .bool true ∧ CQ H' c C (w.put i (g, k, s)) ∧ Ext C H H')) := by
  obtain ⟨st, h⟩ := h
  refine (cellsN_Put_spec h g i k s).mono ?_
  rintro v H' (⟨h1, h2, h3, h4⟩ | ⟨h1, h2, h3, h4⟩)
  · exact .inl ⟨h1, h2, ⟨_, h3⟩, h4⟩
  · exact .inr ⟨h1, h2, ⟨_, h3⟩, h4⟩
theorem cq_Home_spec (h : CQ H c C w) (i : Int) : CallH Tryz.prog n_cells_Cells_Home [ptr c, i64 i] H fun v H' => Post (
    (¬ InC w.cs i ∧ v = .tuple [i64 0, .bool false].toArray ∧ H = H') ∨ (InC w.cs i ∧ v = .tuple [i64 (hmW w i), .bool true].toArray ∧ CQ H' c C w ∧ Ext C H H')) := by
  obtain ⟨st, h⟩ := h
  refine (cellsN_Home_spec h i).mono ?_
  rintro v H' (h1 | ⟨h1, x, hx, h2, h3, h4⟩)
  · exact .inl h1
  · exact .inr ⟨h1, by rw [h2, hmW_at h1.1 hx], ⟨_, h3⟩, h4⟩
theorem cq_Entry_spec (h : CQ H c C w) (i : Int) : CallH Tryz.prog n_cells_Cells_Entry [ptr c, i64 i] H fun v H' => Post (CQ H' c C w ∧ Fresh H H' ∧ (
    (¬ InC w.cs i ∧ v = .tuple [ent 0 0, .bool false].toArray) ∨ (InC w.cs i ∧ ∃ x, w.cs[i.toNat]? = some x ∧ v = .tuple [ent x.2.1 x.2.2, .bool true].toArray))) := by
  obtain ⟨st, h⟩ := h
  refine (cellsN_Entry_spec h i).mono ?_
  rintro v H' ⟨h1, h2, h3⟩
  exact ⟨⟨_, h1⟩, h2, h3⟩
theorem cq_Drop_spec (h : CQ H c C w) (i : Int) : CallH Tryz.prog n_cells_Cells_Drop [ptr c, i64 i] H fun v H' => Post (
    (¬ InC w.cs i ∧ v = .bool false ∧ H = H') ∨ (InC w.cs i ∧ v = .bool true ∧ CQ H' c C (w.put i (0, 0, 0)) ∧ Ext C H H')) := by
  obtain ⟨st, h⟩ := h
  refine (cellsN_Drop_spec h i).mono ?_
  rintro v H' (h1 | ⟨h1, h2, h3, h4⟩)
  · exact .inl h1
  · exact .inr ⟨h1, h2, ⟨_, h3⟩, h4⟩
theorem cq_Lower_spec (h : CQ H c C w) (i k s : Int) : CallH Tryz.prog n_cells_Cells_Lower [ptr c, i64 i, ent k s] H fun v H' => Post (
    (¬ (InC w.cs i ∧ ∀ x, w.cs[i.toNat]? = some x → ¬ lessE x.2.1 x.2.2 k s) ∧ v = .bool false ∧ CQ H' c C w ∧ Fresh H H') ∨
    (InC w.cs i ∧ v = .bool true ∧ ∃ x, w.cs[i.toNat]? = some x ∧ ¬ lessE x.2.1 x.2.2 k s ∧ CQ H' c C (w.put i (x.1, k, s)) ∧ Ext C H H')) := by
  obtain ⟨st, h⟩ := h
  refine (cellsN_Lower_spec h i k s).mono ?_
  rintro v H' (⟨h1, h2, h3, h4⟩ | ⟨h1, h2, x, h3, h4, h5, h6⟩)
  · exact .inl ⟨h1, h2, ⟨_, h3⟩, h4⟩
  · exact .inr ⟨h1, h2, x, h3, h4, ⟨_, h5⟩, h6⟩
end
theorem cq_New_spec (cap : Int) (H : Hp) : CallH Tryz.prog n_cells_New [i64 cap] H fun v H' => Post (
    Fresh H H' ∧ ((¬ (0 ≤ cap ∧ cap ≤ 65536) ∧ v = .tuple [.pointer none, i64 31].toArray) ∨
      (0 ≤ cap ∧ cap ≤ 65536) ∧ ∃ c C, v = .tuple [ptr c, i64 0].toArray ∧ CQ H' c C ⟨[false], List.replicate cap.toNat (0, 0, 0)⟩ ∧ (∀ x, C x → H.size ≤ x))) := by
  refine (cellsN_New_spec cap H).mono ?_
  rintro v H' ⟨h1, h2 | ⟨h2, c, C, h3, h4, h5⟩⟩
  · exact ⟨h1, .inl h2⟩
  · exact ⟨h1, .inr ⟨h2, c, C, h3, ⟨_, h4⟩, h5⟩⟩
theorem ahead_lt {w : Nw} {a b : Int} (ha : 0 < hmW w a) (hb : 0 < hmW w b) : w.ahead a b = ltW w a b := ltW_ahead (hmW_inC.1 ha) (hmW_inC.1 hb)
def topF (tops : List Int) (h : Int) : Int := if 0 ≤ h then tops.getD h.toNat (-1) else -1
theorem topF_at {tops : List Int} {h : Int} (h0 : 0 ≤ h) (hl : h < tops.length) : tops[h.toNat]? = some (topF tops h) := by
  unfold topF
  rw [if_pos h0, List.getD_eq_getElem?_getD]
  obtain ⟨x, hx⟩ : ∃ x, tops[h.toNat]? = some x := ⟨_, List.getElem?_eq_getElem (by omega)⟩
  rw [hx]; rfl
theorem topF_set {tops : List Int} {h : Int} (h0 : 0 ≤ h) (hl : h < tops.length) (x : Int) : topF (tops.set h.toNat x) = setT (topF tops) h x := by
  funext y
  show topF _ y = if y = h then x else topF tops y
  by_cases hy : y = h
  · subst hy
    unfold topF
    rw [if_pos h0, if_pos rfl, List.getD_eq_getElem?_getD, List.getElem?_set_self (by omega)]
    rfl
  · rw [if_neg hy]
    unfold topF
    split
    · rw [List.getD_eq_getElem?_getD, List.getElem?_set_ne (by omega), List.getD_eq_getElem?_getD]
    · rfl
theorem topF_app (tops : List Int) : topF (tops ++ [-1]) = topF tops := by
  funext y
  unfold topF
  split
  · rw [List.getD_eq_getElem?_getD, List.getD_eq_getElem?_getD]
    by_cases hy : y.toNat < tops.length
    · rw [List.getElem?_append_left hy]
    · rw [List.getElem?_append_right (by omega), List.getElem?_eq_none (l := tops) (by omega)]
      by_cases h2 : y.toNat - tops.length = 0
      · rw [h2]; rfl
      · rw [List.getElem?_eq_none (by simp; omega)]
  · rfl
end Go.Proofs.YtjlnnljohemifaaGreat

namespace Go.Proofs.YtjlnnljohemifaaGreat
open Go Go.Vc
theorem Sl.shape {H : Hp} {w : Value} {n : Nat} {xs : List Value} {fp : Option Nat} (h : Sl H 1 w n xs fp) : ∃ a c, w = .slice a n c := by
  obtain ⟨h1, h2⟩ := h
  cases fp with
  | none => obtain ⟨rfl, rfl⟩ := h2; exact ⟨none, 0, rfl⟩
  | some b => obtain ⟨l, c, rfl, _⟩ := h2; exact ⟨_, c, rfl⟩
theorem Sl.numA {H : Hp} {a : Option Addr} {n c : Nat} {xs : List Int} {fp : Option Nat} (h : Sl H 1 (.slice a n c) n (xs.map i64) fp) {i : Nat} {x : Int} (hx : xs[i]? = some x) :
    i < n ∧ ∃ b lb, a = some ⟨b, 0, none⟩ ∧ H.own b = some lb ∧ lb[i]? = some (i64 x) := by
  cases fp with
  | none =>
    have h1 := h.1
    have h2 := h.2.1
    have := (List.getElem?_eq_some_iff.1 hx).1
    rw [List.length_map] at h1
    omega
  | some b =>
    obtain ⟨h1, h2, lb, h3, h4⟩ := Sl.num h hx
    exact ⟨h1, b, lb, h2, h3, h4⟩
inductive Rl where
  | no
  | nest
  | cell
  | rowp
  | forest
  | table
  | row (g : Int)
  | kid (x : Int)
section
variable {H H' : Hp} {ro ro' : Nat → Rl} {fb tb n : Nat} {l : List Value} {V : Int → Value} {ch : Int → List Int} {par : Int → Int} {kb : Int → Option Nat} {T : Nat → Prop}
theorem pushK {H : Hp} {T : TypeId} {w : Value} {xs : List Int} {fp : Option Nat} {K : Value → Hp → Prop} (s : Sl H 1 w xs.length (xs.map i64) fp) (x : Int) (hl : xs.length ≤ 1000000000000)
    (hk : ∀ w' H' fp', (fp' = fp ∨ ∃ b, fp' = some b ∧ H.size ≤ b ∧ b < H'.size) → Sl H' 1 w' (xs ++ [x]).length ((xs ++ [x]).map i64) fp' → Ext (fun z => fp = some z) H H' → K w' H') :
    AppendV T 1 8 [i64 0] w (.slice (some ⟨H.size, 0, none⟩) 1 1) (H.new T [i64 x]) K := by
  have fl : Fresh H (H.new T [i64 x]) := (Ext.refl _ _).new _ _
  refine Sl.append (s.ext fl (fun _ _ h => h)) (Sl.lit_at (size := 1) (n := 1) (xs := [i64 x]) rfl rfl).rd rfl (ones_is [x]) (by omega) ?_
  intro v' H' fp' s' e' hf'
  refine hk v' H' fp' (hf'.imp_right fun ⟨b, h1, h2, h3⟩ => ⟨b, h1, by rw [size_new] at h2; omega, h3⟩) (by rw [List.length_append, List.map_append]; exact s') ⟨Nat.le_trans fl.size e'.size, fun z hz hn => ?_⟩
  rw [e'.keep z (Nat.lt_of_lt_of_le hz fl.size) hn, fl.keep z hz (fun h => h)]
end
end Go.Proofs.YtjlnnljohemifaaGreat

namespace Go.Proofs.YtjlnnljohemifaaGreat
open Go Go.Vc
abbrev hnd (x : Int) (g : Nat) : Value := .agg #[i64 x, .int .u32 (g : Int)]
structure Ar where
  g : List (Nat × Bool)
  wt : List Int
  nx : Nat
  ct : Int
  mo : Nat
def flatG (L : List (Nat × Bool)) : List Value := L.flatMap fun y => [.int .u32 (y.1 : Int), .bool y.2]
theorem flatG_len (L : List (Nat × Bool)) : (flatG L).length = L.length * 2 := by
  induction L with
  | nil => rfl
  | cons c r ih => simp only [flatG, List.flatMap_cons, List.length_append, List.length_cons, List.length_nil] at *; omega
theorem flatG_at {L : List (Nat × Bool)} {i : Nat} {y : Nat × Bool} (hi : L[i]? = some y) : (flatG L)[i * 2]? = some (.int .u32 (y.1 : Int)) ∧ (flatG L)[i * 2 + 1]? = some (.bool y.2) := by
  induction L generalizing i with
  | nil => simp at hi
  | cons a r ih =>
    have e : flatG (a :: r) = .int .u32 (a.1 : Int) :: .bool a.2 :: flatG r := rfl
    rw [e]
    cases i with
    | zero => simp at hi; subst hi; exact ⟨rfl, rfl⟩
    | succ i =>
      have := ih (by simpa using hi)
      rw [show (i + 1) * 2 = i * 2 + 2 by omega]
      exact this
theorem flatG_set {L : List (Nat × Bool)} {i : Nat} {y : Nat × Bool} (hi : L[i]? = some y) : (∀ v : Nat, (flatG L).set (i * 2) (.int .u32 (v : Int)) = flatG (L.set i (v, y.2))) ∧ (∀ b, (flatG L).set (i * 2 + 1) (.bool b) = flatG (L.set i (y.1, b))) := by
  induction L generalizing i with
  | nil => simp at hi
  | cons a r ih =>
    have e : flatG (a :: r) = .int .u32 (a.1 : Int) :: .bool a.2 :: flatG r := rfl
    cases i with
    | zero => simp at hi; subst hi; exact ⟨fun _ => rfl, fun _ => rfl⟩
    | succ i =>
      obtain ⟨h1, h2⟩ := ih (by simpa using hi)
      refine ⟨fun v => ?_, fun b => ?_⟩
      · have e2 : flatG ((a :: r).set (i + 1) (v, y.2)) = .int .u32 (a.1 : Int) :: .bool a.2 :: flatG (r.set i (v, y.2)) := rfl
        rw [e, e2, show (i + 1) * 2 = i * 2 + 1 + 1 by omega]
        simp only [List.set_cons_succ]
        rw [h1]
      · have e2 : flatG ((a :: r).set (i + 1) (y.1, b)) = .int .u32 (a.1 : Int) :: .bool a.2 :: flatG (r.set i (y.1, b)) := rfl
        rw [e, e2, show (i + 1) * 2 + 1 = i * 2 + 1 + 1 + 1 by omega]
        simp only [List.set_cons_succ]
        rw [h2]
def Ar.gen (A : Ar) (x : Int) : Nat := (A.g.getD x.toNat (0, false)).1
def Ar.live (A : Ar) (x : Int) : Prop := 0 ≤ x ∧ (A.g[x.toNat]?).map (·.2) = some true
instance (A : Ar) (x : Int) : Decidable (A.live x) := by unfold Ar.live; exact inferInstance
def Ar.pick (A : Ar) : Option (Int × Ar) :=
  if A.wt ≠ [] then some (A.wt.getLastD 0, { A with wt := A.wt.dropLast }) else if A.nx = A.g.length then none else some ((A.nx : Int), { A with nx := A.nx + 1 })
def Ar.out (A : Ar) (x : Int) : Ar := { A with g := A.g.set x.toNat (A.gen x + 1, true), ct := A.ct + 1 }
def Ar.back (A : Ar) (x : Int) : Ar := { A with g := A.g.set x.toNat (A.gen x, false), ct := A.ct - 1, wt := if A.gen x < A.mo then A.wt ++ [x] else A.wt }
def Ar.many (A : Ar) : Nat := A.g.countP (·.2)
theorem count_set {L : List (Nat × Bool)} {i : Nat} {y : Nat × Bool} (h : L[i]? = some y) (v : Nat) (b : Bool) : (L.set i (v, b)).countP (·.2) + y.2.toNat = L.countP (·.2) + b.toNat := by
  induction L generalizing i with
  | nil => simp at h
  | cons a r ih =>
    cases i with
    | zero =>
      simp at h
      subst h
      rw [List.set_cons_zero, List.countP_cons, List.countP_cons]
      cases a.2 <;> cases b <;> simp
    | succ i =>
      have := ih (i := i) (by simpa using h)
      rw [List.set_cons_succ, List.countP_cons, List.countP_cons]
      omega
structure ArOk (A : Ar) : Prop where
  wl : ∀ x ∈ A.wt, ¬ A.live x ∧ x < A.nx ∧ 0 ≤ x
  wd : A.wt.Nodup
  fr : ∀ x : Int, A.nx ≤ x → ¬ A.live x
  ct : A.ct = A.many
  nx : A.nx ≤ A.g.length
structure ArB where
  a : Nat
  sb : Nat
  fo : Option Nat
def ArB.S (B : ArB) (z : Nat) : Prop := z = B.a ∨ z = B.sb ∨ B.fo = some z
structure ArM (H : Hp) (B : ArB) (A : Ar) : Prop where
  own : ∃ tv, H.own B.a = some [.slice (some ⟨B.sb, 0, none⟩) A.g.length A.g.length, tv, i64 A.nx, i64 A.ct, .int .u32 (A.mo : Int)] ∧ Sl H 1 tv A.wt.length (A.wt.map i64) B.fo
  sl : H.own B.sb = some (flatG A.g)
  ne : B.a ≠ B.sb ∧ B.fo ≠ some B.a ∧ B.fo ≠ some B.sb
  len : A.g.length ≤ 65536
  ok : ArOk A
  gs : ∀ y ∈ A.g, y.1 ≤ 4294967295
  mo : A.mo ≤ 4294967295
section
variable {H H' : Hp} {B : ArB} {A : Ar} {T : Nat → Prop}
theorem ArM.slt (m : ArM H B A) : ∀ z, B.S z → z < H.size := by
  obtain ⟨tv, h1, h2⟩ := m.own
  rintro z (rfl | rfl | h)
  · exact own_lt h1
  · exact own_lt m.sl
  · rw [h] at h2; exact Sl.lt h2
theorem ArM.ext (m : ArM H B A) (e : Ext T H H') (hd : ∀ z, B.S z → ¬ T z) : ArM H' B A := by
  obtain ⟨tv, h1, h2⟩ := m.own
  exact ⟨⟨tv, e.own h1 (hd _ (.inl rfl)), h2.ext e (fun b hb => hd b (.inr (.inr hb)))⟩, e.own m.sl (hd _ (.inr (.inl rfl))), m.ne, m.len, m.ok, m.gs, m.mo⟩
theorem Ar.get {A : Ar} {x : Int} (hx : 0 ≤ x ∧ x < A.g.length) : ∃ b, A.g[x.toNat]? = some (A.gen x, b) ∧ (A.live x ↔ b = true) := by
  obtain ⟨y, hy⟩ : ∃ y, A.g[x.toNat]? = some y := ⟨_, List.getElem?_eq_getElem (by omega)⟩
  refine ⟨y.2, ?_, ?_⟩
  · unfold Ar.gen
    rw [List.getD_eq_getElem?_getD, hy]; rfl
  · unfold Ar.live
    rw [hy]
    simp [hx.1]
theorem Ar.live_in {A : Ar} {x : Int} (h : A.live x) : 0 ≤ x ∧ x < A.g.length := by
  obtain ⟨h0, h1⟩ := h
  cases hy : A.g[x.toNat]? with
  | none => rw [hy] at h1; cases h1
  | some y =>
    have := (List.getElem?_eq_some_iff.1 hy).1
    omega
theorem ArM.wtl (m : ArM H B A) : A.wt.length ≤ 65536 ∧ ∀ x ∈ A.wt, 0 ≤ x ∧ x < A.g.length := by
  have h1 : ∀ x ∈ A.wt, 0 ≤ x ∧ x < A.g.length := fun x hx => by
    have := m.ok.wl x hx
    have := m.ok.nx
    omega
  exact ⟨Nat.le_trans (row_len m.ok.wd h1) m.len, h1⟩
theorem padZ_slots (k : Nat) : padZ [Value.int .u32 0, Value.bool false] k = flatG (List.replicate k (0, false)) := by
  unfold padZ flatG
  induction k with
  | zero => rfl
  | succ k ih => rw [List.replicate_succ, List.replicate_succ, List.flatten_cons, List.flatMap_cons, ih]; rfl
theorem arena_New_spec (H : Hp) {n : Int} {mo : Nat} (hn : 0 ≤ n ∧ n ≤ 65536) (hm : 0 < mo ∧ mo ≤ 4294967295) : CallH Tryz.prog n_arena_New [i64 n, .int .u32 (mo : Int)] H fun v H' => Post (∃ B, v = .tuple [ptr B.a, i64 0].toArray ∧ ArM H' B ⟨List.replicate n.toNat (0, false), [], 0, 0, mo⟩ ∧ Fresh H H' ∧ ∀ z, B.S z → H.size ≤ z) := by
  refine ccT d_arena_New ⟨rfl, ?_⟩
  refine v1 s_arena_New.eq_1 ?_
  refine Both.dec (fun g => absurd g (by omega)) (fun _ => ?_)
  refine vs ?_
  refine Both.dec (fun g => absurd g (by omega)) (fun _ => ?_)
  refine vs ?_
  refine Both.dec (fun g => absurd g (by omega)) (fun _ => ?_)
  refine vs ?_
  refine ⟨⟨by omega, by omega, by omega, by omega⟩, ?_⟩
  refine vs ?_
  rw [padZ_slots]
  refine ⟨⟨H.size + 1, H.size, none⟩, rfl, ⟨⟨.slice none 0 0, ?_, Sl.nil _ _⟩, ?_, ⟨by simp only; omega, by simp, by simp⟩, by rw [List.length_replicate]; omega, ⟨by simp, List.nodup_nil, fun x _ hx => ?_, by simp [Ar.many, List.countP_replicate], Nat.zero_le _⟩, fun y hy => by rw [(List.mem_replicate.1 hy).2]; simp, hm.2⟩, ((Ext.refl _ _).new _ _).new _ _, fun z hz => ?_⟩
  · rw [List.length_replicate]
    exact own_new_eq (by simp only [size_new])
  rotate_left
  · obtain ⟨h0, h1⟩ := hx
    simp only [List.getElem?_replicate] at h1
    split at h1 <;> simp at h1
  rotate_left
  · simp only
    rw [own_new_lt (by simp only [size_new]; omega), own_new]
  · rcases hz with h | h | h
    · simp only at h; omega
    · simp only at h; omega
    · cases h
theorem arena_Live_spec (m : ArM H B A) (x : Int) (g : Nat) : CallH Tryz.prog n_arena_Arena_Live [ptr B.a, hnd x g] H fun v H' => Post (v = .bool (decide (A.live x ∧ A.gen x = g)) ∧ Fresh H H') := by
  obtain ⟨tv, o1, _⟩ := m.own
  refine ccT d_arena_Arena_Live ⟨rfl, ?_⟩
  refine v1 s_arena_Arena_Live.eq_1 ?_
  have f0 : Fresh H (H.new 114 [i64 x, .int .u32 (g : Int)]) := (Ext.refl _ _).new _ _
  have b0 : (H.new 114 [i64 x, .int .u32 (g : Int)]).own H.size = some [i64 x, .int .u32 (g : Int)] := own_new _ _ _
  have m0 := m.ext f0 (fun _ _ h => h)
  generalize H.new 114 [i64 x, .int .u32 (g : Int)] = H0 at *
  obtain ⟨tv0, o0, _⟩ := m0.own
  refine Both.dec (fun h0 => ?_) (fun h0 => ?_) <;> refine v2 (rd_of_own b0) (rd_of_own o0) ?_
  rotate_left
  · rw [decide_eq_false (fun h => h0 h.1.1)]
    exact ⟨rfl, f0⟩
  refine Both.dec (fun h1 => ?_) (fun h1 => ?_) <;> refine v2 (rd_of_own b0) (rd_of_own o0) ?_
  rotate_left
  · rw [decide_eq_false (fun h => h1 (Ar.live_in h.1).2)]
    exact ⟨rfl, f0⟩
  obtain ⟨b, hb, hlive⟩ := Ar.get (A := A) (x := x) ⟨h0, h1⟩
  obtain ⟨c1, c2⟩ := flatG_at hb
  have hl := flatG_len A.g
  refine ⟨⟨by omega, by omega⟩, ?_⟩
  refine v2 (rd_of_own m0.sl) Nat.zero_add ?_
  have hdt : ((flatG A.g).drop (x.toNat * 2)).take 2 = [.int .u32 (A.gen x : Int), .bool b] := by
    apply List.ext_getElem?
    intro k
    match k with
    | 0 => rw [List.getElem?_take_of_lt (by omega), List.getElem?_drop, Nat.add_zero]; exact c1
    | 1 => rw [List.getElem?_take_of_lt (by omega), List.getElem?_drop]; exact c2
    | k + 2 => rw [List.getElem?_eq_none (by simp; omega)]; rfl
  rw [hdt]
  refine ⟨by omega, ?_⟩
  refine v1 (rd_of_own b0) ?_
  have heq : eqVs [(0, none, Shape.int), (1, none, Shape.bool)] [Value.int IntKind.u32 (A.gen x : Int), Value.bool b] [Value.int IntKind.u32 (g : Int), Value.bool true] = some (decide (A.gen x = g) && b) := by
    by_cases hg : A.gen x = g
    · cases b <;> simp [eqVs, eqV, simpleEq, hg, partL]
    · have : ¬ (A.gen x : Int) = (g : Int) := by omega
      cases b <;> simp [eqVs, eqV, simpleEq, hg, partL, this]
  rw [heq]
  simp (disch := (first | omega | (simp only [Zs] <;> omega) | fail)) only [go_sem, ↓reduceIte, Zv, Option.map_some]
  refine ⟨congrArg Value.bool ?_, f0⟩
  by_cases hg : A.gen x = g
  · rw [decide_eq_true hg, Bool.true_and]
    cases hb2 : b
    · exact (decide_eq_false (fun h => by have := hlive.1 h.1; rw [hb2] at this; cases this)).symm
    · exact (decide_eq_true ⟨hlive.2 hb2, hg⟩).symm
  · rw [decide_eq_false hg, decide_eq_false (fun h => hg h.2)]
    rfl
theorem arena_At_spec (m : ArM H B A) {x : Int} (hx : A.live x) : CallH Tryz.prog n_arena_Arena_At [ptr B.a, i64 x] H fun v H' => Post (v = .tuple [hnd x (A.gen x), .bool true].toArray ∧ Fresh H H') := by
  obtain ⟨tv, o1, _⟩ := m.own
  have hxr := Ar.live_in hx
  obtain ⟨b, hb, hlive⟩ := Ar.get (A := A) (x := x) hxr
  obtain rfl := hlive.1 hx
  obtain ⟨c1, c2⟩ := flatG_at hb
  have hl := flatG_len A.g
  refine ccT d_arena_Arena_At ⟨rfl, ?_⟩
  refine v1 s_arena_Arena_At.eq_1 ?_
  have f0 : Fresh H (H.new 114 [Value.int .i64 0, Value.int .u32 0]) := (Ext.refl _ _).new _ _
  have b0 : (H.new 114 [Value.int .i64 0, Value.int .u32 0]).own H.size = some [Value.int .i64 0, Value.int .u32 0] := own_new _ _ _
  have m0 := m.ext f0 (fun _ _ h => h)
  have z0 : (H.new 114 [Value.int .i64 0, Value.int .u32 0]).size = H.size + 1 := size_new _ _ _
  generalize H.new 114 [Value.int .i64 0, Value.int .u32 0] = H0 at *
  obtain ⟨tv0, o0, _⟩ := m0.own
  refine Both.dec (fun h => absurd h (by omega)) (fun _ => ?_)
  refine v1 (rd_of_own o0) ?_
  refine Both.dec (fun h => absurd h (by omega)) (fun _ => ?_)
  refine v1 (rd_of_own o0) ?_
  refine ⟨⟨by omega, by omega⟩, ?_⟩
  refine v4 (rd_of_own m0.sl) Nat.zero_add c2 (rd_of_own o0) ?_
  refine ⟨⟨by omega, by omega⟩, ?_⟩
  refine v5 (rd_of_own m0.sl) Nat.zero_add Nat.add_zero c1 b0 ?_
  have e1 : Ext (fun z => z = H.size) H0 (H0.wr H.size [Value.int .i64 x, Value.int .u32 (A.gen x : Int)]) := (Ext.refl (fun z => z = H.size) _).wr (fun _ => rfl) _
  have b1 : (H0.wr H.size [Value.int .i64 x, Value.int .u32 (A.gen x : Int)]).own H.size = some [Value.int .i64 x, Value.int .u32 (A.gen x : Int)] := own_wr_same b0
  refine v1 (rd_of_own b1) ?_
  exact ⟨rfl, f0.then e1 (fun z hz => by omega)⟩
end
end Go.Proofs.YtjlnnljohemifaaGreat

namespace Go.Proofs.YtjlnnljohemifaaGreat
open Go Go.Vc
theorem slv_val {H : Hp} {v : Value} {size n : Nat} {xs : List Value} {fp : Option Nat} (h : Sl H size v n xs fp) : ∃ a c, v = .slice a n c ∧ n ≤ c := by
  obtain ⟨_, h⟩ := h
  cases fp with
  | none => obtain ⟨rfl, rfl⟩ := h; exact ⟨_, _, rfl, Nat.le_refl _⟩
  | some b => obtain ⟨l, c, rfl, _, hc, _⟩ := h; exact ⟨_, _, rfl, hc⟩
theorem RdS.num {H : Hp} {a : Option Addr} {n c : Nat} {xs : List Int} (h : RdS H 1 (.slice a n c) n (xs.map i64)) {i : Nat} {x : Int} (hx : xs[i]? = some x) :
    i < n ∧ ∃ b o lb, a = some ⟨b, o, none⟩ ∧ H.rd b = some lb ∧ lb[o + i]? = some (i64 x) := by
  obtain ⟨hl, hv⟩ := h
  rw [List.length_map, Nat.mul_one] at hl
  have hi := (List.getElem?_eq_some_iff.1 hx).1
  refine ⟨by omega, ?_⟩
  rcases hv with ⟨hn, _⟩ | ⟨b, o, c2, l, hs, hrd, hle, ht⟩
  · omega
  · injection hs with hs1 hs2 hs3
    refine ⟨b, o, l, hs1, hrd, ?_⟩
    have h7 : (xs.map i64)[i]? = some (i64 x) := by rw [List.getElem?_map, hx]; rfl
    rw [← ht, List.getElem?_take, if_pos (by omega), List.getElem?_drop] at h7
    exact h7
section
variable {H H' : Hp} {B : ArB} {A A' : Ar} {T : Nat → Prop} {x : Int}
theorem Ar.pick_ok {A A' : Ar} {x : Int} (h : A.pick = some (x, A')) (ok : ArOk A) : (0 ≤ x ∧ x < A.g.length) ∧ ¬ A.live x ∧ x ∉ A'.wt ∧ x < A'.nx ∧ A'.g = A.g ∧ A'.ct = A.ct ∧ A'.mo = A.mo := by
  have hnx := ok.nx
  unfold Ar.pick at h
  split at h
  · rename_i hne
    injection h with h
    injection h with h1 h2
    subst h1 h2
    have hw : A.wt = A.wt.dropLast ++ [A.wt.getLastD 0] := by
      conv => lhs; rw [← List.dropLast_concat_getLast hne]
      rw [List.getLastD_eq_getLast?, List.getLast?_eq_some_getLast hne]
      rfl
    have hm : A.wt.getLastD 0 ∈ A.wt := by rw [hw]; simp
    have h5 := ok.wl _ hm
    refine ⟨by omega, h5.1, fun hd => ?_, h5.2.1, rfl, rfl, rfl⟩
    have hnd := ok.wd
    rw [hw, List.nodup_append] at hnd
    exact hnd.2.2 _ hd _ (by simp) rfl
  · split at h
    · cases h
    · rename_i h1 h2
      injection h with h
      injection h with h3 h4
      subst h3 h4
      refine ⟨by omega, ok.fr _ (Int.le_refl _), fun hm => ?_, by simp only; omega, rfl, rfl, rfl⟩
      have := ok.wl _ hm
      omega
theorem Ar.live_set {A A' : Ar} {x y : Int} {v : Nat} {b : Bool} (hx : 0 ≤ x ∧ x < A.g.length) (h : A'.g = A.g.set x.toNat (v, b)) (hy : 0 ≤ y) : A'.live y ↔ if y = x then b = true else A.live y := by
  unfold Ar.live
  rw [h]
  by_cases e : y = x
  · rw [if_pos e, e, List.getElem?_set_self (by omega)]
    simp [hx.1]
  · rw [if_neg e, List.getElem?_set_ne (by omega)]
theorem Ar.gen_set {A A' : Ar} {x y : Int} {v : Nat} {b : Bool} (hx : 0 ≤ x ∧ x < A.g.length) (h : A'.g = A.g.set x.toNat (v, b)) (hy : 0 ≤ y) : A'.gen y = if y = x then v else A.gen y := by
  unfold Ar.gen
  rw [h, List.getD_eq_getElem?_getD, List.getD_eq_getElem?_getD]
  by_cases e : y = x
  · rw [if_pos e, e, List.getElem?_set_self (by omega)]; rfl
  · rw [if_neg e, List.getElem?_set_ne (by omega)]
theorem ArOk.out {A A' : Ar} {x : Int} (ok : ArOk A') (hg : A'.g = A.g) (hx : 0 ≤ x ∧ x < A'.g.length) (hl : ¬ A'.live x) (hw : x ∉ A'.wt) (hn : x < A'.nx) : ArOk (A'.out x) := by
  obtain ⟨b, hb, hlb⟩ := Ar.get hx
  have hbf : b = false := by cases b; rfl; exact absurd (hlb.2 rfl) hl
  refine ⟨fun y hy => ?_, ok.wd, fun y hy hl2 => ?_, ?_, ?_⟩
  · obtain ⟨h1, h2, h3⟩ := ok.wl y hy
    refine ⟨fun h => ?_, h2, h3⟩
    rw [Ar.live_set (A := A') hx rfl h3, if_neg (fun e => hw (by rw [← e]; exact hy))] at h
    exact h1 h
  · have hy0 := hl2.1
    have hy2 : (A'.nx : Int) ≤ y := hy
    rw [Ar.live_set (A := A') hx rfl hy0, if_neg (by omega)] at hl2
    exact ok.fr y hy2 hl2
  · have := count_set hb (A'.gen x + 1) true
    rw [hbf] at this
    have h2 := ok.ct
    show A'.ct + 1 = (((A'.g.set x.toNat (A'.gen x + 1, true)).countP (·.2) : Nat) : Int)
    unfold Ar.many at h2
    simp at this
    omega
  · show A'.nx ≤ (A'.g.set x.toNat _).length
    rw [List.length_set]; exact ok.nx
theorem ArOk.back {A : Ar} {x : Int} (ok : ArOk A) (hl : A.live x) : ArOk (A.back x) := by
  have hx := Ar.live_in hl
  obtain ⟨b, hb, hlb⟩ := Ar.get hx
  have hbt := hlb.1 hl
  have hxn : x < A.nx := Classical.byContradiction fun h => ok.fr x (by omega) hl
  have hxw : x ∉ A.wt := fun h => (ok.wl x h).1 hl
  have hnl : ¬ (A.back x).live x := fun h => by
    rw [Ar.live_set (A := A) hx rfl hx.1, if_pos rfl] at h
    cases h
  have hother : ∀ y, 0 ≤ y → (A.back x).live y → A.live y := fun y h0 h => by
    rw [Ar.live_set (A := A) hx rfl h0] at h
    split at h
    · cases h
    · exact h
  refine ⟨fun y hy => ?_, ?_, fun y hy hl2 => ok.fr y hy (hother y hl2.1 hl2), ?_, ?_⟩
  · have hy2 : y ∈ (if A.gen x < A.mo then A.wt ++ [x] else A.wt) := hy
    have hor : y ∈ A.wt ∨ y = x := by
      split at hy2
      · rcases List.mem_append.1 hy2 with h | h
        · exact .inl h
        · exact .inr (List.mem_singleton.1 h)
      · exact .inl hy2
    rcases hor with h | h
    · obtain ⟨h1, h2, h3⟩ := ok.wl y h
      exact ⟨fun h4 => h1 (hother y h3 h4), h2, h3⟩
    · rw [h]; exact ⟨hnl, hxn, hx.1⟩
  · show (if A.gen x < A.mo then A.wt ++ [x] else A.wt).Nodup
    split
    · rw [List.nodup_append]
      refine ⟨ok.wd, by simp, fun u hu v hv e => hxw ?_⟩
      rw [List.mem_singleton.1 hv] at e
      rw [← e]; exact hu
    · exact ok.wd
  · have := count_set hb (A.gen x) false
    rw [hbt] at this
    have h2 := ok.ct
    show A.ct - 1 = (((A.g.set x.toNat (A.gen x, false)).countP (·.2) : Nat) : Int)
    unfold Ar.many at h2
    simp at this
    omega
  · show A.nx ≤ (A.g.set x.toNat _).length
    rw [List.length_set]; exact ok.nx
set_option maxRecDepth 100000 in
theorem arena_pick_spec (m : ArM H B A) : CallH Tryz.prog n_arena_Arena_pick [ptr B.a] H fun v H' => Post (
    (A.pick = none ∧ v = .tuple [i64 0, .bool false].toArray ∧ H' = H) ∨ (∃ x A', A.pick = some (x, A') ∧ v = .tuple [i64 x, .bool true].toArray ∧ ArM H' B A' ∧ Ext (fun z => z = B.a) H H')) := by
  obtain ⟨tv, o1, s1⟩ := m.own
  obtain ⟨wa, wc, rfl⟩ := Sl.shape s1
  have hwl := m.wtl.1
  have hgl := m.len
  have hnx := m.ok.nx
  refine ccT d_arena_Arena_pick ⟨rfl, ?_⟩
  refine v2 s_arena_Arena_pick.eq_1 (rd_of_own o1) ?_
  refine Both.dec (fun h0 => ?_) (fun h0 => ?_)
  · have hne : A.wt ≠ [] := fun h => by rw [h] at h0; simp at h0
    obtain ⟨k, hk⟩ : ∃ k, A.wt.length = k + 1 := ⟨A.wt.length - 1, by omega⟩
    obtain ⟨x, hx⟩ : ∃ x, A.wt[k]? = some x := ⟨_, List.getElem?_eq_getElem (by omega)⟩
    have hlast : A.wt.getLastD 0 = x := by
      rw [List.getLastD_eq_getLast?, List.getLast?_eq_getElem?, hk, Nat.add_sub_cancel, hx]
      rfl
    have hdl : A.wt.dropLast = A.wt.take k := by rw [List.dropLast_eq_take, hk, Nat.add_sub_cancel]
    have hpk : A.pick = some (x, { A with wt := A.wt.take k }) := by
      unfold Ar.pick
      rw [if_pos hne, hlast, hdl]
    obtain ⟨b, lb, c, hsv, hfo, qb, qk, _, _, _⟩ : ∃ b lb c, Value.slice wa A.wt.length wc = .slice (some ⟨b, 0, none⟩) A.wt.length c ∧ B.fo = some b ∧ H.own b = some lb ∧ lb[k]? = some (i64 x) ∧ k < A.wt.length ∧ A.wt.length ≤ lb.length ∧ True := by
      obtain ⟨h1, b, lb, rfl, q2, q3⟩ := Sl.numA s1 hx
      have hl1 := s1
      revert hl1
      cases hfo : B.fo with
      | none => intro hl1; have := hl1.2.2; injection this with h1; cases h1
      | some b' =>
        intro hl1
        obtain ⟨_, lb', c', hs, ho, hc, hle, _⟩ := hl1
        injection hs with hs1 hs2 hs3
        injection hs1 with hs1
        injection hs1 with hs1
        subst hs1 hs3
        rw [q2] at ho
        injection ho with ho
        subst ho
        exact ⟨b, lb, wc, rfl, rfl, q2, q3, h1, by omega, trivial⟩
    injection hsv with hs1 hs2 hs3
    subst hs1 hs3
    obtain ⟨_, lb', c', hs, ho, hc, hle, ht⟩ : (A.wt.map i64).length = A.wt.length * 1 ∧ ∃ l c', Value.slice (some ⟨b, 0, none⟩) A.wt.length wc = .slice (some ⟨b, 0, none⟩) A.wt.length c' ∧ H.own b = some l ∧ A.wt.length ≤ c' ∧ c' * 1 ≤ l.length ∧ l.take (A.wt.length * 1) = A.wt.map i64 := by
      have := s1
      rw [hfo] at this
      exact this
    injection hs with _ _ hs
    subst hs
    rw [qb] at ho
    injection ho with ho
    subst ho
    rw [Nat.mul_one] at hle ht
    refine v1 (rd_of_own o1) ?_
    rw [wrap64 (n := (A.wt.length : Int) - 1) (by omega) (by omega)]
    refine ⟨⟨by omega, by omega⟩, ?_⟩
    rw [show ((A.wt.length : Int) - 1).toNat = k by omega]
    refine v5 (rd_of_own qb) Nat.zero_add Nat.mul_one qk (rd_of_own o1) ?_
    rw [wrap64 (n := (A.wt.length : Int) - 1) (by omega) (by omega)]
    refine ⟨⟨by omega, by omega, by omega, by omega⟩, ?_⟩
    refine v1 o1 ?_
    rw [if_neg (show ¬ (wc : Int) = ((0 : Nat) : Int) by omega)]
    have e1 : ∀ l, Ext (fun z => z = B.a) H (H.wr B.a l) := fun l => (Ext.refl (fun z => z = B.a) _).wr (fun _ => rfl) _
    have htl : (A.wt.take k).length = k := by rw [List.length_take]; omega
    refine .inr ⟨x, _, hpk, rfl, ⟨⟨_, own_wr_same o1, ?_⟩, (e1 _).own m.sl (Ne.symm m.ne.1), m.ne, m.len, ⟨fun y hy => m.ok.wl y (List.mem_of_mem_take hy), m.ok.wd.sublist (List.take_sublist _ _), m.ok.fr, m.ok.ct, m.ok.nx⟩, m.gs, m.mo⟩, e1 _⟩
    have hb : b ≠ B.a := fun e => m.ne.2.1 (by rw [hfo, e])
    refine ⟨by simp, ?_⟩
    rw [hfo]
    refine ⟨lb, wc, ?_, (e1 _).own qb hb, by rw [htl]; omega, by rw [Nat.mul_one]; exact hle, ?_⟩
    · rw [htl, show ((A.wt.length : Int) - 1).toNat - ((0 : Nat) : Int).toNat = k by omega]
      simp [Addr.add]
    · rw [Nat.mul_one, List.map_take, ← ht, List.take_take]
      congr 1
      rw [htl]
      omega
  · refine v1 (rd_of_own o1) ?_
    have he : A.wt = [] := List.length_eq_zero_iff.1 (by omega)
    refine Both.dec (fun h1 => ?_) (fun h1 => ?_)
    · refine vs ?_
      refine .inl ⟨?_, rfl, rfl⟩
      unfold Ar.pick
      rw [if_neg (by simp [he]), if_pos (by omega)]
    · refine v2 (rd_of_own o1) o1 ?_
      rw [wrap64 (n := (A.nx : Int) + 1) (by omega) (by omega)]
      have e1 : ∀ l, Ext (fun z => z = B.a) H (H.wr B.a l) := fun l => (Ext.refl (fun z => z = B.a) _).wr (fun _ => rfl) _
      have q1 : ∀ l, (H.wr B.a l).own B.a = some l := fun l => own_wr_same o1
      simp (disch := (first | omega | (simp only [Zs] <;> omega) | fail)) only [go_sem, ↓reduceIte, Zv, rd_of_own (q1 _)]
      rw [wrap64 (n := (A.nx : Int) + 1 - 1) (by omega) (by omega)]
      have hpk : A.pick = some ((A.nx : Int), { A with nx := A.nx + 1 }) := by
        unfold Ar.pick
        rw [if_neg (by simp [he]), if_neg (by omega)]
      rw [show (A.nx : Int) + 1 - 1 = (A.nx : Int) by omega]
      refine .inr ⟨_, _, hpk, rfl, ⟨⟨.slice wa A.wt.length wc, q1 _, s1.ext (e1 _) (fun b hb e => m.ne.2.1 (by rw [hb, e]))⟩, (e1 _).own m.sl (Ne.symm m.ne.1), m.ne, m.len, ⟨fun y hy => by have := m.ok.wl y hy; exact ⟨this.1, by simp only; omega, this.2.2⟩, m.ok.wd, fun y hy => m.ok.fr y (by simp only at hy; omega), m.ok.ct, by simp only; omega⟩, m.gs, m.mo⟩, e1 _⟩
theorem Ar.many_le (A : Ar) : A.many ≤ A.g.length := List.countP_le_length
set_option maxRecDepth 100000 in
set_option maxHeartbeats 1000000 in
theorem arena_Take_spec (m : ArM H B A) (hgen : ∀ x : Int, 0 ≤ x → x < A.g.length → A.gen x < 4294967295) : CallH Tryz.prog n_arena_Arena_Take [ptr B.a] H fun v H' => Post (
    (A.pick = none ∧ v = .tuple [hnd 0 0, i64 32].toArray ∧ ArM H' B A ∧ Fresh H H') ∨ (∃ x A', A.pick = some (x, A') ∧ v = .tuple [hnd x (A.gen x + 1), i64 0].toArray ∧ ArM H' B (A'.out x) ∧ Ext B.S H H')) := by
  have hslt := m.slt
  refine ccT d_arena_Arena_Take ⟨rfl, ?_⟩
  refine v1 s_arena_Arena_Take.eq_1 ?_
  have f0 : Fresh H (H.new 114 [Value.int .i64 0, Value.int .u32 0]) := (Ext.refl _ _).new _ _
  have b0 : (H.new 114 [Value.int .i64 0, Value.int .u32 0]).own H.size = some [Value.int .i64 0, Value.int .u32 0] := own_new _ _ _
  have m0 := m.ext f0 (fun _ _ h => h)
  generalize H.new 114 [Value.int .i64 0, Value.int .u32 0] = H0 at *
  have hBn : ∀ z, B.S z → z ≠ H.size := fun z hz => by have := hslt z hz; omega
  refine (arena_pick_spec m0).mono ?_
  rintro _ H1 (⟨hp, rfl, e⟩ | ⟨x, A', hp, rfl, m1, e1⟩)
  · obtain rfl := e.symm
    refine v1 b0 ?_
    have e1 : Ext (fun z => z = H.size) H0 (H0.wr H.size [Value.int .i64 0, Value.int .u32 0]) := (Ext.refl (fun z => z = H.size) _).wr (fun _ => rfl) _
    have b1 : (H0.wr H.size [Value.int .i64 0, Value.int .u32 0]).own H.size = some [Value.int .i64 0, Value.int .u32 0] := own_wr_same b0
    refine v1 (rd_of_own b1) ?_
    exact .inl ⟨hp, rfl, m0.ext e1 (fun z hz e => hBn z hz e), f0.then e1 (fun z hz => by omega)⟩
  obtain ⟨hxr, hxl, hxw, hxn, hg, hct, hmo⟩ := Ar.pick_ok hp m.ok
  have b1 := e1.own b0 (fun e => hBn B.a (.inl rfl) e.symm)
  obtain ⟨tv1, o1, s1⟩ := m1.own
  have hgl := m1.len
  have hxr1 : 0 ≤ x ∧ x < A'.g.length := by rw [hg]; exact hxr
  obtain ⟨b, hb, hlb⟩ := Ar.get (A := A') hxr1
  have hgx : A'.gen x = A.gen x := by unfold Ar.gen; rw [hg]
  have hgb := hgen x hxr.1 hxr.2
  obtain ⟨c1, c2⟩ := flatG_at hb
  obtain ⟨w1, _⟩ := flatG_set hb
  have hl := flatG_len A'.g
  refine v1 (rd_of_own o1) ?_
  refine ⟨⟨by omega, by omega⟩, ?_⟩
  refine v5 (rd_of_own m1.sl) m1.sl Nat.zero_add Nat.add_zero c1 ?_
  refine ⟨by omega, ?_⟩
  rw [wrapU32 (n := (A'.gen x : Int) + 1) (by omega) (by omega), show (A'.gen x : Int) + 1 = ((A'.gen x + 1 : Nat) : Int) by omega]
  refine v1 w1 ?_
  have e2 : Ext (fun z => z = B.sb) H1 (H1.wr B.sb (flatG (A'.g.set x.toNat (A'.gen x + 1, b)))) := (Ext.refl (fun z => z = B.sb) _).wr (fun _ => rfl) _
  have q2 : (H1.wr B.sb (flatG (A'.g.set x.toNat (A'.gen x + 1, b)))).own B.sb = some (flatG (A'.g.set x.toNat (A'.gen x + 1, b))) := own_wr_same m1.sl
  generalize H1.wr B.sb (flatG (A'.g.set x.toNat (A'.gen x + 1, b))) = H2 at *
  have hb2 : (A'.g.set x.toNat (A'.gen x + 1, b))[x.toNat]? = some (A'.gen x + 1, b) := List.getElem?_set_self (by omega)
  obtain ⟨d1, _⟩ := flatG_at hb2
  have w2 := (flatG_set hb2).2 true
  rw [List.set_set] at w2
  have hl2 := flatG_len (A'.g.set x.toNat (A'.gen x + 1, b))
  rw [List.length_set] at hl2
  refine v3 q2 Nat.zero_add Nat.add_zero ?_
  refine ⟨by omega, ?_⟩
  refine v1 w2 ?_
  have e3 : Ext (fun z => z = B.sb) H2 (H2.wr B.sb (flatG (A'.g.set x.toNat (A'.gen x + 1, true)))) := (Ext.refl (fun z => z = B.sb) _).wr (fun _ => rfl) _
  have q3 : (H2.wr B.sb (flatG (A'.g.set x.toNat (A'.gen x + 1, true)))).own B.sb = some (flatG (A'.g.set x.toNat (A'.gen x + 1, true))) := own_wr_same q2
  generalize H2.wr B.sb (flatG (A'.g.set x.toNat (A'.gen x + 1, true))) = H3 at *
  have e13 := e2.trans e3
  have o3 := e13.own o1 m.ne.1
  have hct1 := m1.ok.ct
  have hmany := Ar.many_le A'
  refine v2 (rd_of_own o3) o3 ?_
  rw [wrap64 (n := A'.ct + 1) (by omega) (by omega)]
  have e4 : ∀ l, Ext (fun z => z = B.a) H3 (H3.wr B.a l) := fun l => (Ext.refl (fun z => z = B.a) _).wr (fun _ => rfl) _
  have q4 : ∀ l, (H3.wr B.a l).own B.a = some l := fun l => own_wr_same o3
  have q3' := (e4 [.slice (some ⟨B.sb, 0, none⟩) A'.g.length A'.g.length, tv1, i64 A'.nx, i64 (A'.ct + 1), .int .u32 (A'.mo : Int)]).own q3 (Ne.symm m.ne.1)
  have b3 := (e4 [.slice (some ⟨B.sb, 0, none⟩) A'.g.length A'.g.length, tv1, i64 A'.nx, i64 (A'.ct + 1), .int .u32 (A'.mo : Int)]).own (e13.own b1 (fun e => hBn B.sb (.inr (.inl rfl)) e.symm)) (fun e => hBn B.a (.inl rfl) e.symm)
  have hb3 : (A'.g.set x.toNat (A'.gen x + 1, true))[x.toNat]? = some (A'.gen x + 1, true) := List.getElem?_set_self (by omega)
  obtain ⟨d3, _⟩ := flatG_at hb3
  have s4 := (s1.ext e13 (fun b hb e => m.ne.2.2 (by rw [hb, e]))).ext (e4 [.slice (some ⟨B.sb, 0, none⟩) A'.g.length A'.g.length, tv1, i64 A'.nx, i64 (A'.ct + 1), .int .u32 (A'.mo : Int)]) (fun b hb e => m.ne.2.1 (by rw [hb, e]))
  have m4 : ArM (H3.wr B.a [.slice (some ⟨B.sb, 0, none⟩) A'.g.length A'.g.length, tv1, i64 A'.nx, i64 (A'.ct + 1), .int .u32 (A'.mo : Int)]) B (A'.out x) := by
    refine ⟨⟨tv1, ?_, s4⟩, q3', m.ne, ?_, m1.ok.out hg hxr1 (fun h => hxl (by unfold Ar.live at h ⊢; rw [hg] at h; exact h)) hxw hxn, fun y hy => ?_, m1.mo⟩
    · show _ = some [.slice (some ⟨B.sb, 0, none⟩) (A'.g.set x.toNat (A'.gen x + 1, true)).length (A'.g.set x.toNat (A'.gen x + 1, true)).length, tv1, i64 A'.nx, i64 (A'.ct + 1), .int .u32 (A'.mo : Int)]
      rw [List.length_set]
      exact q4 _
    · show (A'.g.set x.toNat (A'.gen x + 1, true)).length ≤ _
      rw [List.length_set]; exact hgl
    · rcases List.mem_or_eq_of_mem_set hy with h | h
      · exact m1.gs y h
      · rw [h]; simp only; omega
  have e4' := e4 [.slice (some ⟨B.sb, 0, none⟩) A'.g.length A'.g.length, tv1, i64 A'.nx, i64 (A'.ct + 1), .int .u32 (A'.mo : Int)]
  generalize H3.wr B.a [.slice (some ⟨B.sb, 0, none⟩) A'.g.length A'.g.length, tv1, i64 A'.nx, i64 (A'.ct + 1), .int .u32 (A'.mo : Int)] = H4 at *
  have e14 : Ext B.S H H4 := ((f0.mono fun _ _ h => h.elim).trans (e1.mono fun z _ h => .inl h)).trans ((e13.mono fun z _ h => .inr (.inl h)).trans (e4'.mono fun z _ h => .inl h))
  refine v5 (rd_of_own q3') Nat.zero_add Nat.add_zero d3 b3 ?_
  have e5 : Ext (fun z => z = H.size) H4 (H4.wr H.size [Value.int .i64 x, Value.int .u32 ((A'.gen x + 1 : Nat) : Int)]) := (Ext.refl (fun z => z = H.size) _).wr (fun _ => rfl) _
  have b5 : (H4.wr H.size [Value.int .i64 x, Value.int .u32 ((A'.gen x + 1 : Nat) : Int)]).own H.size = some [Value.int .i64 x, Value.int .u32 ((A'.gen x + 1 : Nat) : Int)] := own_wr_same b3
  refine v1 (rd_of_own b5) ?_
  refine .inr ⟨x, A', hp, by rw [hgx]; rfl, m4.ext e5 (fun z hz e => hBn z hz e), ⟨Nat.le_trans e14.size e5.size, fun z hz hn => ?_⟩⟩
  rw [e5.keep z (Nat.lt_of_lt_of_le hz e14.size) (fun e => by omega), e14.keep z hz hn]
set_option maxRecDepth 100000 in
set_option maxHeartbeats 1000000 in
theorem arena_Give_spec (m : ArM H B A) {x : Int} (hx : A.live x) : CallH Tryz.prog n_arena_Arena_Give [ptr B.a, hnd x (A.gen x)] H fun v H' => Post (v = i64 0 ∧ ∃ fo', ArM H' ⟨B.a, B.sb, fo'⟩ (A.back x) ∧ Ext B.S H H' ∧ ∀ z, fo' = some z → B.fo = some z ∨ H.size ≤ z) := by
  have hslt := m.slt
  have hxr := Ar.live_in hx
  obtain ⟨b, hb, hlb⟩ := Ar.get (A := A) hxr
  obtain rfl := hlb.1 hx
  have hl := flatG_len A.g
  have w1 := (flatG_set hb).2 false
  have hgl := m.len
  have hct1 := m.ok.ct
  have hmany := Ar.many_le A
  refine ccT d_arena_Arena_Give ⟨rfl, ?_⟩
  refine v1 s_arena_Arena_Give.eq_1 ?_
  have f0 : Fresh H (H.new 114 [i64 x, .int .u32 (A.gen x : Int)]) := (Ext.refl _ _).new _ _
  have b0 : (H.new 114 [i64 x, .int .u32 (A.gen x : Int)]).own H.size = some [i64 x, .int .u32 (A.gen x : Int)] := own_new _ _ _
  have m0 := m.ext f0 (fun _ _ h => h)
  generalize H.new 114 [i64 x, .int .u32 (A.gen x : Int)] = H0 at *
  have hBn : ∀ z, B.S z → z ≠ H.size := fun z hz => by have := hslt z hz; omega
  refine (arena_Live_spec m0 x (A.gen x)).mono ?_
  rintro _ H1 ⟨rfl, f1⟩
  rw [decide_eq_true ⟨hx, rfl⟩]
  have m1 := m0.ext f1 (fun _ _ h => h)
  have b1 := f1.own b0 (fun h => h)
  obtain ⟨tv1, o1, s1⟩ := m1.own
  refine v2 (rd_of_own o1) (rd_of_own b1) ?_
  refine ⟨⟨by omega, by omega⟩, ?_⟩
  refine v2 m1.sl Nat.zero_add ?_
  refine ⟨by omega, ?_⟩
  refine v1 w1 ?_
  have e2 : Ext (fun z => z = B.sb) H1 (H1.wr B.sb (flatG (A.g.set x.toNat (A.gen x, false)))) := (Ext.refl (fun z => z = B.sb) _).wr (fun _ => rfl) _
  have q2 : (H1.wr B.sb (flatG (A.g.set x.toNat (A.gen x, false)))).own B.sb = some (flatG (A.g.set x.toNat (A.gen x, false))) := own_wr_same m1.sl
  generalize H1.wr B.sb (flatG (A.g.set x.toNat (A.gen x, false))) = H2 at *
  have o2 := e2.own o1 m.ne.1
  have b2 := e2.own b1 (fun e => hBn B.sb (.inr (.inl rfl)) e.symm)
  refine v2 (rd_of_own o2) o2 ?_
  rw [wrap64 (n := A.ct - 1) (by omega) (by omega)]
  have e3 : ∀ l, Ext (fun z => z = B.a) H2 (H2.wr B.a l) := fun l => (Ext.refl (fun z => z = B.a) _).wr (fun _ => rfl) _
  have q3 : ∀ l, (H2.wr B.a l).own B.a = some l := fun l => own_wr_same o2
  have b3 := fun l => (e3 l).own b2 (fun e => hBn B.a (.inl rfl) e.symm)
  have q2' := fun l => (e3 l).own q2 (Ne.symm m.ne.1)
  have s3 := fun l => (s1.ext e2 (fun b hb e => m.ne.2.2 (by rw [hb, e]))).ext (e3 l) (fun b hb e => m.ne.2.1 (by rw [hb, e]))
  obtain ⟨l3, hl3⟩ : ∃ l3, l3 = [.slice (some ⟨B.sb, 0, none⟩) A.g.length A.g.length, tv1, i64 A.nx, i64 (A.ct - 1), .int .u32 (A.mo : Int)] := ⟨_, rfl⟩
  have q3' := q3 l3
  have b3' := b3 l3
  have q2'' := q2' l3
  have s3' := s3 l3
  have e3' := e3 l3
  rw [hl3] at q3' b3' q2'' s3' e3'
  generalize H2.wr B.a [.slice (some ⟨B.sb, 0, none⟩) A.g.length A.g.length, tv1, i64 A.nx, i64 (A.ct - 1), .int .u32 (A.mo : Int)] = H3 at *
  have e13 : Ext B.S H H3 := ((f0.mono fun _ _ h => h.elim).trans (f1.mono fun _ _ h => h.elim)).trans ((e2.mono fun z _ h => .inr (.inl h)).trans (e3'.mono fun z _ h => .inl h))
  have hok := m.ok.back hx
  have hgs : ∀ y ∈ (A.back x).g, y.1 ≤ 4294967295 := fun y hy => by
    rcases List.mem_or_eq_of_mem_set hy with h | h
    · exact m.gs y h
    · rw [h]
      exact m.gs (A.gen x, true) (List.mem_of_getElem? hb)
  have hlen : (A.back x).g.length = A.g.length := List.length_set ..
  refine v2 (rd_of_own b3') (rd_of_own q3') ?_
  refine Both.dec (fun hm => ?_) (fun hm => ?_)
  rotate_left
  · refine vs ?_
    have hwt : (A.back x).wt = A.wt := by show (if A.gen x < A.mo then _ else _) = _; rw [if_neg (by omega)]
    refine ⟨rfl, B.fo, ⟨⟨tv1, by rw [hlen]; exact q3', by rw [hwt]; exact s3'⟩, q2'', m.ne, by rw [hlen]; exact hgl, hok, hgs, m.mo⟩, e13, fun z hz => .inl hz⟩
  have hwt : (A.back x).wt = A.wt ++ [x] := by show (if A.gen x < A.mo then _ else _) = _; rw [if_pos (by omega)]
  have hwl := m.wtl.1
  obtain ⟨ta, tc, rfl⟩ := Sl.shape s3'
  refine vs ?_
  refine InvV.intro (fun H' => True) trivial ?_
  refine vs ?_
  have hbs : H.size < H3.size := own_lt b3'
  have has : B.a < H3.size := own_lt q3'
  have fin : ∀ (K : Value → Hp → Prop), (∀ w' H4 fp', Sl H4 1 w' (A.wt ++ [x]).length ((A.wt ++ [x]).map i64) fp' → (fp' = B.fo ∨ ∃ z, fp' = some z ∧ H3.size ≤ z ∧ z < H4.size) → Ext (fun z => B.fo = some z) H3 H4 → K w' H4) →
      AppendV 3 1 8 [i64 0] (.slice ta A.wt.length tc) (.slice (some ⟨H3.size, 0, none⟩) 1 1) (H3.new 3 [i64 x]) K := fun K hK => by
    exact pushK s3' x (by omega) fun w' H' fp' h1 h2 h3 => hK w' H' fp' h2 h1 h3
  refine Two.intro ?C ?D
  case' C =>
    refine v2 (rd_of_own q3') (rd_of_own b3') ?_
  case' D =>
    refine v2 (rd_of_own q3') (rd_of_own b3') ?_
    refine Two.intro ?E ?F
    case' E =>
      refine v2 (rd_of_own q3') (rd_of_own b3') ?_
    case' F =>
      refine v2 (rd_of_own q3') (rd_of_own b3') ?_
  all_goals
    refine fin _ fun w' H4 fp' s4 hfp e4 => ?_
    obtain ⟨wa, wc, rfl⟩ := Sl.shape s4
    have o4 := e4.own q3' (fun e => m.ne.2.1 e)
    have q4 := e4.own q2'' (fun e => m.ne.2.2 e)
    refine v1 o4 ?_
    have e5 : ∀ l, Ext (fun z => z = B.a) H4 (H4.wr B.a l) := fun l => (Ext.refl (fun z => z = B.a) _).wr (fun _ => rfl) _
    have hs13 := e13.size
    refine ⟨rfl, fp', ⟨⟨_, by rw [hlen]; exact own_wr_same o4, ?_⟩, (e5 _).own q4 (Ne.symm m.ne.1), ⟨m.ne.1, fun h => ?_, fun h => ?_⟩, by rw [hlen]; exact hgl, hok, hgs, m.mo⟩, ?_, fun z hz => ?_⟩
    · rw [hwt]
      refine s4.ext (e5 _) (fun b hb e => ?_)
      rcases hfp with h | ⟨y, h, h2, _⟩
      · exact m.ne.2.1 (by rw [← h, hb, e])
      · rw [h] at hb; injection hb with hb; omega
    · rcases hfp with h2 | ⟨y, h2, h3, _⟩
      · exact m.ne.2.1 (by rw [← h2]; exact h)
      · rw [h2] at h; injection h with h; simp only at h; omega
    · rcases hfp with h2 | ⟨y, h2, h3, _⟩
      · exact m.ne.2.2 (by rw [← h2]; exact h)
      · have := own_lt q2''
        rw [h2] at h; injection h with h; simp only at h; omega
    · exact (e13.trans (e4.mono fun z _ h => .inr (.inr h))).trans ((e5 _).mono fun z _ h => .inl h)
    · rcases hfp with h2 | ⟨y, h2, h3, _⟩
      · exact .inl (by rw [← h2]; exact hz)
      · rw [h2] at hz; injection hz with hz; exact .inr (by omega)
end
end Go.Proofs.YtjlnnljohemifaaGreat

namespace Go.Proofs.YtjlnnljohemifaaGreat
open Go Go.Vc
def Nw.canPut (w : Nw) (g x : Int) : Prop := w.has g ∧ (0 ≤ x ∧ x < w.cs.length) ∧ ¬ InC w.cs x
def Nw.canLower (w : Nw) (x k s : Int) : Prop := InC w.cs x ∧ ∀ y, w.cs[x.toNat]? = some y → ¬ lessE y.2.1 y.2.2 k s
def NxP (I : Hp → (Nat → Prop) → Nw → Prop) (S : Nat → Prop) (H H' : Hp) (w' : Nw) : Prop :=
  ∃ S' : Nat → Prop, I H' S' w' ∧ Ext S H H' ∧ ∀ z, S' z → S z ∨ H.size ≤ z
theorem NxP.same {I : Hp → (Nat → Prop) → Nw → Prop} {S : Nat → Prop} {H H' : Hp} {w' : Nw} (h : I H' S w') (e : Ext S H H') : NxP I S H H' w' := ⟨S, h, e, fun z hz => .inl hz⟩
structure NestP (ov : Value) (I : Hp → (Nat → Prop) → Nw → Prop) : Prop where
  slt : ∀ {H S w}, I H S w → ∀ z, S z → z < H.size
  ext : ∀ {H H' S w} {T : Nat → Prop}, I H S w → Ext T H H' → (∀ z, S z → ¬ T z) → I H' S w
  cells : ∀ {H S w}, I H S w → ∃ c C, CQ H c C w
  has : ∀ {H S w} (g : Int), I H S w → InvH Tryz.prog ov "Has" [i64 g] H fun v H' => v = .bool (decide (w.has g)) ∧ H = H'
  make : ∀ {H S w}, I H S w → InvH Tryz.prog ov "Make" [] H fun v H' =>
    (w.hs.length = 65537 ∧ v = i64 0 ∧ NxP I S H H' w) ∨ (w.hs.length ≠ 65537 ∧ v = i64 w.hs.length ∧ NxP I S H H' w.make)
  insert : ∀ {H S w} (g x k s : Int), I H S w → InvH Tryz.prog ov "Insert" [i64 g, i64 x, ent k s] H fun v H' =>
    (¬ w.canPut g x ∧ v = .bool false ∧ NxP I S H H' w) ∨ (w.canPut g x ∧ v = .bool true ∧ NxP I S H H' (w.put x (g, k, s)))
  min : ∀ {H S w} (g : Int), I H S w → InvH Tryz.prog ov "Min" [i64 g] H fun v H' =>
    (w.len g = 0 ∧ v = .tuple [i64 0, .bool false].toArray ∧ NxP I S H H' w) ∨ (∃ x, w.first g x ∧ v = .tuple [i64 x, .bool true].toArray ∧ NxP I S H H' w)
  extract : ∀ {H S w} (g : Int), I H S w → InvH Tryz.prog ov "Extract" [i64 g] H fun v H' =>
    (w.len g = 0 ∧ v = .tuple [i64 0, .bool false].toArray ∧ NxP I S H H' w) ∨ (∃ x, w.first g x ∧ v = .tuple [i64 x, .bool true].toArray ∧ NxP I S H H' (w.put x (0, 0, 0)))
  decrease : ∀ {H S w} (x k s : Int), I H S w → InvH Tryz.prog ov "Decrease" [i64 x, ent k s] H fun v H' =>
    (¬ w.canLower x k s ∧ v = .bool false ∧ NxP I S H H' w) ∨ (w.canLower x k s ∧ v = .bool true ∧ ∃ y, w.cs[x.toNat]? = some y ∧ NxP I S H H' (w.put x (y.1, k, s)))
  entry : ∀ {H S w} (x : Int), I H S w → InvH Tryz.prog ov "Entry" [i64 x] H fun v H' => I H' S w ∧ Fresh H H' ∧
    ((¬ InC w.cs x ∧ v = .tuple [ent 0 0, .bool false].toArray) ∨ (InC w.cs x ∧ ∃ y, w.cs[x.toNat]? = some y ∧ v = .tuple [ent y.2.1 y.2.2, .bool true].toArray))
structure Lnk (w : Nw) (A : Ar) : Prop where
  len : w.cs.length = A.g.length
  live : ∀ x, InC w.cs x ↔ A.live x
def StM (H : Hp) (s : Nat) (S : Nat → Prop) (w : Nw) (A : Ar) (q : Int) : Prop := ∃ (t : TypeId) (vv : Value) (I : Hp → (Nat → Prop) → Nw → Prop) (Sn : Nat → Prop) (B : ArB) (k d : Int),
  NestP (.iface t vv) I ∧ I H Sn w ∧ ArM H B A ∧ H.own s = some [i64 k, i64 d, ptr B.a, .iface t vv, u64 q] ∧ (∀ z, Sn z → ¬ B.S z ∧ z ≠ s) ∧ ¬ B.S s ∧ (∀ z, S z ↔ Sn z ∨ B.S z ∨ z = s) ∧ Lnk w A
theorem StM.slt {H : Hp} {s : Nat} {S : Nat → Prop} {w : Nw} {A : Ar} {q : Int} (h : StM H s S w A q) : ∀ z, S z → z < H.size := by
  obtain ⟨t, vv, I, Sn, B, k, d, n, hi, m, ho, d1, d2, hS, hl⟩ := h
  intro z hz
  rcases (hS z).1 hz with h | h | h
  · exact n.slt hi z h
  · exact m.slt z h
  · rw [h]; exact own_lt ho
theorem StM.ext {H H' : Hp} {s : Nat} {S T : Nat → Prop} {w : Nw} {A : Ar} {q : Int} (h : StM H s S w A q) (e : Ext T H H') (hd : ∀ z, S z → ¬ T z) : StM H' s S w A q := by
  obtain ⟨t, vv, I, Sn, B, k, d, n, hi, m, ho, d1, d2, hS, hl⟩ := h
  exact ⟨t, vv, I, Sn, B, k, d, n, n.ext hi e (fun z hz => hd z ((hS z).2 (.inl hz))), m.ext e (fun z hz => hd z ((hS z).2 (.inr (.inl hz)))), e.own ho (hd _ ((hS _).2 (.inr (.inr rfl)))), d1, d2, hS, hl⟩
theorem StM.lnk {H : Hp} {s : Nat} {S : Nat → Prop} {w : Nw} {A : Ar} {q : Int} (h : StM H s S w A q) : Lnk w A ∧ ArOk A ∧ A.g.length ≤ 65536 := by
  obtain ⟨t, vv, I, Sn, B, k, d, n, hi, m, ho, d1, d2, hS, hl⟩ := h
  exact ⟨hl, m.ok, m.len⟩
def StX (s : Nat) (S : Nat → Prop) (H H' : Hp) (w' : Nw) (A' : Ar) (q' : Int) : Prop := ∃ S', StM H' s S' w' A' q' ∧ Ext S H H' ∧ ∀ z, S' z → S z ∨ H.size ≤ z
section
variable {H H' : Hp} {s : Nat} {S : Nat → Prop} {w : Nw} {A : Ar} {q : Int}
theorem zst (H : Hp) (T : TypeId) (z l : List Value) : Fresh H ((H.new T z).wr H.size l) ∧ ((H.new T z).wr H.size l).own H.size = some l ∧ ((H.new T z).wr H.size l).size = H.size + 1 := by
  have f0 : Fresh H (H.new T z) := (Ext.refl _ _).new _ _
  have e1 : Ext (fun x => x = H.size) (H.new T z) ((H.new T z).wr H.size l) := (Ext.refl (fun x => x = H.size) _).wr (fun _ => rfl) _
  exact ⟨f0.then e1 (fun z hz => by omega), own_wr_same (own_new _ _ _), by rw [size_wr, size_new]⟩
theorem wst {H : Hp} {b : Nat} {l0 : List Value} (h : H.own b = some l0) (l : List Value) : Ext (fun x => x = b) H (H.wr b l) ∧ (H.wr b l).own b = some l := ⟨(Ext.refl (fun x => x = b) _).wr (fun _ => rfl) _, own_wr_same h⟩
theorem pq_NewHeap_spec (h : StM H s S w A q) (hl : w.hs.length < 65537) : CallH Tryz.prog n_pq_Store_NewHeap [ptr s] H fun v H' => Post (v = .tuple [i64 w.hs.length, i64 0].toArray ∧ StX s S H H' w.make A q) := by
  obtain ⟨t, vv, I, Sn, B, k, d, n, hi, m, ho, d1, d2, hS, hlk⟩ := h
  obtain ⟨c, C, cq⟩ := n.cells hi
  have hpos := cq.pos
  refine ccT d_pq_Store_NewHeap ⟨rfl, ?_⟩
  refine v2 s_pq_Store_NewHeap.eq_1 (rd_of_own ho) ?_
  refine (n.make hi).mono ?_
  rintro _ H1 (⟨h1, _⟩ | ⟨_, rfl, Sn', hi', e1, hs1⟩)
  · omega
  refine vs ?_
  refine Both.dec (fun hh => by omega) (fun _ => ?_)
  refine vs ?_
  have hsl := m.slt
  have hos := own_lt ho
  refine ⟨rfl, fun z => Sn' z ∨ B.S z ∨ z = s, ⟨t, vv, I, Sn', B, k, d, n, hi', m.ext e1 (fun z hz h => (d1 z h).1 hz), e1.own ho (fun h => (d1 _ h).2 rfl), fun z hz => ?_, d2, fun z => Iff.rfl, ⟨hlk.len, hlk.live⟩⟩, e1.mono fun z _ h => (hS z).2 (.inl h), fun z hz => ?_⟩
  · rcases hs1 z hz with h | h
    · exact d1 z h
    · exact ⟨fun h2 => by have := hsl z h2; omega, by omega⟩
  · rcases hz with h | h
    · rcases hs1 z h with h | h
      · exact .inl ((hS z).2 (.inl h))
      · exact .inr h
    · exact .inl ((hS z).2 (.inr h))
theorem Lnk.put {w : Nw} {A A' : Ar} (l : Lnk w A) {x : Int} (hx : 0 ≤ x ∧ x < A.g.length) {y : Ce} {v : Nat} (hg : A'.g = A.g.set x.toNat (v, decide (0 < y.1))) : Lnk (w.put x y) A' := by
  have hx2 : 0 ≤ x ∧ x < w.cs.length := by rw [l.len]; exact hx
  refine ⟨by rw [hg, List.length_set]; simp [Nw.put, l.len], fun z => ?_⟩
  by_cases h0 : 0 ≤ z
  · rw [Ar.live_set hx hg h0, ← hmW_inC, hmW_put hx2]
    by_cases e : z = x
    · rw [if_pos e, if_pos e]; simp
    · rw [if_neg e, if_neg e, hmW_inC]
      exact l.live z
  · exact ⟨fun h => absurd h.1 h0, fun h => absurd h.1 h0⟩
set_option maxRecDepth 100000 in
set_option maxHeartbeats 1000000 in
theorem pq_Insert_spec (h : StM H s S w A q) {g key : Int} (hg : w.has g) (hgen : ∀ x : Int, 0 ≤ x → x < A.g.length → A.gen x < 4294967295) (hq : 0 ≤ q ∧ q < 18446744073709551615) : CallH Tryz.prog n_pq_Store_Insert [ptr s, i64 g, i64 key] H fun v H' => Post (
    (A.pick = none ∧ v = .tuple [hnd 0 0, i64 32].toArray ∧ StX s S H H' w A q) ∨ (∃ x A', A.pick = some (x, A') ∧ v = .tuple [hnd x (A.gen x + 1), i64 0].toArray ∧ StX s S H H' (w.put x (g, key, q + 1)) (A'.out x) (q + 1))) := by
  have hslt := h.slt
  obtain ⟨t, vv, I, Sn, B, k, d, n, hi, m, ho, d1, d2, hS, hlk⟩ := h
  refine ccT d_pq_Store_Insert ⟨rfl, ?_⟩
  refine v1 s_pq_Store_Insert.eq_1 ?_
  have f0 : Fresh H (H.new 114 [Value.int .i64 0, Value.int .u32 0]) := (Ext.refl _ _).new _ _
  have b0 : (H.new 114 [Value.int .i64 0, Value.int .u32 0]).own H.size = some [Value.int .i64 0, Value.int .u32 0] := own_new _ _ _
  have z0 : (H.new 114 [Value.int .i64 0, Value.int .u32 0]).size = H.size + 1 := size_new _ _ _
  generalize H.new 114 [Value.int .i64 0, Value.int .u32 0] = H0 at *
  have m0 := m.ext f0 (fun _ _ h => h)
  have hi0 := n.ext hi f0 (fun _ _ h => h)
  have o0 := f0.own ho (fun h => h)
  have hne : ∀ z, S z → z ≠ H.size := fun z hz => by have := hslt z hz; omega
  refine v1 (rd_of_own o0) ?_
  refine (n.has g hi0).mono ?_
  rintro _ _ ⟨rfl, rfl⟩
  rw [decide_eq_true hg]
  refine v1 (rd_of_own o0) ?_
  refine (arena_Take_spec m0 hgen).mono ?_
  rintro _ H1 (⟨hp, rfl, m1, f1⟩ | ⟨x, A', hp, rfl, m1, e1⟩)
  · have b1 := f1.own b0 (fun h => h)
    refine vs ?_
    obtain ⟨f2, b2, z2⟩ := zst H1 114 [Value.int .i64 0, Value.int .u32 0] [i64 0, Value.int .u32 ((0 : Nat) : Int)]
    generalize (H1.new 114 [Value.int .i64 0, Value.int .u32 0]).wr H1.size [i64 0, Value.int .u32 ((0 : Nat) : Int)] = H2 at *
    have b3 := f2.own b1 (fun h => h)
    refine Both.dec (fun hh => by omega) (fun _ => ?_)
    refine v1 b3 ?_
    obtain ⟨e4, b4⟩ := wst b3 [Value.int .i64 0, Value.int .u32 0]
    refine v1 (rd_of_own b4) ?_
    have hse : Ext S H (H2.wr H.size [Value.int .i64 0, Value.int .u32 0]) := by
      have h1 := (f0.trans f1).trans f2
      exact (h1.then e4 (fun z hz => by omega)).mono fun _ _ h => h.elim
    refine .inl ⟨hp, rfl, S, ⟨t, vv, I, Sn, B, k, d, n, ?_, ?_, ?_, d1, d2, hS, hlk⟩, hse, fun z hz => .inl hz⟩
    · exact n.ext (n.ext (n.ext hi0 f1 (fun _ _ h => h)) f2 (fun _ _ h => h)) e4 (fun z hz => hne z ((hS z).2 (.inl hz)))
    · exact (m1.ext f2 (fun _ _ h => h)).ext e4 (fun z hz => hne z ((hS z).2 (.inr (.inl hz))))
    · exact e4.own (f2.own (f1.own o0 (fun h => h)) (fun h => h)) (hne s ((hS s).2 (.inr (.inr rfl))))
  · obtain ⟨hxr, hxl, _, _, hAg, _, _⟩ := Ar.pick_ok hp m.ok
    have b1 := e1.own b0 (fun h => hne _ ((hS _).2 (.inr (.inl h))) rfl)
    have o1 := e1.own o0 d2
    have hi1 := n.ext hi0 e1 (fun z hz => (d1 z hz).1)
    refine vs ?_
    obtain ⟨f2, b2, z2⟩ := zst H1 114 [Value.int .i64 0, Value.int .u32 0] [i64 x, Value.int .u32 ((A.gen x + 1 : Nat) : Int)]
    generalize (H1.new 114 [Value.int .i64 0, Value.int .u32 0]).wr H1.size [i64 x, Value.int .u32 ((A.gen x + 1 : Nat) : Int)] = H2 at *
    have b3 := f2.own b1 (fun h => h)
    have o2 := f2.own o1 (fun h => h)
    have hi2 := n.ext hi1 f2 (fun _ _ h => h)
    have m2 := m1.ext f2 (fun _ _ h => h)
    refine Both.dec (fun _ => ?_) (fun hh => absurd trivial hh)
    refine v2 (rd_of_own o2) o2 ?_
    rw [wrapU64 (n := q + 1) (by omega) (by omega)]
    obtain ⟨e4, o3⟩ := wst o2 [i64 k, i64 d, ptr B.a, .iface t vv, u64 (q + 1)]
    have hsz := own_lt o2
    have hz1 := e1.size
    have hsz0 := own_lt ho
    have b5 := e4.own b3 (fun e => hne s ((hS s).2 (.inr (.inr rfl))) e.symm)
    have b6 := e4.own b2 (fun e => by omega)
    have hi3 := n.ext hi2 e4 (fun z hz => (d1 z hz).2)
    have m3 := m2.ext e4 (fun z hz e => d2 (by rw [← e]; exact hz))
    generalize H2.wr s [i64 k, i64 d, ptr B.a, .iface t vv, u64 (q + 1)] = H3 at *
    refine v2 (rd_of_own o3) (rd_of_own b6) ?_
    refine (n.insert g x key (q + 1) hi3).mono ?_
    obtain ⟨c, C, cq⟩ := n.cells hi3
    have hxn : ¬ InC w.cs x := fun h => hxl ((hlk.live x).1 h)
    rintro _ H4 (⟨hno, _⟩ | ⟨_, rfl, Sn', hi4, e5, hs5⟩)
    · exact absurd ⟨hg, by rw [hlk.len]; exact hxr, hxn⟩ hno
    have hz4 := e4.size
    have hnn : ∀ z, H.size ≤ z → ¬ Sn z := fun z hz h => by have := hslt z ((hS z).2 (.inl h)); omega
    have b7 := e5.own b6 (hnn _ (by omega))
    have b8 := e5.own b5 (hnn _ (Nat.le_refl _))
    refine v2 (rd_of_own b7) b8 ?_
    obtain ⟨e9, b9⟩ := wst b8 [i64 x, Value.int .u32 ((A.gen x + 1 : Nat) : Int)]
    refine v1 (rd_of_own b9) ?_
    have o4 := e5.own o3 (fun h => (d1 _ h).2 rfl)
    have m4 := m3.ext e5 (fun z hz h => (d1 z h).1 hz)
    have hsl := m.slt
    have hz5 := e5.size
    have hBn : ∀ z, B.S z → z < H.size := hsl
    have hSn' : ∀ z, Sn' z → Sn z ∨ H.size < z := fun z hz => (hs5 z hz).imp_right fun h => by omega
    refine .inr ⟨x, A', hp, rfl, fun z => Sn' z ∨ B.S z ∨ z = s, ⟨t, vv, I, Sn', B, k, d, n, n.ext hi4 e9 (fun z hz e => ?_), m4.ext e9 (fun z hz e => ?_), e9.own o4 (hne s ((hS s).2 (.inr (.inr rfl)))), fun z hz => ?_, d2, fun z => Iff.rfl, ?_⟩, ?_, fun z hz => ?_⟩
    · rcases hSn' z hz with h | h
      · exact hnn z (by omega) h
      · omega
    · have := hBn z hz; omega
    · rcases hSn' z hz with h | h
      · exact d1 z h
      · exact ⟨fun h2 => by have := hBn z h2; omega, by omega⟩
    · refine hlk.put hxr (v := A.gen x + 1) ?_
      have hgx : A'.gen x = A.gen x := by unfold Ar.gen; rw [hAg]
      show A'.g.set x.toNat (A'.gen x + 1, true) = _
      rw [hgx, hAg]
      exact congrArg (fun b => A.g.set x.toNat (A.gen x + 1, b)) (decide_eq_true hg.1).symm
    · have h1 : Ext S H H3 := ((f0.mono fun _ _ h => h.elim).trans (e1.mono fun z _ h => (hS z).2 (.inr (.inl h)))).trans ((f2.mono fun _ _ h => h.elim).trans (e4.mono fun z _ h => (hS z).2 (.inr (.inr h))))
      have h2 := h1.trans (e5.mono fun z _ h => (hS z).2 (.inl h))
      exact ⟨Nat.le_trans h2.size e9.size, fun z hz hn => by rw [e9.keep z (Nat.lt_of_lt_of_le hz h2.size) (by omega), h2.keep z hz hn]⟩
    · rcases hz with h | h
      · rcases hSn' z h with h | h
        · exact .inl ((hS z).2 (.inl h))
        · exact .inr (by omega)
      · exact .inl ((hS z).2 (.inr h))
end
end Go.Proofs.YtjlnnljohemifaaGreat

namespace Go.Proofs.YtjlnnljohemifaaGreat
open Go Go.Vc
section
variable {H H' H1 H2 : Hp} {s : Nat} {S S1 : Nat → Prop} {w w2 : Nw} {A A2 : Ar} {q q2 : Int}
theorem first_live (l : Lnk w A) {g x : Int} (h : w.first g x) : A.live x := by
  obtain ⟨h1, h2, _⟩ := hmW_first.1 h
  exact (l.live x).1 (hmW_inC.1 (by omega))
set_option maxRecDepth 100000 in
theorem pq_first_spec (h : StM H s S w A q) {g : Int} (hg : w.has g) : CallH Tryz.prog n_pq_Store_first [ptr s, i64 g] H fun v H' => Post (
    (w.len g = 0 ∧ v = .tuple [hnd 0 0, i64 172].toArray ∧ StX s S H H' w A q) ∨ (∃ x, w.first g x ∧ v = .tuple [hnd x (A.gen x), i64 0].toArray ∧ StX s S H H' w A q)) := by
  have hslt := h.slt
  obtain ⟨t, vv, I, Sn, B, k, d, n, hi, m, ho, d1, d2, hS, hlk⟩ := h
  refine ccT d_pq_Store_first ⟨rfl, ?_⟩
  refine v1 s_pq_Store_first.eq_1 ?_
  have f0 : Fresh H (H.new 114 [Value.int .i64 0, Value.int .u32 0]) := (Ext.refl _ _).new _ _
  have b0 : (H.new 114 [Value.int .i64 0, Value.int .u32 0]).own H.size = some [Value.int .i64 0, Value.int .u32 0] := own_new _ _ _
  have z0 : (H.new 114 [Value.int .i64 0, Value.int .u32 0]).size = H.size + 1 := size_new _ _ _
  generalize H.new 114 [Value.int .i64 0, Value.int .u32 0] = H0 at *
  have m0 := m.ext f0 (fun _ _ h => h)
  have hi0 := n.ext hi f0 (fun _ _ h => h)
  have o0 := f0.own ho (fun h => h)
  have hnn : ∀ z, H.size ≤ z → ¬ Sn z := fun z hz h => by have := hslt z ((hS z).2 (.inl h)); omega
  have hBn : ∀ z, B.S z → z < H.size := m.slt
  have hos := own_lt ho
  refine v1 (rd_of_own o0) ?_
  refine (n.has g hi0).mono ?_
  rintro _ _ ⟨rfl, rfl⟩
  rw [decide_eq_true hg]
  refine v1 (rd_of_own o0) ?_
  refine (n.min g hi0).mono ?_
  have fin : ∀ (H1 H2 : Hp) (Sn' : Nat → Prop), I H1 Sn' w → Ext Sn H0 H1 → (∀ z, Sn' z → Sn z ∨ H0.size ≤ z) → Ext (fun z => z = H.size ∨ H1.size ≤ z) H1 H2 → StX s S H H2 w A q := fun H1 H2 Sn' hi1 e1 hs1 e2 => by
    have hz1 := e1.size
    have hz2 := e2.size
    refine ⟨fun z => Sn' z ∨ B.S z ∨ z = s, ⟨t, vv, I, Sn', B, k, d, n, n.ext hi1 e2 (fun z hz e => ?_), (m0.ext e1 (fun z hz h => (d1 z h).1 hz)).ext e2 (fun z hz e => ?_), e2.own (e1.own o0 (fun h => (d1 _ h).2 rfl)) (fun e => by omega), fun z hz => ?_, d2, fun z => Iff.rfl, hlk⟩, ?_, fun z hz => ?_⟩
    · rcases e with e | e
      · rcases hs1 z hz with h | h
        · exact hnn z (by omega) h
        · omega
      · have := n.slt hi1 z hz; omega
    · have := hBn z hz; omega
    · rcases hs1 z hz with h | h
      · exact d1 z h
      · exact ⟨fun h2 => by have := hBn z h2; omega, by omega⟩
    · have h1 : Ext S H H1 := (f0.mono fun _ _ h => h.elim).trans (e1.mono fun z _ h => (hS z).2 (.inl h))
      exact ⟨Nat.le_trans h1.size e2.size, fun z hz hn => by rw [e2.keep z (Nat.lt_of_lt_of_le hz h1.size) (by omega), h1.keep z hz hn]⟩
    · rcases hz with h | h
      · rcases hs1 z h with h | h
        · exact .inl ((hS z).2 (.inl h))
        · exact .inr (by omega)
      · exact .inl ((hS z).2 (.inr h))
  rintro _ H1 (⟨h0, rfl, Sn', hi1, e1, hs1⟩ | ⟨x, hx, rfl, Sn', hi1, e1, hs1⟩)
  · have b1 := e1.own b0 (hnn _ (Nat.le_refl _))
    refine v1 b1 ?_
    obtain ⟨e4, b4⟩ := wst b1 [Value.int .i64 0, Value.int .u32 0]
    refine v1 (rd_of_own b4) ?_
    exact .inl ⟨h0, rfl, fin H1 _ Sn' hi1 e1 hs1 (e4.mono fun z _ h => .inl h)⟩
  · have b1 := e1.own b0 (hnn _ (Nat.le_refl _))
    have o1 := e1.own o0 (fun h => (d1 _ h).2 rfl)
    have m1 := m0.ext e1 (fun z hz h => (d1 z h).1 hz)
    refine v1 (rd_of_own o1) ?_
    refine (arena_At_spec m1 (first_live hlk hx)).mono ?_
    rintro _ H2 ⟨rfl, f2⟩
    have b2 := f2.own b1 (fun h => h)
    refine vs ?_
    obtain ⟨f3, b3, z3⟩ := zst H2 114 [Value.int .i64 0, Value.int .u32 0] [i64 x, Value.int .u32 ((A.gen x : Nat) : Int)]
    generalize (H2.new 114 [Value.int .i64 0, Value.int .u32 0]).wr H2.size [i64 x, Value.int .u32 ((A.gen x : Nat) : Int)] = H3 at *
    have b5 := f3.own b2 (fun h => h)
    refine v2 (rd_of_own b3) b5 ?_
    obtain ⟨e4, b4⟩ := wst b5 [i64 x, Value.int .u32 ((A.gen x : Nat) : Int)]
    refine v1 (rd_of_own b4) ?_
    exact .inr ⟨x, hx, rfl, fin H1 _ Sn' hi1 e1 hs1 (((f2.trans f3).mono fun _ _ h => h.elim).trans (e4.mono fun z _ h => .inl h))⟩
set_option maxRecDepth 100000 in
theorem pq_entry_spec (h : StM H s S w A q) {x : Int} (hx : A.live x) : CallH Tryz.prog n_pq_Store_entry [ptr s, hnd x (A.gen x)] H fun v H' => Post (∃ y, w.cs[x.toNat]? = some y ∧ v = .tuple [ent y.2.1 y.2.2, i64 0].toArray ∧ StX s S H H' w A q) := by
  have hslt := h.slt
  obtain ⟨t, vv, I, Sn, B, k, d, n, hi, m, ho, d1, d2, hS, hlk⟩ := h
  refine ccT d_pq_Store_entry ⟨rfl, ?_⟩
  refine v1 s_pq_Store_entry.eq_1 ?_
  have f0 : Fresh H ((H.new 114 [i64 x, .int .u32 (A.gen x : Int)]).new 224 [Value.int .i64 0, Value.int .u64 0]) := ((Ext.refl _ _).new _ _).new _ _
  have b0 : ((H.new 114 [i64 x, .int .u32 (A.gen x : Int)]).new 224 [Value.int .i64 0, Value.int .u64 0]).own H.size = some [i64 x, .int .u32 (A.gen x : Int)] := by
    rw [own_new_lt (by simp only [size_new]; omega), own_new]
  have c0 : ((H.new 114 [i64 x, .int .u32 (A.gen x : Int)]).new 224 [Value.int .i64 0, Value.int .u64 0]).own (H.size + 1) = some [Value.int .i64 0, Value.int .u64 0] := own_new_eq (by simp only [size_new])
  have z0 : ((H.new 114 [i64 x, .int .u32 (A.gen x : Int)]).new 224 [Value.int .i64 0, Value.int .u64 0]).size = H.size + 1 + 1 := by simp only [size_new]
  generalize (H.new 114 [i64 x, .int .u32 (A.gen x : Int)]).new 224 [Value.int .i64 0, Value.int .u64 0] = H0 at *
  have m0 := m.ext f0 (fun _ _ h => h)
  have hi0 := n.ext hi f0 (fun _ _ h => h)
  have o0 := f0.own ho (fun h => h)
  have hnn : ∀ z, H.size ≤ z → ¬ Sn z := fun z hz h => by have := hslt z ((hS z).2 (.inl h)); omega
  have hBn : ∀ z, B.S z → z < H.size := m.slt
  have hos := own_lt ho
  refine v2 (rd_of_own o0) (rd_of_own b0) ?_
  refine (arena_Live_spec m0 x (A.gen x)).mono ?_
  rintro _ H1 ⟨rfl, f1⟩
  rw [decide_eq_true ⟨hx, rfl⟩]
  have m1 := m0.ext f1 (fun _ _ h => h)
  have hi1 := n.ext hi0 f1 (fun _ _ h => h)
  have o1 := f1.own o0 (fun h => h)
  have b1 := f1.own b0 (fun h => h)
  have c1 := f1.own c0 (fun h => h)
  have z1 := f1.size
  have hin : InC w.cs x := (hlk.live x).2 hx
  have fin : ∀ H2, I H2 Sn w → Ext (fun z => z = H.size + 1 ∨ H1.size ≤ z) H1 H2 → StX s S H H2 w A q := fun H2 hi2 e2 => by
    have h1 : Ext S H H1 := (f0.trans f1).mono fun _ _ h => h.elim
    refine ⟨S, ⟨t, vv, I, Sn, B, k, d, n, hi2, m1.ext e2 (fun z hz e => by have := hBn z hz; omega), e2.own o1 (fun e => by omega), d1, d2, hS, hlk⟩, ⟨Nat.le_trans h1.size e2.size, fun z hz hn => by rw [e2.keep z (Nat.lt_of_lt_of_le hz h1.size) (by omega), h1.keep z hz hn]⟩, fun z hz => .inl hz⟩
  refine vs ?_
  refine InvV.intro (fun H' => H'.own s = some [i64 k, i64 d, ptr B.a, .iface t vv, u64 q] ∧ H'.own H.size = some [i64 x, .int .u32 (A.gen x : Int)]) ⟨o1, b1⟩ ?_
  refine vs ?_
  refine StbV.intro (.iface t vv) (fun H' hI => by refine v1 (rd_of_own hI.1) ?_; trivial) ?_
  refine vs ?_
  refine StbV.intro (i64 x) (fun H' hI => by refine v1 (rd_of_own hI.2) ?_; trivial) ?_
  refine vs ?_
  refine Two.intro ?_ ?_
  · refine vs ?_
    refine (n.entry x hi1).mono ?_
    rintro _ H2 ⟨hi2, f2, ⟨hno, _⟩ | ⟨_, y, hy, rfl⟩⟩
    · exact absurd hin hno
    have o2 := f2.own o1 (fun h => h)
    have b2 := f2.own b1 (fun h => h)
    have c2 := f2.own c1 (fun h => h)
    have z2 := f2.size
    refine And.intro ⟨o2, b2⟩ ?_
    refine vs ?_
    refine And.intro ⟨o2, b2⟩ ?_
    refine vs ?_
    refine And.intro ⟨o2, b2⟩ ?_
    refine vs ?_
    obtain ⟨f3, b3, z3⟩ := zst H2 224 [Value.int .i64 0, Value.int .u64 0] [i64 y.2.1, u64 y.2.2]
    generalize (H2.new 224 [Value.int .i64 0, Value.int .u64 0]).wr H2.size [i64 y.2.1, u64 y.2.2] = H3 at *
    have c3 := f3.own c2 (fun h => h)
    refine v2 (rd_of_own b3) c3 ?_
    obtain ⟨e4, b4⟩ := wst c3 [i64 y.2.1, u64 y.2.2]
    refine v1 (rd_of_own b4) ?_
    exact ⟨y, hy, rfl, fin _ (n.ext (n.ext hi2 f3 (fun _ _ h => h)) e4 (fun z hz e => hnn z (by omega) hz)) (((f2.trans f3).mono fun _ _ h => h.elim).trans (e4.mono fun z _ h => .inl h))⟩
  · refine vs ?_
    refine And.intro ⟨o1, b1⟩ ?_
    have f4 : Fresh H1 (H1.new 224 [Value.int .i64 0, Value.int .u64 0]) := (Ext.refl _ _).new _ _
    have b4 : (H1.new 224 [Value.int .i64 0, Value.int .u64 0]).own H1.size = some [Value.int .i64 0, Value.int .u64 0] := own_new _ _ _
    have z4 : (H1.new 224 [Value.int .i64 0, Value.int .u64 0]).size = H1.size + 1 := size_new _ _ _
    generalize H1.new 224 [Value.int .i64 0, Value.int .u64 0] = H4 at *
    refine vs ?_
    refine (n.entry x (n.ext hi1 f4 (fun _ _ h => h))).mono ?_
    rintro _ H2 ⟨hi2, f2, ⟨hno, _⟩ | ⟨_, y, hy, rfl⟩⟩
    · exact absurd hin hno
    have o2 := f2.own (f4.own o1 (fun h => h)) (fun h => h)
    have b2 := f2.own (f4.own b1 (fun h => h)) (fun h => h)
    have c2 := f2.own (f4.own c1 (fun h => h)) (fun h => h)
    have b5 := f2.own b4 (fun h => h)
    have z2 := f2.size
    refine And.intro ⟨o2, b2⟩ ?_
    refine v1 b5 ?_
    obtain ⟨e6, b6⟩ := wst b5 [i64 y.2.1, u64 y.2.2]
    have o6 := e6.own o2 (fun e => by omega)
    have b26 := e6.own b2 (fun e => by omega)
    have c6 := e6.own c2 (fun e => by omega)
    have hn6 := n.ext hi2 e6 (fun z hz e => hnn z (by omega) hz)
    have e26 : Ext (fun z => z = H.size + 1 ∨ H1.size ≤ z) H1 (H2.wr H1.size [i64 y.2.1, u64 y.2.2]) := ((f4.trans f2).mono fun _ _ h => h.elim).trans (e6.mono fun z _ h => .inr (by omega))
    generalize H2.wr H1.size [i64 y.2.1, u64 y.2.2] = H6 at *
    first
      | refine And.intro ⟨o6, b26⟩ ?_
      | refine And.intro ⟨o2, b2⟩ ?_
    refine v2 (rd_of_own b6) c6 ?_
    obtain ⟨e7, b7⟩ := wst c6 [i64 y.2.1, u64 y.2.2]
    refine v1 (rd_of_own b7) ?_
    exact ⟨y, hy, rfl, fin _ (n.ext hn6 e7 (fun z hz e => hnn z (by omega) hz)) (e26.trans (e7.mono fun z _ h => .inl h))⟩
end
end Go.Proofs.YtjlnnljohemifaaGreat
