/-
  A tree of a forest's ways up, as it lies in memory.
-/
import Derived.Test.YtbnaicgmnadkgaaTree
import Derived.Test.YtbnaicgmnadkgaaCutQ
import Derived.Test.YtbnaicgmnadkgaaPush
import Derived.Test.YtbnaicgmnadkgaaNames
import Derived.Test.YtbnaicgmnadkgaaSll
set_option linter.unusedVariables false
set_option linter.unusedSimpArgs false
namespace Go.Proofs.Ytbnaicgmnadkgaa
open Go Go.Vc

/-- The first n of a row without end. -/
def ofF (n : Nat) (f : Nat → Int) : List Int := (List.range n).map f
theorem ofF_len (n : Nat) (f : Nat → Int) : (ofF n f).length = n := by unfold ofF; simp
theorem ofF_at {n i : Nat} (f : Nat → Int) (h : i < n) : (ofF n f)[i]? = some (f i) := by unfold ofF; rw [List.getElem?_map, List.getElem?_range h]; rfl
theorem ofF_set {n i : Nat} (f : Nat → Int) (x : Int) (h : i < n) : (ofF n f).set i x = ofF n (upd f i x) := by
  apply List.ext_getElem?
  intro k
  by_cases hk : k < n
  · rw [ofF_at _ hk]
    unfold upd
    by_cases hki : k = i
    · subst hki; rw [List.getElem?_set_self (by rw [ofF_len]; exact hk), if_pos rfl]
    · rw [List.getElem?_set_ne (Ne.symm hki), ofF_at _ hk, if_neg hki]
  · rw [List.getElem?_eq_none (by rw [List.length_set, ofF_len]; omega), List.getElem?_eq_none (by rw [ofF_len]; omega)]
theorem ofF_cell {n i : Nat} (f : Nat → Int) (h : i < n) : ((ofF n f).map i64)[i]? = some (i64 (f i)) := by rw [List.getElem?_map, ofF_at _ h]; rfl
theorem ofF_put {n i : Nat} (f : Nat → Int) (x : Int) (h : i < n) : ((ofF n f).map i64).set i (i64 x) = (ofF n (upd f i x)).map i64 := by rw [← List.map_set, ofF_set _ _ h]
theorem ofF_zero (n : Nat) : (ofF n (fun _ => 0)).map i64 = padZ [i64 0] n := by
  unfold ofF padZ
  induction n with
  | zero => rfl
  | succ n ih => rw [List.range_succ, List.map_append, List.map_append, ih, List.replicate_succ', List.flatten_append]; rfl

structure TreeAt (H : Hp) (B t bu bd bp n : Nat) (N : Int) (ev : Value) (up deep part : Nat → Int) : Prop where
  box : H.own t = some [i64 N, ev, .slice (some ⟨bu, 0, none⟩) n n, .slice (some ⟨bd, 0, none⟩) n n, .slice (some ⟨bp, 0, none⟩) n n]
  ups : H.own bu = some ((ofF n up).map i64)
  deeps : H.own bd = some ((ofF n deep).map i64)
  parts : H.own bp = some ((ofF n part).map i64)
  low : B ≤ t ∧ B ≤ bu ∧ B ≤ bd ∧ B ≤ bp
  ap : t ≠ bu ∧ t ≠ bd ∧ t ≠ bp ∧ bu ≠ bd ∧ bu ≠ bp ∧ bd ≠ bp

theorem TreeAt.lt {H : Hp} {B t bu bd bp n : Nat} {N : Int} {ev : Value} {up deep part : Nat → Int} (h : TreeAt H B t bu bd bp n N ev up deep part) : t < H.size ∧ bu < H.size ∧ bd < H.size ∧ bp < H.size :=
  ⟨own_lt h.box, own_lt h.ups, own_lt h.deeps, own_lt h.parts⟩

theorem TreeAt.ext {H H' : Hp} {B t bu bd bp n : Nat} {N : Int} {ev : Value} {up deep part : Nat → Int} {S : Nat → Prop} (h : TreeAt H B t bu bd bp n N ev up deep part) (e : Ext S H H') (hs : ¬ S t ∧ ¬ S bu ∧ ¬ S bd ∧ ¬ S bp) : TreeAt H' B t bu bd bp n N ev up deep part :=
  ⟨e.own h.box hs.1, e.own h.ups hs.2.1, e.own h.deeps hs.2.2.1, e.own h.parts hs.2.2.2, h.low, h.ap⟩
theorem TreeAt.fresh {H H' : Hp} {B t bu bd bp n : Nat} {N : Int} {ev : Value} {up deep part : Nat → Int} (h : TreeAt H B t bu bd bp n N ev up deep part) (e : Fresh H H') : TreeAt H' B t bu bd bp n N ev up deep part :=
  h.ext e ⟨fun h => h, fun h => h, fun h => h, fun h => h⟩

theorem TreeAt.setUp {H : Hp} {B t bu bd bp n : Nat} {N : Int} {ev : Value} {up deep part : Nat → Int} (h : TreeAt H B t bu bd bp n N ev up deep part) {i : Nat} (hi : i < n) (x : Int) : TreeAt (H.wr bu (((ofF n up).map i64).set i (i64 x))) B t bu bd bp n N ev (upd up i x) deep part := by
  obtain ⟨a1, a2, a3, a4, a5, a6⟩ := h.ap
  rw [ofF_put _ _ hi]
  exact ⟨by rw [own_wr_ne (by omega)]; exact h.box, own_wr_same h.ups, by rw [own_wr_ne (by omega)]; exact h.deeps, by rw [own_wr_ne (by omega)]; exact h.parts, h.low, h.ap⟩
theorem TreeAt.setDeep {H : Hp} {B t bu bd bp n : Nat} {N : Int} {ev : Value} {up deep part : Nat → Int} (h : TreeAt H B t bu bd bp n N ev up deep part) {i : Nat} (hi : i < n) (x : Int) : TreeAt (H.wr bd (((ofF n deep).map i64).set i (i64 x))) B t bu bd bp n N ev up (upd deep i x) part := by
  obtain ⟨a1, a2, a3, a4, a5, a6⟩ := h.ap
  rw [ofF_put _ _ hi]
  exact ⟨by rw [own_wr_ne (by omega)]; exact h.box, by rw [own_wr_ne (by omega)]; exact h.ups, own_wr_same h.deeps, by rw [own_wr_ne (by omega)]; exact h.parts, h.low, h.ap⟩
theorem TreeAt.setPart {H : Hp} {B t bu bd bp n : Nat} {N : Int} {ev : Value} {up deep part : Nat → Int} (h : TreeAt H B t bu bd bp n N ev up deep part) {i : Nat} (hi : i < n) (x : Int) : TreeAt (H.wr bp (((ofF n part).map i64).set i (i64 x))) B t bu bd bp n N ev up deep (upd part i x) := by
  obtain ⟨a1, a2, a3, a4, a5, a6⟩ := h.ap
  rw [ofF_put _ _ hi]
  exact ⟨by rw [own_wr_ne (by omega)]; exact h.box, by rw [own_wr_ne (by omega)]; exact h.ups, by rw [own_wr_ne (by omega)]; exact h.deeps, own_wr_same h.parts, h.low, h.ap⟩

/-- Three rows of nothing in whatever order, and the tree's own block. -/
theorem tree_made (H : Hp) (T1 T2 T3 T4 B : Nat) (hB : B ≤ H.size) (n : Nat) (N : Int) (ev : Value) (bu bd bp : Nat) (hu : bu = H.size ∨ bu = H.size + 1 ∨ bu = H.size + 2) (hd : bd = H.size ∨ bd = H.size + 1 ∨ bd = H.size + 2) (hp : bp = H.size ∨ bp = H.size + 1 ∨ bp = H.size + 2) (ap : bu ≠ bd ∧ bu ≠ bp ∧ bd ≠ bp) :
    TreeAt ((((H.new T1 (padZ [i64 0] n)).new T2 (padZ [i64 0] n)).new T3 (padZ [i64 0] n)).new T4 [i64 N, ev, .slice (some ⟨bu, 0, none⟩) n n, .slice (some ⟨bd, 0, none⟩) n n, .slice (some ⟨bp, 0, none⟩) n n]) B (H.size + 3) bu bd bp n N ev (fun _ => 0) (fun _ => 0) (fun _ => 0) ∧
      Fresh H ((((H.new T1 (padZ [i64 0] n)).new T2 (padZ [i64 0] n)).new T3 (padZ [i64 0] n)).new T4 [i64 N, ev, .slice (some ⟨bu, 0, none⟩) n n, .slice (some ⟨bd, 0, none⟩) n n, .slice (some ⟨bp, 0, none⟩) n n]) := by
  have fr : ∀ (H : Hp) T l, Fresh H (H.new T l) := fun H T l => (Ext.refl _ _).new _ _
  have z1 : (H.new T1 (padZ [i64 0] n)).size = H.size + 1 := by rw [size_new]
  have z2 : ((H.new T1 (padZ [i64 0] n)).new T2 (padZ [i64 0] n)).size = H.size + 2 := by rw [size_new, size_new]
  have z3 : (((H.new T1 (padZ [i64 0] n)).new T2 (padZ [i64 0] n)).new T3 (padZ [i64 0] n)).size = H.size + 3 := by rw [size_new, size_new, size_new]
  have o1 := (((fr _ T2 _).trans (fr _ T3 _)).trans (fr _ T4 [i64 N, ev, .slice (some ⟨bu, 0, none⟩) n n, .slice (some ⟨bd, 0, none⟩) n n, .slice (some ⟨bp, 0, none⟩) n n])).own (own_new H T1 (padZ [i64 0] n)) (fun h => h) (H' := ((((H.new T1 (padZ [i64 0] n)).new T2 (padZ [i64 0] n)).new T3 (padZ [i64 0] n)).new T4 _))
  have o2 := ((fr _ T3 _).trans (fr _ T4 [i64 N, ev, .slice (some ⟨bu, 0, none⟩) n n, .slice (some ⟨bd, 0, none⟩) n n, .slice (some ⟨bp, 0, none⟩) n n])).own (own_new (H.new T1 (padZ [i64 0] n)) T2 (padZ [i64 0] n)) (fun h => h) (H' := ((((H.new T1 (padZ [i64 0] n)).new T2 (padZ [i64 0] n)).new T3 (padZ [i64 0] n)).new T4 _))
  have o3 := (fr _ T4 [i64 N, ev, .slice (some ⟨bu, 0, none⟩) n n, .slice (some ⟨bd, 0, none⟩) n n, .slice (some ⟨bp, 0, none⟩) n n]).own (own_new ((H.new T1 (padZ [i64 0] n)).new T2 (padZ [i64 0] n)) T3 (padZ [i64 0] n)) (fun h => h)
  have o4 := own_new (((H.new T1 (padZ [i64 0] n)).new T2 (padZ [i64 0] n)).new T3 (padZ [i64 0] n)) T4 [i64 N, ev, .slice (some ⟨bu, 0, none⟩) n n, .slice (some ⟨bd, 0, none⟩) n n, .slice (some ⟨bp, 0, none⟩) n n]
  have ff := (((fr H T1 (padZ [i64 0] n)).trans (fr _ T2 (padZ [i64 0] n))).trans (fr _ T3 (padZ [i64 0] n))).trans (fr _ T4 [i64 N, ev, .slice (some ⟨bu, 0, none⟩) n n, .slice (some ⟨bd, 0, none⟩) n n, .slice (some ⟨bp, 0, none⟩) n n])
  rw [z1] at o2
  rw [z2] at o3
  rw [z3] at o4
  obtain ⟨a1, a2, a3⟩ := ap
  refine ⟨⟨o4, ?_, ?_, ?_, ⟨by omega, by omega, by omega, by omega⟩, ⟨by omega, by omega, by omega, a1, a2, a3⟩⟩, ff⟩ <;> rw [ofF_zero]
  · rcases hu with rfl | rfl | rfl <;> assumption
  · rcases hd with rfl | rfl | rfl <;> assumption
  · rcases hp with rfl | rfl | rfl <;> assumption

/-- One slice of them is longer by a number. -/
theorem Sll.push {H3 H4 H5 : Hp} {B b n : Nat} {xs : Nat → List Int} {fp : Nat → Option Nat} (h : Sll H3 B b n xs fp) {i : Nat} (hi : i < n) {svs : List Value} (hsv : H3.own b = some svs) (f4 : Fresh H3 H4) {x : Int} {v' : Value} {fp' : Option Nat}
    (s5 : Sl H5 1 v' ((xs i).length + 1) ((xs i).map i64 ++ [i64 x]) fp') (e5 : Ext (fun z => fp i = some z) H4 H5) (hfp' : fp' = fp i ∨ ∃ p, fp' = some p ∧ H4.size ≤ p ∧ p < H5.size) :
    H5.own b = some svs ∧ Ext (fun z => fp i = some z) H3 H5 ∧ Ext (fun z => fp i = some z ∨ z = b) H3 (H5.wr b (svs.set i v')) ∧ Sll (H5.wr b (svs.set i v')) B b n (putL xs i (xs i ++ [x])) (putO fp i fp') := by
  have h4 := h.fresh f4
  have ho4 := f4.own hsv (fun h => h)
  obtain ⟨k1, k2⟩ := h4.put hi (l := xs i ++ [x]) e5 (by rw [List.length_append, List.map_append]; exact s5) hfp' ho4
  have e35 : Ext (fun z => fp i = some z) H3 H5 := ⟨Nat.le_trans f4.size e5.size, fun z hz hn => (e5.keep z (Nat.lt_of_lt_of_le hz f4.size) hn).trans (f4.keep z hz (fun h => h))⟩
  refine ⟨k1, e35, (e35.mono fun z _ hz => .inl hz).trans ((Ext.refl (fun z => z = b) _).wr (fun _ => rfl) _ |>.mono fun z _ hz => .inr hz), k2⟩

/-- All slices' blocks lie below. -/
theorem Sll.fpLt {H : Hp} {B b n : Nat} {xs : Nat → List Int} {fp : Nat → Option Nat} (h : Sll H B b n xs fp) {i q : Nat} (hi : i < n) (hq : fp i = some q) : q < H.size := by
  obtain ⟨_, _, _, _, _, h5⟩ := h.get hi
  rw [hq] at h5
  exact Sl.lt h5

theorem Sl.less {H : Hp} {n c b : Nat} {xs : List Value} {x : Value} (h : Sl H 1 (.slice (some ⟨b, 0, none⟩) (n + 1) c) (n + 1) (xs ++ [x]) (some b)) : Sl H 1 (.slice (some ⟨b, 0, none⟩) n c) n xs (some b) := by
  obtain ⟨hl, l, c2, hs, ho, hc, hle, ht⟩ := h
  rw [List.length_append, List.length_singleton, Nat.mul_one] at hl
  injection hs with hs1 hs2 hs3
  subst hs3
  refine ⟨by omega, l, c, rfl, ho, by omega, by omega, ?_⟩
  have : l.take (n * 1) = (l.take ((n + 1) * 1)).take n := by rw [List.take_take]; congr 1; omega
  rw [this, ht, List.take_left' (by omega)]

def tI (l : List Nat) : List Int := l.map fun v : Nat => (v : Int)
theorem tI_len (l : List Nat) : (tI l).length = l.length := by unfold tI; simp
theorem tI_snoc (l : List Nat) (x : Nat) : tI (l ++ [x]) = tI l ++ [(x : Int)] := by unfold tI; simp

/-- How many vertices are still of no part. -/
def free : Nat → (Nat → Int) → Nat
  | 0, _ => 0
  | n + 1, p => free n p + if p n = -1 then 1 else 0
theorem free_le : ∀ (n : Nat) (p : Nat → Int), free n p ≤ n
  | 0, _ => Nat.le_refl _
  | n + 1, p => by have := free_le n p; unfold free; split <;> omega
theorem free_same : ∀ (n : Nat) (p : Nat → Int) (v : Nat) (x : Int), n ≤ v → free n (upd p v x) = free n p
  | 0, _, _, _, _ => rfl
  | n + 1, p, v, x, h => by
    unfold free
    rw [free_same n p v x (by omega)]
    unfold upd
    rw [if_neg (c := n = v) (by omega)]
theorem free_upd : ∀ (n : Nat) (p : Nat → Int) (v : Nat) (x : Int), v < n → p v = -1 → x ≠ -1 → free n (upd p v x) + 1 = free n p
  | 0, _, _, _, h, _, _ => absurd h (by omega)
  | n + 1, p, v, x, h, hp, hx => by
    unfold free
    by_cases hv : v = n
    · subst hv
      rw [free_same _ p _ x (Nat.le_refl _), hp, if_pos rfl]
      unfold upd
      rw [if_pos rfl, if_neg hx]
    · have ih := free_upd n p v x (by omega) hp hx
      have : upd p v x n = p n := by unfold upd; rw [if_neg (by omega)]
      rw [this]
      omega

theorem ofF_congr {n : Nat} {f g : Nat → Int} (h : ∀ v, v < n → f v = g v) : ofF n f = ofF n g := by
  unfold ofF
  exact List.map_congr_left fun v hv => h v (List.mem_range.1 hv)

theorem upd_nat (f : Nat → Nat) (k x : Nat) : upd (fun v => (f v : Int)) k (x : Int) = fun v => ((upd f k x v : Nat) : Int) := by
  funext v
  unfold upd
  split <;> rfl

structure St (H H' : Hp) (B0 B1 t bu bd bp b n : Nat) (N : Int) (ev : Value) (xs : Nat → List Int) (fp : Nat → Option Nat) (up deep part : Nat → Int) : Prop where
  fr : Fresh H H'
  g : H'.own H.size = some [i64 N, ev]
  rows : Sll H' B0 b n xs fp
  tree : TreeAt H' (H.size + 1) t bu bd bp n N ev up deep part
  lo : t < B0 ∧ bu < B0 ∧ bd < B0 ∧ bp < B0
  hi : B0 ≤ b ∧ b < B1 ∧ ∀ i q, i < n → fp i = some q → q < B1
  sz : B1 ≤ H'.size ∧ B0 ≤ B1

section
variable {H H' H'' : Hp} {B0 B1 t bu bd bp b n : Nat} {N : Int} {ev : Value} {xs : Nat → List Int} {fp : Nat → Option Nat} {up deep part : Nat → Int}

theorem St.off (h : St H H' B0 B1 t bu bd bp b n N ev xs fp up deep part) (z : Nat) (hz : H.size < z ∧ z < B0) (l : List Value) : Fresh H (H'.wr z l) ∧ (H'.wr z l).own H.size = some [i64 N, ev] ∧ Sll (H'.wr z l) B0 b n xs fp ∧ B1 ≤ (H'.wr z l).size := by
  have e : Ext (fun y => y = z) H' (H'.wr z l) := (Ext.refl (fun y => y = z) _).wr (fun _ => rfl) _
  refine ⟨h.fr.then e (fun y hy => by omega), e.own h.g (fun hh => by omega), h.rows.ext e (fun hh => by have := h.hi.1; omega) (fun i p hi hp hh => by have := (h.rows.low i hi p hp).1; omega), ?_⟩
  rw [size_wr]
  exact h.sz.1

theorem St.setUp (h : St H H' B0 B1 t bu bd bp b n N ev xs fp up deep part) {i : Nat} (hi : i < n) (x : Int) : St H (H'.wr bu (((ofF n up).map i64).set i (i64 x))) B0 B1 t bu bd bp b n N ev xs fp (upd up i x) deep part := by
  obtain ⟨a1, a2, a3, a4⟩ := h.off bu ⟨by have := h.tree.low; omega, h.lo.2.1⟩ (((ofF n up).map i64).set i (i64 x))
  exact ⟨a1, a2, a3, h.tree.setUp hi x, h.lo, h.hi, a4, h.sz.2⟩
theorem St.setDeep (h : St H H' B0 B1 t bu bd bp b n N ev xs fp up deep part) {i : Nat} (hi : i < n) (x : Int) : St H (H'.wr bd (((ofF n deep).map i64).set i (i64 x))) B0 B1 t bu bd bp b n N ev xs fp up (upd deep i x) part := by
  obtain ⟨a1, a2, a3, a4⟩ := h.off bd ⟨by have := h.tree.low; omega, h.lo.2.2.1⟩ (((ofF n deep).map i64).set i (i64 x))
  exact ⟨a1, a2, a3, h.tree.setDeep hi x, h.lo, h.hi, a4, h.sz.2⟩
theorem St.setPart (h : St H H' B0 B1 t bu bd bp b n N ev xs fp up deep part) {i : Nat} (hi : i < n) (x : Int) : St H (H'.wr bp (((ofF n part).map i64).set i (i64 x))) B0 B1 t bu bd bp b n N ev xs fp up deep (upd part i x) := by
  obtain ⟨a1, a2, a3, a4⟩ := h.off bp ⟨by have := h.tree.low; omega, h.lo.2.2.2⟩ (((ofF n part).map i64).set i (i64 x))
  exact ⟨a1, a2, a3, h.tree.setPart hi x, h.lo, h.hi, a4, h.sz.2⟩

theorem St.ext (h : St H H' B0 B1 t bu bd bp b n N ev xs fp up deep part) (e : Ext (fun z => B1 ≤ z) H' H'') : St H H'' B0 B1 t bu bd bp b n N ev xs fp up deep part := by
  have h1 := h.lo
  have h2 := h.hi
  have h3 := h.sz
  have h4 := h.tree.low
  exact ⟨h.fr.then e (fun z hz => by omega), e.own h.g (fun hh => by omega), h.rows.ext e (fun hh => by omega) (fun i p hi hp hh => by have := h2.2.2 i p hi hp; omega), h.tree.ext e ⟨by omega, by omega, by omega, by omega⟩, h1, h2, Nat.le_trans h3.1 e.size, h3.2⟩
end

end Go.Proofs.Ytbnaicgmnadkgaa
