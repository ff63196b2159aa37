/-
  Texts put behind each other by a program: SortF, CodeN, Alive27, CodePacks.
-/
import Derived.Test.YtbnaicgmnadkgaaK0
import Derived.Test.YtbnaicgmnadkgaaK14
import Derived.Test.YtbnaicgmnadkgaaK16
import Derived.Test.YtbnaicgmnadkgaaK17
import Derived.Shelf.SlSortCmp.Whole1
import Derived.Deep.RegionWith
/-
  slices.SortFunc of symbols by their lengths: the closure that compares, and the whole.
-/
set_option linter.unusedVariables false
set_option linter.unusedSimpArgs false
namespace Go.Proofs.Ytbnaicgmnadkgaa
open Go Go.Vc Go.Sort Go.RowKit

set_option maxHeartbeats 1000000 in
set_option maxRecDepth 100000 in
theorem or_run1 (g : Nat) (x : Int) (hx : ¬ x = 0) (w : World) (h0 : w.cell? ⟨g, 0, none⟩ = some (.int .i64 x)) :
    Calls Try.prog 54 #[.slice (some ⟨g, 0, none⟩) 2 2] w fun e w' => e = .returned (.int .i64 x) ∧ w' = w := by
  have mixed := Try.checked.mixed
  have t3 := Try.underlying3; have a3 := Try.isAgg3; have z3 := Try.sizeOf3; have v3 := Try.zeroValue3; have u3 := run_underlying Try.underlying3
  have t4 := Try.underlying4; have a4 := Try.isAgg4; have z4 := Try.sizeOf4; have v4 := Try.zeroValue4; have u4 := run_underlying Try.underlying4
  have t25 := Try.underlying25; have a25 := Try.isAgg25; have z25 := Try.sizeOf25; have v25 := Try.zeroValue25; have u25 := run_underlying Try.underlying25
  go_enter Try.func54, Try.ntmps54
  go_wp2
  refine wp_loop_rounds 1 ?_
  rw [rounds_succ]
  go_wp2
  go_ret
  exact ⟨rfl, rfl⟩

set_option maxHeartbeats 1000000 in
set_option maxRecDepth 100000 in
theorem or_run0 (g : Nat) (y : Int) (w : World) (h0 : w.cell? ⟨g, 0, none⟩ = some (.int .i64 0)) (h1 : w.cell? ⟨g, 1, none⟩ = some (.int .i64 y)) (hy : ¬ y = 0) :
    Calls Try.prog 54 #[.slice (some ⟨g, 0, none⟩) 2 2] w fun e w' => e = .returned (.int .i64 y) ∧ w' = w := by
  have mixed := Try.checked.mixed
  have t3 := Try.underlying3; have a3 := Try.isAgg3; have z3 := Try.sizeOf3; have v3 := Try.zeroValue3; have u3 := run_underlying Try.underlying3
  have t4 := Try.underlying4; have a4 := Try.isAgg4; have z4 := Try.sizeOf4; have v4 := Try.zeroValue4; have u4 := run_underlying Try.underlying4
  have t25 := Try.underlying25; have a25 := Try.isAgg25; have z25 := Try.sizeOf25; have v25 := Try.zeroValue25; have u25 := run_underlying Try.underlying25
  go_enter Try.func54, Try.ntmps54
  go_wp2
  refine wp_loop_rounds 2 ?_
  rw [rounds_succ]
  go_wp2
  rw [rounds_succ]
  go_wp2
  go_ret
  exact ⟨rfl, rfl⟩

set_option maxHeartbeats 1000000 in
set_option maxRecDepth 100000 in
theorem or_run00 (g : Nat) (w : World) (h0 : w.cell? ⟨g, 0, none⟩ = some (.int .i64 0)) (h1 : w.cell? ⟨g, 1, none⟩ = some (.int .i64 0)) :
    Calls Try.prog 54 #[.slice (some ⟨g, 0, none⟩) 2 2] w fun e w' => e = .returned (.int .i64 0) ∧ w' = w := by
  have mixed := Try.checked.mixed
  have t3 := Try.underlying3; have a3 := Try.isAgg3; have z3 := Try.sizeOf3; have v3 := Try.zeroValue3; have u3 := run_underlying Try.underlying3
  have t4 := Try.underlying4; have a4 := Try.isAgg4; have z4 := Try.sizeOf4; have v4 := Try.zeroValue4; have u4 := run_underlying Try.underlying4
  have t25 := Try.underlying25; have a25 := Try.isAgg25; have z25 := Try.sizeOf25; have v25 := Try.zeroValue25; have u25 := run_underlying Try.underlying25
  go_enter Try.func54, Try.ntmps54
  go_wp2
  refine wp_loop_rounds 3 ?_
  rw [rounds_succ]
  go_wp2
  rw [rounds_succ]
  go_wp2
  rw [rounds_succ]
  go_wp2
  go_ret
  exact ⟨rfl, rfl⟩

theorem cell_new0 (w : World) (a b : Value) (T : TypeId) : ((w.alloc (Obj.cells #[a, b] T)).drew).cell? ⟨w.heap.size, 0, none⟩ = some a := by
  show World.cell? (w.alloc (Obj.cells #[a, b] T)) ⟨w.heap.size, 0, none⟩ = some a
  unfold World.cell?
  have : (w.alloc (Obj.cells #[a, b] T)).heap[w.heap.size]? = some (Obj.cells #[a, b] T) := by
    show (w.heap.push _)[w.heap.size]? = _
    simp
  rw [this]
  rfl
theorem cell_new1 (w : World) (a b : Value) (T : TypeId) : ((w.alloc (Obj.cells #[a, b] T)).drew).cell? ⟨w.heap.size, 1, none⟩ = some b := by
  show World.cell? (w.alloc (Obj.cells #[a, b] T)) ⟨w.heap.size, 1, none⟩ = some b
  unfold World.cell?
  have : (w.alloc (Obj.cells #[a, b] T)).heap[w.heap.size]? = some (Obj.cells #[a, b] T) := by
    show (w.heap.push _)[w.heap.size]? = _
    simp
  rw [this]
  rfl

/-- The difference that counts. -/
def orI (x y : Int) : Int := if x = 0 then y else x
theorem or_run (g : Nat) (x y : Int) (w : World) (h0 : w.cell? ⟨g, 0, none⟩ = some (.int .i64 x)) (h1 : w.cell? ⟨g, 1, none⟩ = some (.int .i64 y)) :
    Calls Try.prog 54 #[.slice (some ⟨g, 0, none⟩) 2 2] w fun e w' => e = .returned (.int .i64 (orI x y)) ∧ w' = w := by
  unfold orI
  by_cases hx : x = 0
  · subst hx
    rw [if_pos rfl]
    by_cases hy : y = 0
    · subst hy
      exact or_run00 g w h0 h1
    · exact or_run0 g y w h0 h1 hy
  · rw [if_neg hx]
    exact or_run1 g x hx w h0

set_option maxHeartbeats 1000000 in
set_option maxRecDepth 100000 in
theorem new2_run (p bl o n c i k : Nat) (x y : Int) (w : World) (hp : w.cell? ⟨p, 0, none⟩ = some (.slice (some ⟨bl, o, none⟩) n c)) (hi : i < n) (hk : k < n) (hx : w.cell? ⟨bl, o + i, none⟩ = some (.int .i64 x)) (hy : w.cell? ⟨bl, o + k, none⟩ = some (.int .i64 y))
    (bx : 0 ≤ x ∧ x ≤ 1000) (by_ : 0 ≤ y ∧ y ≤ 1000) (hn : n ≤ 1000000) :
    Calls Try.prog 53 #[.int .i64 (i : Int), .int .i64 (k : Int), .pointer (some ⟨p, 0, none⟩)] w fun e w' => e = .returned (.int .i64 (orI (x - y) ((i : Int) - (k : Int)))) ∧ ∃ q os', w' = grow (w.drewN q) os' := by
  have mixed := Try.checked.mixed
  have t3 := Try.underlying3; have a3 := Try.isAgg3; have z3 := Try.sizeOf3; have v3 := Try.zeroValue3; have u3 := run_underlying Try.underlying3
  have t4 := Try.underlying4; have a4 := Try.isAgg4; have z4 := Try.sizeOf4; have v4 := Try.zeroValue4; have u4 := run_underlying Try.underlying4
  have t25 := Try.underlying25; have a25 := Try.isAgg25; have z25 := Try.sizeOf25; have v25 := Try.zeroValue25; have u25 := run_underlying Try.underlying25
  go_enter Try.func53, Try.ntmps53
  go_wp2
  have wx : IntKind.i64.wrap (x - y) = x - y := wrap64 (by omega) (by omega)
  have wk : IntKind.i64.wrap ((i : Int) - (k : Int)) = (i : Int) - (k : Int) := wrap64 (by omega) (by omega)
  go_region_with (go_at_call 54; refine (or_run _ (x - y) ((i : Int) - (k : Int)) _ (cell_new0 _ _ _ _) (cell_new1 _ _ _ _)).mono ?_; rintro e w' ⟨rfl, rfl⟩)
  all_goals go_wp2
  all_goals go_ret
  all_goals exact ⟨rfl, 1, #[_], by rw [alloc_eq_grow]; rfl⟩

/-! ### The whole, told of the heap -/

theorem putCells_gen {α : Type} [Inhabited α] (enc : α → Value) (d : List α) (l : List Value) (h : d.length ≤ l.length) : (putCells enc 0 d.toArray l.toArray).toList = d.map enc ++ l.drop d.length := by
  apply List.ext_getElem?
  intro k
  rw [Array.getElem?_toList]
  simp only [putCells, Array.getElem?_mapIdx, List.getElem?_toArray, List.size_toArray]
  by_cases h2 : k < d.length
  · rw [List.getElem?_append_left (by simp; omega), List.getElem?_map, List.getElem?_eq_getElem (by omega), List.getElem?_eq_getElem (by omega)]
    simp only [Option.map_some]
    rw [if_pos ⟨by omega, by omega⟩]
    congr 2
    simp [h2]
  · rw [List.getElem?_append_right (by simp; omega), List.getElem?_drop]
    simp only [List.length_map]
    rw [show d.length + (k - d.length) = k by omega]
    cases hk : l[k]? with
    | none => rfl
    | some x => simp; omega

def encF (n : Nat) (i : Fin n) : Value := .int .i64 ((i.val : Nat) : Int)
def cfF (l : List Nat) (n : Nat) (i k : Fin n) : Int := orI (((l.getD i.val 0 : Nat) : Int) - ((l.getD k.val 0 : Nat) : Int)) ((i.val : Int) - (k.val : Int))
theorem ltF_iff (l : List Nat) (n : Nat) (i k : Fin n) : ltOf (cfF l n) i k = true ↔ lexP l i.val k.val := by
  unfold ltOf cfF orI lexP
  rw [decide_eq_true_eq]
  split <;> omega

theorem swoF (l : List Nat) (n : Nat) : SWO (ltOf (cfF l n)) := by
  refine ⟨fun x => ?_, fun x y z h1 h2 => ?_, fun x y z h1 h2 => ?_⟩
  · rw [← Bool.not_eq_true, ltF_iff]
    unfold lexP; omega
  · rw [ltF_iff] at *
    unfold lexP at *; omega
  · rw [← Bool.not_eq_true, ltF_iff] at *
    unfold lexP at *; omega

theorem sortWorld_block {α : Type} [Inhabited α] (enc : α → Value) (w : World) (b m : Nat) (dk : Array α) (os : Array Obj) {z : Nat} (hz : z < w.heap.size) (hne : z ≠ b) : (sortWorld enc w b 0 m dk os).heap[z]? = w.heap[z]? := by
  show ((w.heap.modify b (onCells (putCells enc 0 dk))) ++ os)[z]? = _
  rw [Array.getElem?_append_left (by simpa using hz), Array.getElem?_modify, if_neg (fun e => hne e.symm)]

theorem cell_block {w w' : World} {b o : Nat} (h : w'.heap[b]? = w.heap[b]?) : w'.cell? ⟨b, o, none⟩ = w.cell? ⟨b, o, none⟩ := by
  unfold World.cell?
  rw [h]

set_option maxHeartbeats 1000000 in
theorem SortFunc_spec {H : Hp} {p b bl o lc c : Nat} {l : List Nat} (hn : 0 < l.length) (hn2 : l.length ≤ 1000000) (hb : ∀ x ∈ l, x ≤ 1000) (hp : H.own p = some [.slice (some ⟨bl, o, none⟩) l.length lc]) (hl : RdS H 1 (.slice (some ⟨bl, o, none⟩) l.length lc) l.length ((l.map fun (x : Nat) => (x : Int)).map i64)) (h1 : bl ≠ b) (h2 : p ≠ b)
    (s : Sl H 1 (.slice (some ⟨b, 0, none⟩) l.length c) l.length (((List.range l.length).map fun (x : Nat) => (x : Int)).map i64) (some b)) :
    CallH Try.prog n_slices_SortFunc_int_int [.slice (some ⟨b, 0, none⟩) l.length c, .func (.func n_code_New_2) #[] #[ptr p]] H fun v H' => Post (v = .tuple [].toArray ∧ ∃ od : List Nat, od.Perm (List.range l.length) ∧ od.Pairwise (lexP l) ∧ Sl H' 1 (.slice (some ⟨b, 0, none⟩) l.length c) l.length ((od.map fun (x : Nat) => (x : Int)).map i64) (some b) ∧ Ext (fun z => z = b) H H') := fun w hw => by
  haveI : Inhabited (Fin l.length) := ⟨⟨0, hn⟩⟩
  obtain ⟨hx, lb, c', hsv, ho, hc, hle, ht⟩ := s
  injection hsv with _ _ hcc
  subst hcc
  rw [Nat.mul_one] at ht hle
  obtain ⟨T, fr, hbk⟩ := own_parts ho
  have hd : ∀ j (hj : j < l.length), (Array.ofFn (n := l.length) (fun i => i))[j]! = ⟨j, hj⟩ := fun j hj => by simp [hj]
  have hsz : (Array.ofFn (n := l.length) (fun i => i)).size = l.length := by simp
  have hH : Holds (encF l.length) w b 0 (Array.ofFn (n := l.length) (fun i => i)) := fun j hj => by
    rw [hsz] at hj
    refine ⟨?_, frozen_of_own (by rw [hw]; exact ho) _⟩
    rw [cell_of_rd (l := lb) rfl (rd_of_own (by rw [hw]; exact ho))]
    simp only [Nat.zero_add]
    have : (((List.range l.length).map fun (x : Nat) => (x : Int)).map i64)[j]? = some (i64 (j : Int)) := by rw [List.getElem?_map, List.getElem?_map, List.getElem?_range hj]; rfl
    rw [← ht, List.getElem?_take, if_pos hj] at this
    rw [this, hd j hj]
    rfl
  have hnum : ∀ i (hi : i < l.length), bl < H.size ∧ ∃ ll, H.rd bl = some ll ∧ ll[o + i]? = some (i64 ((l.getD i 0 : Nat) : Int)) := fun i hi => by
    have hli : (l.map fun (x : Nat) => (x : Int))[i]? = some ((l.getD i 0 : Nat) : Int) := by rw [List.getElem?_map, List.getD_eq_getElem?_getD, List.getElem?_eq_getElem hi]; rfl
    have hl' := hl
    rw [show l.length = (l.map fun (x : Nat) => (x : Int)).length by simp] at hl'
    obtain ⟨_, b3, o3, ll, e3, hrd, hcell⟩ := RdS.num hl' hli
    injection e3 with e3
    injection e3 with e4 e5 _
    subst e4; subst e5
    exact ⟨rd_lt hrd, ll, hrd, hcell⟩
  have hbd : ∀ i (hi : i < l.length), l.getD i 0 ≤ 1000 := fun i hi => by
    rw [List.getD_eq_getElem?_getD, List.getElem?_eq_getElem hi]
    exact hb _ (List.getElem_mem hi)
  have hcmp : CmpLays1 Try.prog n_code_New_2 #[ptr p] (encF l.length) (cfF l l.length) b 0 (Array.ofFn (n := l.length) (fun i => i)).size w := by
    intro m os dk hs x y
    obtain ⟨hbs, ll, hrd, _⟩ := hnum x.val x.isLt
    have hps := own_lt hp
    have k1 := sortWorld_block (encF l.length) w b m dk os (z := p) (by rw [hw]; exact hps) h2
    have k2 := sortWorld_block (encF l.length) w b m dk os (z := bl) (by rw [hw]; exact hbs) h1
    have rdc : ∀ i (hi : i < l.length), (sortWorld (encF l.length) w b 0 m dk os).cell? ⟨bl, o + i, none⟩ = some (i64 ((l.getD i 0 : Nat) : Int)) := fun i hi => by
      obtain ⟨_, ll', hrd', hc'⟩ := hnum i hi
      rw [cell_block k2, cell_of_rd (l := ll') rfl (by rw [hw]; exact hrd')]
      exact hc'
    have hb1 := hbd x.val x.isLt
    have hb2 := hbd y.val y.isLt
    exact new2_run p bl o l.length lc x.val y.val _ _ (sortWorld (encF l.length) w b 0 m dk os)
      (by rw [cell_block k1, cell_of_rd (l := [.slice (some ⟨bl, o, none⟩) l.length lc]) rfl (rd_of_own (by rw [hw]; exact hp))]; rfl)
      x.isLt y.isLt (rdc x.val x.isLt) (rdc y.val y.isLt) (by omega) (by omega) hn2
  have key := Try.slices_SortFunc (encF l.length) (fun x => rfl) (cfF l l.length) (swoF l l.length) n_code_New_2 #[ptr p] b 0 c (Array.ofFn (n := l.length) (fun i => i)) w
    (fun args w => enters_of Try.func53 (by kernel_rfl) rfl args w) hcmp hH (by rw [hw]; exact own_lt ho) (by rw [hsz]; omega)
  rw [hsz] at key
  refine key.mono ?_
  rintro e w' ⟨rfl, d', n', os, hperm, hsort, rfl⟩
  obtain ⟨hds, _, hpm⟩ := hperm
  rw [hsz] at hds
  have hext : ∀ (d : Array (Fin l.length)), d.size = l.length → d.extract 0 l.length = d := fun d h => by
    have : d.extract 0 d.size = d := by simp
    rw [h] at this
    exact this
  rw [hext d' hds, hext _ hsz] at hpm
  have hr : (Array.ofFn (n := l.length) (fun i => i)).toList.map Fin.val = List.range l.length := by
    apply List.ext_getElem?
    intro k
    by_cases hk : k < l.length
    · rw [List.getElem?_range hk, List.getElem?_map, Array.getElem?_toList]
      simp [hk]
    · rw [List.getElem?_eq_none (by simp; omega), List.getElem?_eq_none (by simp; omega)]
  have hod := hpm.map Fin.val
  rw [hr] at hod
  have hodl : (d'.toList.map Fin.val).length = l.length := by rw [hod.length_eq, List.length_range]
  have hnd : (d'.toList.map Fin.val).Nodup := List.Nodup.perm List.nodup_range hod.symm
  have hget : ∀ i (hi : i < l.length), (d'.toList.map Fin.val)[i]'(by omega) = (d'[i]!).val := fun i hi => by simp [hds, hi]
  have hlt := own_lt ho
  have hheap : (sortWorld (encF l.length) w b 0 n' d' os).heap = (H.modify b (onCells (putCells (encF l.length) 0 d'))) ++ os := by rw [← hw]; rfl
  have hput := putCells_gen (encF l.length) d'.toList lb (by simp [hds]; omega)
  have hdt : d'.toList.toArray = d' := by simp
  rw [hdt] at hput
  have hgetb : ((H.modify b (onCells (putCells (encF l.length) 0 d'))) ++ os)[b]? = some (.cells (putCells (encF l.length) 0 d' lb.toArray) T fr) := by
    rw [Array.getElem?_append_left (by simpa using hlt), Array.getElem?_modify, if_pos rfl, hbk]
    rfl
  refine ⟨_, rfl, ⟨rfl, rfl⟩, rfl, d'.toList.map Fin.val, hod, ?_, ⟨by simp [hds], d'.toList.map (encF l.length) ++ lb.drop d'.toList.length, c, rfl, ?_, hc, ?_, ?_⟩, ?_⟩
  · rw [List.pairwise_iff_getElem]
    intro i j hi hj hij
    rw [hodl] at hi hj
    have h3 := hsort i j (Nat.zero_le _) hij hj
    rw [← Bool.not_eq_true, ltF_iff, ← hget i hi, ← hget j hj] at h3
    have hne : (d'.toList.map Fin.val)[i]'(by omega) ≠ (d'.toList.map Fin.val)[j]'(by omega) := fun e => by
      have := (List.nodup_iff_pairwise_ne.1 hnd)
      exact List.pairwise_iff_getElem.1 this i j (by omega) (by omega) hij e
    unfold lexP at h3 ⊢
    omega
  · show Hp.own (sortWorld (encF l.length) w b 0 n' d' os).heap b = _
    rw [hheap, ← hput]
    unfold Hp.own at ho ⊢
    rw [hbk] at ho
    rw [hgetb]
    simp only at ho ⊢
    split at ho
    · rename_i hf
      simp only [hf, if_true]
    · cases ho
  · simp [hds]; omega
  · rw [Nat.mul_one, List.take_left' (by simp [hds]), List.map_map, List.map_map]
    rfl
  · refine ⟨?_, fun k hk hnn => ?_⟩
    · show _ ≤ (sortWorld (encF l.length) w b 0 n' d' os).heap.size
      rw [hheap]; simp
    · show (sortWorld (encF l.length) w b 0 n' d' os).heap[k]? = _
      rw [hheap, Array.getElem?_append_left (by simpa using hk), Array.getElem?_modify, if_neg (fun e => hnn (by rw [e]))]

end Go.Proofs.Ytbnaicgmnadkgaa

/-
  The package code: a code of lengths: the program's way.
-/
set_option linter.unusedVariables false
set_option linter.unusedSimpArgs false
namespace Go.Proofs.Ytbnaicgmnadkgaa
open Go Go.Vc

theorem code_New_1_spec (H : Hp) (x : Int) : CallH Try.prog n_code_New_1 [i64 x] H fun v H' => Post (v = .bool (decide (x < 1 ∨ 128 < x)) ∧ H' = H) := by
  refine c_code_New_1 ⟨rfl, ?_⟩
  simp (disch := (first | omega | (simp only [size_new, size_newm, size_wr, size_wrm] <;> omega) | fail)) only [go_sem, Nat.reduceBEq, Nat.reduceAdd, Nat.reduceMul, Nat.reduceLeDiff, ↓reduceIte, rd_new_lt, own_new_lt, mp_new_lt, rd_newm_lt, own_newm_lt, mp_newm_lt, rd_wr_ne, own_wr_ne, mp_wr_ne, rd_wrm_ne, own_wrm_ne, mp_wrm_ne, rd_new_eq, own_new_eq, mp_newm_eq, s_code_New_1]
  refine Both.dec (fun h => ?_) (fun h => ?_) <;> simp (disch := (first | omega | (simp only [size_new, size_newm, size_wr, size_wrm] <;> omega) | fail)) only [go_sem, Nat.reduceBEq, Nat.reduceAdd, Nat.reduceMul, Nat.reduceLeDiff, ↓reduceIte, rd_new_lt, own_new_lt, mp_new_lt, rd_newm_lt, own_newm_lt, mp_newm_lt, rd_wr_ne, own_wr_ne, mp_wr_ne, rd_wrm_ne, own_wrm_ne, mp_wrm_ne, rd_new_eq, own_new_eq, mp_newm_eq]
  · exact ⟨congrArg Value.bool (decide_eq_true (.inl h)).symm, rfl⟩
  · exact ⟨congrArg Value.bool (by rw [decide_eq_decide]; omega), rfl⟩

/-- The words of lengths. -/
abbrev wordsC (l : List Int) : List (List Bool) := (wordsF (l.map Int.toNat) (ordR (l.map Int.toNat))).2

theorem toNat_cast {l : List Int} (h : ∀ x ∈ l, 1 ≤ x ∧ x ≤ 128) : (l.map Int.toNat).map (fun (x : Nat) => (x : Int)) = l := by
  rw [List.map_map]
  refine (List.map_congr_left fun x hx => ?_).trans (List.map_id _)
  have := h x hx
  simp only [Function.comp_apply, id_eq]
  omega

theorem rightL_of {l : List Int} (h : RightC l) : RightL (l.map Int.toNat) := by
  refine ⟨fun n hn => ?_, ?_⟩
  · obtain ⟨x, hx, rfl⟩ := List.mem_map.1 hn
    have := h.low x hx
    omega
  · have hr := h.room
    have e : krN l = l.map Int.toNat := by
      unfold krN
      apply List.map_congr_left
      intro x hx
      have := h.low x hx
      unfold one1
      omega
    rw [e] at hr
    unfold krS at hr
    split at hr
    · omega
    · split at hr
      · omega
      · omega

theorem CodeM.setW {H : Hp} {x wb tb : Nat} {ws : List (List Bool)} {tr : List Lf} (h : CodeM H x wb tb ws tr) (s : Nat) (w : List Bool) : CodeM (H.wr wb ((ws.map strB).set s (strB w))) x wb tb (ws.set s w) tr := by
  obtain ⟨n1, n2, n3⟩ := h.ne
  obtain ⟨tv, h1, h2⟩ := h.rep
  have e : Ext (fun z => z = wb) H (H.wr wb ((ws.map strB).set s (strB w))) := (Ext.refl (fun z => z = wb) _).wr (fun _ => rfl) _
  refine ⟨⟨tv, by rw [List.length_set]; exact e.own h1 n1, h2.ext e (fun b hb hz => by injection hb with hb; omega)⟩, ?_, h.ne⟩
  rw [List.map_set]
  exact own_wr_same h.words

theorem bytesOf_bits (w : List Bool) : Go.Vc.bytesOf (w.map bv) = some (w.map bt) := by
  rw [← bits_cells, bytesOf_u8s, List.map_map]
  congr 1
  refine (List.map_congr_left fun c _ => ?_).trans (List.map_id _)
  simp

theorem fill_set (n j : Nat) (hj : j < n) : ((((List.range j).map fun (x : Nat) => (x : Int)) ++ List.replicate (n - j) (0 : Int)).map i64).set j (i64 (j : Int)) = ((((List.range (j + 1)).map fun (x : Nat) => (x : Int)) ++ List.replicate (n - (j + 1)) (0 : Int)).map i64) := by
  rw [← List.map_set, List.set_append_right _ _ (by simp)]
  rw [show j - ((List.range j).map fun (x : Nat) => (x : Int)).length = 0 by simp, show n - j = (n - (j + 1)) + 1 by omega, List.replicate_succ, List.set_cons_zero, List.range_succ]
  simp
theorem padZ_int (n : Nat) : padZ [Value.int .i64 0] n = (List.replicate n (0 : Int)).map i64 := by
  unfold padZ
  induction n with
  | zero => rfl
  | succ n ih => rw [List.replicate_succ, List.flatten_cons, ih, List.replicate_succ]; rfl

/-- What the first symbols have got. -/
def stC (lN od : List Nat) (j : Nat) : List Bool × List (List Bool) := (od.take j).foldl (stepW lN) ([], List.replicate lN.length [])
theorem stC_succ {lN od : List Nat} {j s : Nat} (h : od[j]? = some s) : stC lN od (j + 1) = stepW lN (stC lN od j) s := by
  unfold stC
  rw [List.take_add_one, h, List.foldl_append]
  rfl
theorem stC_len (lN od : List Nat) (j : Nat) : (stC lN od j).2.length = lN.length := by
  unfold stC
  rw [foldS_len, List.length_replicate]
theorem stC_last {lN od : List Nat} (h : ∀ n ∈ lN, 1 ≤ n ∧ n ≤ 128) : ∀ j, (stC lN od j).1.length ≤ 128 := by
  intro j
  induction j with
  | zero => exact Nat.zero_le _
  | succ j ih =>
    cases hs : od[j]? with
    | none =>
      have hl := List.getElem?_eq_none_iff.1 hs
      have : stC lN od (j + 1) = stC lN od j := by unfold stC; rw [List.take_of_length_le (by omega), List.take_of_length_le (by omega)]
      rw [this]; exact ih
    | some s =>
      rw [stC_succ hs]
      show (padB (lN.getD s 0) (incB (stC lN od j).1)).length ≤ 128
      unfold padB
      rw [List.length_append, List.length_replicate, incB_len]
      have : lN.getD s 0 ≤ 128 := by
        rw [List.getD_eq_getElem?_getD]
        cases hg : lN[s]? with
        | none => exact Nat.zero_le _
        | some v => exact (h v (List.mem_of_getElem? hg)).2
      omega

set_option maxRecDepth 100000 in
set_option maxHeartbeats 8000000 in
theorem code_New_spec {H : Hp} {a : Option Addr} {c : Nat} {l : List Int} (h : RdS H 1 (.slice a l.length c) l.length (l.map i64)) (hl : l.length ≤ 9223372036854775807) :
    CallH Try.prog n_code_New [.slice a l.length c] H fun v H' => Post (Fresh H H' ∧
      ((¬ RightC l ∧ v = .tuple [.pointer none, i64 201].toArray) ∨ (RightC l ∧ ∃ x S, v = .tuple [ptr x, i64 0].toArray ∧ CodeW H' x S (wordsC l) ∧ ∀ z, S z → H.size ≤ z))) := by
  refine c_code_New ⟨rfl, ?_⟩
  simp (disch := (first | omega | (simp only [size_new, size_newm, size_wr, size_wrm] <;> omega) | fail)) only [go_sem, Nat.reduceBEq, Nat.reduceAdd, Nat.reduceMul, Nat.reduceLeDiff, ↓reduceIte, rd_new_lt, own_new_lt, mp_new_lt, rd_newm_lt, own_newm_lt, mp_newm_lt, rd_wr_ne, own_wr_ne, mp_wr_ne, rd_wrm_ne, own_wrm_ne, mp_wrm_ne, rd_new_eq, own_new_eq, mp_newm_eq, s_code_New]
  have f0 : Fresh H (H.new 25 [.slice a l.length c]) := (Ext.refl _ _).new _ _
  have o0 : (H.new 25 [.slice a l.length c]).own H.size = some [.slice a l.length c] := own_new _ _ _
  generalize H.new 25 [.slice a l.length c] = H0 at *
  have h0 := h.fresh f0
  refine Both.dec (fun g1 => ?_) (fun g1 => ?_) <;> simp (disch := (first | omega | (simp only [size_new, size_newm, size_wr, size_wrm] <;> omega) | fail)) only [go_sem, Nat.reduceBEq, Nat.reduceAdd, Nat.reduceMul, Nat.reduceLeDiff, ↓reduceIte, rd_new_lt, own_new_lt, mp_new_lt, rd_newm_lt, own_newm_lt, mp_newm_lt, rd_wr_ne, own_wr_ne, mp_wr_ne, rd_wrm_ne, own_wrm_ne, mp_wrm_ne, rd_new_eq, own_new_eq, mp_newm_eq, rd_of_own o0]
  · exact ⟨f0, .inl ⟨fun hr => by have := hr.len; omega, rfl⟩⟩
  refine Both.dec (fun g2 => ?_) (fun g2 => ?_) <;> simp (disch := (first | omega | (simp only [size_new, size_newm, size_wr, size_wrm] <;> omega) | fail)) only [go_sem, Nat.reduceBEq, Nat.reduceAdd, Nat.reduceMul, Nat.reduceLeDiff, ↓reduceIte, rd_new_lt, own_new_lt, mp_new_lt, rd_newm_lt, own_newm_lt, mp_newm_lt, rd_wr_ne, own_wr_ne, mp_wr_ne, rd_wrm_ne, own_wrm_ne, mp_wrm_ne, rd_new_eq, own_new_eq, mp_newm_eq, rd_of_own o0]
  · exact ⟨f0, .inl ⟨fun hr => by have := hr.len; omega, rfl⟩⟩
  refine (ContainsFuncI_spec n_code_New_1 [] (fun x => decide (x < 1 ∨ 128 < x)) (fun H' => H' = H0) rfl (fun H' hI => by rw [hI]; exact h0) (by kernel_rfl) (fun H' x _ hI => by rw [hI]; exact code_New_1_spec H0 x) (by omega)).mono ?_
  rintro _ _ ⟨rfl, rfl⟩
  simp (disch := (first | omega | (simp only [size_new, size_newm, size_wr, size_wrm] <;> omega) | fail)) only [go_sem, Nat.reduceBEq, Nat.reduceAdd, Nat.reduceMul, Nat.reduceLeDiff, ↓reduceIte, rd_new_lt, own_new_lt, mp_new_lt, rd_newm_lt, own_newm_lt, mp_newm_lt, rd_wr_ne, own_wr_ne, mp_wr_ne, rd_wrm_ne, own_wrm_ne, mp_wrm_ne, rd_new_eq, own_new_eq, mp_newm_eq]
  have hany : (l.any fun x => decide (x < 1 ∨ 128 < x)) = true ↔ ¬ ∀ x ∈ l, 1 ≤ x ∧ x ≤ 128 := by
    rw [List.any_eq_true]
    constructor
    · rintro ⟨x, hx, hd⟩ hall
      have := hall x hx
      have := of_decide_eq_true hd
      omega
    · intro hn
      apply Classical.byContradiction
      intro hno
      refine hn fun x hx => ?_
      apply Classical.byContradiction
      intro hx2
      exact hno ⟨x, hx, decide_eq_true (by omega)⟩
  cases hb : l.any fun x => decide (x < 1 ∨ 128 < x)
  rotate_left
  · simp (disch := (first | omega | (simp only [size_new, size_newm, size_wr, size_wrm] <;> omega) | fail)) only [go_sem, Nat.reduceBEq, Nat.reduceAdd, Nat.reduceMul, Nat.reduceLeDiff, ↓reduceIte, rd_new_lt, own_new_lt, mp_new_lt, rd_newm_lt, own_newm_lt, mp_newm_lt, rd_wr_ne, own_wr_ne, mp_wr_ne, rd_wrm_ne, own_wrm_ne, mp_wrm_ne, rd_new_eq, own_new_eq, mp_newm_eq]
    exact ⟨f0, .inl ⟨fun hr => hany.1 hb hr.low, rfl⟩⟩
  have hlow : ∀ x ∈ l, 1 ≤ x ∧ x ≤ 128 := Classical.byContradiction fun hn => by have := hany.2 hn; rw [hb] at this; cases this
  simp (disch := (first | omega | (simp only [size_new, size_newm, size_wr, size_wrm] <;> omega) | fail)) only [go_sem, Nat.reduceBEq, Nat.reduceAdd, Nat.reduceMul, Nat.reduceLeDiff, ↓reduceIte, rd_new_lt, own_new_lt, mp_new_lt, rd_newm_lt, own_newm_lt, mp_newm_lt, rd_wr_ne, own_wr_ne, mp_wr_ne, rd_wrm_ne, own_wrm_ne, mp_wrm_ne, rd_new_eq, own_new_eq, mp_newm_eq, rd_of_own o0]
  refine (lengths_Kraft_spec h0 (by omega) (krN_128 hlow) (by decide)).mono ?_
  rintro _ H1 ⟨rfl, f1⟩
  simp (disch := (first | omega | (simp only [size_new, size_newm, size_wr, size_wrm] <;> omega) | fail)) only [go_sem, Nat.reduceBEq, Nat.reduceAdd, Nat.reduceMul, Nat.reduceLeDiff, ↓reduceIte, rd_new_lt, own_new_lt, mp_new_lt, rd_newm_lt, own_newm_lt, mp_newm_lt, rd_wr_ne, own_wr_ne, mp_wr_ne, rd_wrm_ne, own_wrm_ne, mp_wrm_ne, rd_new_eq, own_new_eq, mp_newm_eq]
  refine Both.dec (fun g3 => ?_) (fun g3 => ?_) <;> simp (disch := (first | omega | (simp only [size_new, size_newm, size_wr, size_wrm] <;> omega) | fail)) only [go_sem, Nat.reduceBEq, Nat.reduceAdd, Nat.reduceMul, Nat.reduceLeDiff, ↓reduceIte, rd_new_lt, own_new_lt, mp_new_lt, rd_newm_lt, own_newm_lt, mp_newm_lt, rd_wr_ne, own_wr_ne, mp_wr_ne, rd_wrm_ne, own_wrm_ne, mp_wrm_ne, rd_new_eq, own_new_eq, mp_newm_eq]
  · exact ⟨f0.trans f1, .inl ⟨fun hr => by have := hr.room; omega, rfl⟩⟩
  have hR : RightC l := ⟨hlow, ⟨by omega, by omega⟩, by omega⟩
  have hRL := rightL_of hR
  have o1 := f1.own o0 (fun h => h)
  have h1 := h0.fresh f1
  have z0 := f0.size
  have z1 := f1.size
  have ho0 := own_lt o0
  simp (disch := (first | omega | (simp only [size_new, size_newm, size_wr, size_wrm] <;> omega) | fail)) only [go_sem, Nat.reduceBEq, Nat.reduceAdd, Nat.reduceMul, Nat.reduceLeDiff, ↓reduceIte, rd_new_lt, own_new_lt, mp_new_lt, rd_newm_lt, own_newm_lt, mp_newm_lt, rd_wr_ne, own_wr_ne, mp_wr_ne, rd_wrm_ne, own_wrm_ne, mp_wrm_ne, rd_new_eq, own_new_eq, mp_newm_eq, rd_of_own o1]
  refine ⟨⟨by omega, by omega, by omega, by omega⟩, ?_⟩
  simp (disch := (first | omega | (simp only [size_new, size_newm, size_wr, size_wrm] <;> omega) | fail)) only [go_sem, Nat.reduceBEq, Nat.reduceAdd, Nat.reduceMul, Nat.reduceLeDiff, ↓reduceIte, rd_new_lt, own_new_lt, mp_new_lt, rd_newm_lt, own_newm_lt, mp_newm_lt, rd_wr_ne, own_wr_ne, mp_wr_ne, rd_wrm_ne, own_wrm_ne, mp_wrm_ne, rd_new_eq, own_new_eq, mp_newm_eq, Int.toNat_natCast]
  obtain ⟨x0, hx0⟩ : ∃ x, l[0]? = some x := ⟨_, List.getElem?_eq_getElem (by omega)⟩
  obtain ⟨_, bl, lo, llb, rfl, hlrd, _⟩ := RdS.num h hx0
  have hbl := rd_lt hlrd
  rw [padZ_int]
  have f2 : Fresh H1 (H1.new 3 ((List.replicate l.length (0 : Int)).map i64)) := (Ext.refl _ _).new _ _
  have b2 : (H1.new 3 ((List.replicate l.length (0 : Int)).map i64)).own H1.size = some ((List.replicate l.length (0 : Int)).map i64) := own_new _ _ _
  generalize H1.new 3 ((List.replicate l.length (0 : Int)).map i64) = H2 at *
  have f02 := (f0.trans f1).trans f2
  have z2 := f2.size
  have ho2 := own_lt b2
  refine LoopV.intro (fun m env H' => ∃ j : Nat, m = l.length - j ∧ j ≤ l.length ∧ Ext (fun z => z = H1.size) H2 H' ∧ H'.own H1.size = some ((((List.range j).map fun (x : Nat) => (x : Int)) ++ List.replicate (l.length - j) (0 : Int)).map i64) ∧
    env = [(1, ptr H.size), (4, .slice (some ⟨H1.size, 0, none⟩) l.length l.length), (31, i64 l.length), (32, i64 j)]) l.length ⟨0, by omega, by omega, Ext.refl _ _, b2, rfl⟩ ?_
  rintro m env H3 ⟨j, rfl, hj, e3, b3, rfl⟩
  simp (disch := (first | omega | (simp only [size_new, size_newm, size_wr, size_wrm] <;> omega) | fail)) only [go_sem, Nat.reduceBEq, Nat.reduceAdd, Nat.reduceMul, Nat.reduceLeDiff, ↓reduceIte, rd_new_lt, own_new_lt, mp_new_lt, rd_newm_lt, own_newm_lt, mp_newm_lt, rd_wr_ne, own_wr_ne, mp_wr_ne, rd_wrm_ne, own_wrm_ne, mp_wrm_ne, rd_new_eq, own_new_eq, mp_newm_eq]
  refine Both.dec (fun hlt => ?_) (fun hlt => ?_) <;> simp (disch := (first | omega | (simp only [size_new, size_newm, size_wr, size_wrm] <;> omega) | fail)) only [go_sem, Nat.reduceBEq, Nat.reduceAdd, Nat.reduceMul, Nat.reduceLeDiff, ↓reduceIte, rd_new_lt, own_new_lt, mp_new_lt, rd_newm_lt, own_newm_lt, mp_newm_lt, rd_wr_ne, own_wr_ne, mp_wr_ne, rd_wrm_ne, own_wrm_ne, mp_wrm_ne, rd_new_eq, own_new_eq, mp_newm_eq]
  · refine ⟨⟨by omega, by omega⟩, ?_⟩
    simp (disch := (first | omega | (simp only [size_new, size_newm, size_wr, size_wrm] <;> omega) | fail)) only [go_sem, Nat.reduceBEq, Nat.reduceAdd, Nat.reduceMul, Nat.reduceLeDiff, ↓reduceIte, rd_new_lt, own_new_lt, mp_new_lt, rd_newm_lt, own_newm_lt, mp_newm_lt, rd_wr_ne, own_wr_ne, mp_wr_ne, rd_wrm_ne, own_wrm_ne, mp_wrm_ne, rd_new_eq, own_new_eq, mp_newm_eq, b3, Int.toNat_natCast, Nat.mul_one, Nat.zero_add]
    refine ⟨by simp; omega, ?_⟩
    have e4 := e3.wr (b := H1.size) (l := ((((List.range (j + 1)).map fun (x : Nat) => (x : Int)) ++ List.replicate (l.length - (j + 1)) (0 : Int)).map i64)) (fun _ => rfl) 
    simp (disch := (first | omega | (simp only [size_new, size_newm, size_wr, size_wrm] <;> omega) | fail)) only [go_sem, Nat.reduceBEq, Nat.reduceAdd, Nat.reduceMul, Nat.reduceLeDiff, ↓reduceIte, rd_new_lt, own_new_lt, mp_new_lt, rd_newm_lt, own_newm_lt, mp_newm_lt, rd_wr_ne, own_wr_ne, mp_wr_ne, rd_wrm_ne, own_wrm_ne, mp_wrm_ne, rd_new_eq, own_new_eq, mp_newm_eq]
    rw [fill_set _ _ (by omega), wrap64 (n := (j : Int) + 1) (by omega) (by omega)]
    exact ⟨l.length - (j + 1), by omega, j + 1, rfl, by omega, e4, own_wr_same b3, rfl⟩
  have hj2 : j = l.length := by omega
  subst hj2
  rw [Nat.sub_self, List.replicate_zero, List.append_nil] at b3
  have hlN : (l.map Int.toNat).length = l.length := List.length_map ..
  have htc := toNat_cast hlow
  have s3 : Sl H3 1 (.slice (some ⟨H1.size, 0, none⟩) (l.map Int.toNat).length l.length) (l.map Int.toNat).length (((List.range (l.map Int.toNat).length).map fun (x : Nat) => (x : Int)).map i64) (some H1.size) := by
    rw [hlN]
    exact ⟨by simp, _, l.length, rfl, b3, Nat.le_refl _, by simp, by rw [Nat.mul_one]; exact List.take_of_length_le (by simp)⟩
  have f13 : Fresh H1 H3 := f2.then e3 (fun z hz => by omega)
  have f03 := (f0.trans f1).trans f13
  have o3 := f13.own o1 (fun h => h)
  have h3 := h1.fresh f13
  have hb3 := own_lt b3
  generalize hlNe : l.map Int.toNat = lN at *
  have hmem : ∀ x ∈ lN, 1 ≤ x ∧ x ≤ 128 := hRL.low
  have hsf := SortFunc_spec (H := H3) (p := H.size) (b := H1.size) (bl := bl) (o := lo) (lc := c) (c := l.length) (l := lN) (by omega) (by omega) (fun x hx => by have := hmem x hx; omega) (by rw [hlN]; exact o3) (by rw [hlN, htc]; exact h3) (by omega) (by omega) s3
  rw [hlN] at hsf
  refine hsf.mono ?_
  clear hsf
  rintro _ H4 ⟨rfl, od, hperm, hpw, s4, e4⟩
  have f14 : Fresh H1 H4 := f13.then e4 (fun z hz => by omega)
  have f04 := (f0.trans f1).trans f14
  have o4 := f14.own o1 (fun h => h)
  have h4 := h1.fresh f14
  have z4 := f14.size
  have hodl : od.length = l.length := by rw [hperm.length_eq, List.length_range]
  have hnd : od.Nodup := List.Nodup.perm List.nodup_range hperm.symm
  have hoe := ord_eq hmem (by rw [hlN]; exact hperm) hpw
  simp (disch := (first | omega | (simp only [size_new, size_newm, size_wr, size_wrm] <;> omega) | fail)) only [go_sem, Nat.reduceBEq, Nat.reduceAdd, Nat.reduceMul, Nat.reduceLeDiff, ↓reduceIte, rd_new_lt, own_new_lt, mp_new_lt, rd_newm_lt, own_newm_lt, mp_newm_lt, rd_wr_ne, own_wr_ne, mp_wr_ne, rd_wrm_ne, own_wrm_ne, mp_wrm_ne, rd_new_eq, own_new_eq, mp_newm_eq, rd_of_own o4]
  refine ⟨⟨by omega, by omega, by omega, by omega⟩, ?_⟩
  simp (disch := (first | omega | (simp only [size_new, size_newm, size_wr, size_wrm] <;> omega) | fail)) only [go_sem, Nat.reduceBEq, Nat.reduceAdd, Nat.reduceMul, Nat.reduceLeDiff, ↓reduceIte, rd_new_lt, own_new_lt, mp_new_lt, rd_newm_lt, own_newm_lt, mp_newm_lt, rd_wr_ne, own_wr_ne, mp_wr_ne, rd_wrm_ne, own_wrm_ne, mp_wrm_ne, rd_new_eq, own_new_eq, mp_newm_eq, Int.toNat_natCast]
  rw [padZ_str]
  have f5 : Fresh H4 (((H4.new 9 ((List.replicate l.length ([] : List Bool)).map strB)).new 89 [i64 0, i64 0, i64 (-1)]).new 92 [.slice (some ⟨H4.size, 0, none⟩) l.length l.length, .slice (some ⟨H4.size + 1, 0, none⟩) 1 1]) := (((Ext.refl _ _).new _ _).new _ _).new _ _
  have m5 : CodeM (((H4.new 9 ((List.replicate l.length ([] : List Bool)).map strB)).new 89 [i64 0, i64 0, i64 (-1)]).new 92 [.slice (some ⟨H4.size, 0, none⟩) l.length l.length, .slice (some ⟨H4.size + 1, 0, none⟩) 1 1]) (H4.size + 1 + 1) H4.size (H4.size + 1) (List.replicate l.length []) [⟨0, 0, -1⟩] := by
    refine ⟨⟨.slice (some ⟨H4.size + 1, 0, none⟩) 1 1, ?_, ?_⟩, ?_, by omega⟩
    · rw [List.length_replicate]
      exact own_new_eq (by simp only [size_new])
    · exact (Sl.lit_at (size := 3) (n := 1) (xs := [i64 0, i64 0, i64 (-1)]) rfl (by simp only [size_new])).ext ((Ext.refl (fun _ => False) _).new _ _) (fun _ _ h => h)
    · rw [own_new_lt (by simp only [size_new]; omega), own_new_lt (by simp only [size_new]; omega), own_new]
  have z5 : (((H4.new 9 ((List.replicate l.length ([] : List Bool)).map strB)).new 89 [i64 0, i64 0, i64 (-1)]).new 92 [.slice (some ⟨H4.size, 0, none⟩) l.length l.length, .slice (some ⟨H4.size + 1, 0, none⟩) 1 1]).size = H4.size + 1 + 1 + 1 := by simp only [size_new]
  generalize ((H4.new 9 ((List.replicate l.length ([] : List Bool)).map strB)).new 89 [i64 0, i64 0, i64 (-1)]).new 92 [.slice (some ⟨H4.size, 0, none⟩) l.length l.length, .slice (some ⟨H4.size + 1, 0, none⟩) 1 1] = H5 at *
  have f05 := f04.trans f5
  have hb4 := s4.lt
  clear b3 s3 e3 h3 o3 f13 f03 e4
  refine LoopV.intro (fun m env H' => ∃ (j tb : Nat) (tr : List Lf) (pth : List (List Bool)) (P : List (Nat × List Bool)) (wv : Value), m = l.length - j ∧ j ≤ l.length ∧ Ext (fun z => H4.size ≤ z) H5 H' ∧ CodeM H' (H4.size + 1 + 1) H4.size tb (stC lN od j).2 tr ∧ TrieI tr pth P [] ∧ H4.size < tb ∧
    (∀ s w, (s, w) ∈ P ↔ s ∈ od.take j ∧ (stC lN od j).2[s]? = some w) ∧ tr.length ≤ 1 + j * 128 ∧ (j = 0 ∨ ∃ wb, WdS H' wv (stC lN od j).1 wb ∧ H5.size ≤ wb ∧ wb ≠ tb) ∧
    env = [(1, ptr H.size), (6, ptr (H4.size + 1 + 1)), (7, wv), (50, .slice (some ⟨H1.size, 0, none⟩) l.length l.length), (51, i64 l.length), (52, i64 j)]) l.length
    ⟨0, H4.size + 1, _, _, [], _, rfl, by omega, Ext.refl _ _, by rw [← hlN] at m5; exact m5, TrieI.new, by omega, fun s w => by simp, by simp, .inl rfl, rfl⟩ ?_
  rintro m env H6 ⟨j, tb, tr, pth, P, wv, rfl, hj, e6, m6, t6, htb, hP, htl, hw6, rfl⟩
  have z6 := e6.size
  have e46 : Ext (fun z => H4.size ≤ z) H4 H6 := (f5.mono fun _ _ h => h.elim).trans e6
  have s6 := s4.ext e46 (fun b hb hz => by injection hb with hb; omega)
  have h6 := h4.ext e46 (fun b hb hz => by omega)
  have o6 := e46.own o4 (fun hz => by omega)
  have f06 : Fresh H H6 := f04.then e46 (fun z hz => by omega)
  have hsl6 := stC_len lN od j
  simp (disch := (first | omega | (simp only [size_new, size_newm, size_wr, size_wrm] <;> omega) | fail)) only [go_sem, Nat.reduceBEq, Nat.reduceAdd, Nat.reduceMul, Nat.reduceLeDiff, ↓reduceIte, rd_new_lt, own_new_lt, mp_new_lt, rd_newm_lt, own_newm_lt, mp_newm_lt, rd_wr_ne, own_wr_ne, mp_wr_ne, rd_wrm_ne, own_wrm_ne, mp_wrm_ne, rd_new_eq, own_new_eq, mp_newm_eq]
  refine Both.dec (fun hlt2 => ?_) (fun hlt2 => ?_) <;> simp (disch := (first | omega | (simp only [size_new, size_newm, size_wr, size_wrm] <;> omega) | fail)) only [go_sem, Nat.reduceBEq, Nat.reduceAdd, Nat.reduceMul, Nat.reduceLeDiff, ↓reduceIte, rd_new_lt, own_new_lt, mp_new_lt, rd_newm_lt, own_newm_lt, mp_newm_lt, rd_wr_ne, own_wr_ne, mp_wr_ne, rd_wrm_ne, own_wrm_ne, mp_wrm_ne, rd_new_eq, own_new_eq, mp_newm_eq]
  rotate_left
  · have hj2 : j = l.length := by omega
    subst hj2
    have hst : (stC lN od l.length).2 = wordsC l := by
      unfold stC wordsC
      rw [List.take_of_length_le (by omega), hlNe, hoe]
      rfl
    obtain ⟨w1, w2, w3⟩ := wordsF_ok hRL (by rw [hlN]; exact hperm) hpw
    have hst2 : (wordsF lN od).2 = wordsC l := by unfold wordsC; rw [hlNe, hoe]
    rw [hst2] at w1 w2 w3
    rw [hst] at m6 hP
    refine ⟨f06, .inr ⟨hR, H4.size + 1 + 1, fun z => z = H4.size + 1 + 1 ∨ z = H4.size ∨ z = tb, rfl, ⟨⟨H4.size, tb, tr, pth, m6, ⟨P, t6, fun s w => ?_⟩, .inl rfl, .inr (.inl rfl), .inr (.inr rfl), by have := hR.len; omega⟩, fun z hz => ?_, w3, by omega, fun w hw => ?_⟩, fun z hz => by omega⟩⟩
    · rw [hP, List.take_of_length_le (by omega)]
      constructor
      · exact fun h => h.2
      · intro h
        refine ⟨hperm.mem_iff.2 (List.mem_range.2 ?_), h⟩
        have := (List.getElem?_eq_some_iff.1 h).1
        omega
    · have := m6.lt
      omega
    · obtain ⟨s, hs⟩ := List.getElem?_of_mem hw
      rw [w2 s w hs, List.getD_eq_getElem?_getD]
      cases hg : lN[s]? with
      | none => exact Nat.zero_le _
      | some v =>
        have := (hmem v (List.mem_of_getElem? hg)).2
        show v ≤ 1000
        omega
  obtain ⟨s, hs⟩ : ∃ s, od[j]? = some s := ⟨_, List.getElem?_eq_getElem (by omega)⟩
  have hsr := List.mem_range.1 (hperm.mem_iff.1 (List.mem_of_getElem? hs))
  have hsc : (od.map fun (x : Nat) => (x : Int))[j]? = some (s : Int) := by rw [List.getElem?_map, hs]; rfl
  obtain ⟨_, hsa, lb6, hlb6, hcell6⟩ := Sl.num s6 hsc
  obtain ⟨ns, hns⟩ : ∃ ns, lN[s]? = some ns := ⟨_, List.getElem?_eq_getElem (by omega)⟩
  have hnsg : lN.getD s 0 = ns := by rw [List.getD_eq_getElem?_getD, hns]; rfl
  have hnsb := hmem ns (List.mem_of_getElem? hns)
  have hls : l[s]? = some (ns : Int) := by rw [← htc, List.getElem?_map, hns]; rfl
  obtain ⟨_, bl6, lo6, llb6, e7, hlrd6, hlcell6⟩ := RdS.num h6 hls
  injection e7 with e7
  injection e7 with e8 e9 _
  subst e8; subst e9
  refine ⟨⟨by omega, by omega⟩, ?_⟩
  simp (disch := (first | omega | (simp only [size_new, size_newm, size_wr, size_wrm] <;> omega) | fail)) only [go_sem, Nat.reduceBEq, Nat.reduceAdd, Nat.reduceMul, Nat.reduceLeDiff, ↓reduceIte, rd_new_lt, own_new_lt, mp_new_lt, rd_newm_lt, own_newm_lt, mp_newm_lt, rd_wr_ne, own_wr_ne, mp_wr_ne, rd_wrm_ne, own_wrm_ne, mp_wrm_ne, rd_new_eq, own_new_eq, mp_newm_eq, rd_of_own hlb6, Int.toNat_natCast, Nat.mul_one, Nat.zero_add, hcell6]
  have hlast := stC_last (od := od) hmem j
  have hnext := stC_succ (lN := lN) hs
  have hnw : stepW lN (stC lN od j) s = (padB ns (incB (stC lN od j).1), (stC lN od j).2.set s (padB ns (incB (stC lN od j).1))) := by unfold stepW; rw [hnsg]
  rw [hnw] at hnext
  have hnwl : (padB ns (incB (stC lN od j).1)).length ≤ 128 := by have := stC_last (od := od) hmem (j + 1); rw [hnext] at this; exact this
  refine Both.meetD (fun e h => ∃ wv' wb', e.find 1 = some (ptr H.size) ∧ e.find 6 = some (ptr (H4.size + 1 + 1)) ∧ e.find 7 = some wv' ∧ e.find 9 = some (i64 s) ∧ e.find 50 = some (.slice (some ⟨H1.size, 0, none⟩) l.length l.length) ∧ e.find 51 = some (i64 l.length) ∧ e.find 52 = some (i64 j) ∧
    WdS h wv' (padB ns (incB (stC lN od j).1)) wb' ∧ H5.size ≤ wb' ∧ wb' ≠ tb ∧ Ext (fun z => H5.size ≤ z ∧ z ≠ tb) H6 h) (fun g => ?_) (fun g => ?_) ?_ <;> simp (disch := (first | omega | (simp only [size_new, size_newm, size_wr, size_wrm] <;> omega) | fail)) only [go_sem, Nat.reduceBEq, Nat.reduceAdd, Nat.reduceMul, Nat.reduceLeDiff, ↓reduceIte, rd_new_lt, own_new_lt, mp_new_lt, rd_newm_lt, own_newm_lt, mp_newm_lt, rd_wr_ne, own_wr_ne, mp_wr_ne, rd_wrm_ne, own_wrm_ne, mp_wrm_ne, rd_new_eq, own_new_eq, mp_newm_eq]
  · have hj0 : j = 0 := by omega
    subst hj0
    simp (disch := (first | omega | (simp only [size_new, size_newm, size_wr, size_wrm] <;> omega) | fail)) only [go_sem, Nat.reduceBEq, Nat.reduceAdd, Nat.reduceMul, Nat.reduceLeDiff, ↓reduceIte, rd_new_lt, own_new_lt, mp_new_lt, rd_newm_lt, own_newm_lt, mp_newm_lt, rd_wr_ne, own_wr_ne, mp_wr_ne, rd_wrm_ne, own_wrm_ne, mp_wrm_ne, rd_new_eq, own_new_eq, mp_newm_eq, rd_of_own o6]
    refine ⟨⟨by omega, by omega⟩, ?_⟩
    simp (disch := (first | omega | (simp only [size_new, size_newm, size_wr, size_wrm] <;> omega) | fail)) only [go_sem, Nat.reduceBEq, Nat.reduceAdd, Nat.reduceMul, Nat.reduceLeDiff, ↓reduceIte, rd_new_lt, own_new_lt, mp_new_lt, rd_newm_lt, own_newm_lt, mp_newm_lt, rd_wr_ne, own_wr_ne, mp_wr_ne, rd_wrm_ne, own_wrm_ne, mp_wrm_ne, rd_new_eq, own_new_eq, mp_newm_eq, hlrd6, Int.toNat_natCast, Nat.mul_one, hlcell6]
    refine (Repeat_spec H6 [48] ns (by simp) (by omega)).mono ?_
    rintro _ H7 ⟨rfl, f7⟩
    simp (disch := (first | omega | (simp only [size_new, size_newm, size_wr, size_wrm] <;> omega) | fail)) only [go_sem, Nat.reduceBEq, Nat.reduceAdd, Nat.reduceMul, Nat.reduceLeDiff, ↓reduceIte, rd_new_lt, own_new_lt, mp_new_lt, rd_newm_lt, own_newm_lt, mp_newm_lt, rd_wr_ne, own_wr_ne, mp_wr_ne, rd_wrm_ne, own_wrm_ne, mp_wrm_ne, rd_new_eq, own_new_eq, mp_newm_eq]
    have hrl : (List.replicate ns (48 : UInt8)) = (List.replicate ns false).map bt := by rw [List.map_replicate]; rfl
    rw [repeat_one, hrl]
    intro cc hcc
    rw [size_str, List.length_map, List.length_replicate] at hcc ⊢
    rw [bytes_bits]
    have hpz : padB ns (incB (stC lN od 0).1) = List.replicate ns false := by
      show padB ns (incB []) = _
      rw [incB_nil]
      unfold padB
      simp
    rw [hpz]
    have e8 : Fresh H7 (H7.newk 5 ((List.replicate ns false).map bv ++ List.replicate (cc - ns) (.int .u8 0))) := (Ext.refl _ _).newk _ _
    have hmk : (H7.newk 5 ((List.replicate ns false).map bv ++ List.replicate (cc - ns) (.int .u8 0))).mrk H7.size = some _ := mrk_newk _ _ _
    simp (disch := (first | omega | (simp only [size_new, size_newm, size_wr, size_wrm] <;> omega) | fail)) only [go_sem, Nat.reduceBEq, Nat.reduceAdd, Nat.reduceMul, Nat.reduceLeDiff, ↓reduceIte, rd_new_lt, own_new_lt, mp_new_lt, rd_newm_lt, own_newm_lt, mp_newm_lt, rd_wr_ne, own_wr_ne, mp_wr_ne, rd_wrm_ne, own_wrm_ne, mp_wrm_ne, rd_new_eq, own_new_eq, mp_newm_eq]
    have z7 := f7.size
    have := m6.lt
    refine ⟨_, H7.size, (by trivial), (by trivial), rfl, (by trivial), (by trivial), (by trivial), (by trivial), ⟨_, cc, by rw [List.length_replicate], orO_of_mrk hmk, by simpa using hcc, by simp; omega, by rw [List.length_replicate]; exact List.take_left' (by simp)⟩, by omega, by omega, (f7.trans e8).mono fun _ _ h => h.elim⟩
  · have hj0 : j ≠ 0 := by omega
    obtain ⟨wd, hwd, hwd5, hwdt⟩ := hw6.resolve_left hj0
    simp (disch := (first | omega | (simp only [size_new, size_newm, size_wr, size_wrm] <;> omega) | fail)) only [go_sem, Nat.reduceBEq, Nat.reduceAdd, Nat.reduceMul, Nat.reduceLeDiff, ↓reduceIte, rd_new_lt, own_new_lt, mp_new_lt, rd_newm_lt, own_newm_lt, mp_newm_lt, rd_wr_ne, own_wr_ne, mp_wr_ne, rd_wrm_ne, own_wrm_ne, mp_wrm_ne, rd_new_eq, own_new_eq, mp_newm_eq, rd_of_own o6]
    refine ⟨⟨by omega, by omega⟩, ?_⟩
    simp (disch := (first | omega | (simp only [size_new, size_newm, size_wr, size_wrm] <;> omega) | fail)) only [go_sem, Nat.reduceBEq, Nat.reduceAdd, Nat.reduceMul, Nat.reduceLeDiff, ↓reduceIte, rd_new_lt, own_new_lt, mp_new_lt, rd_newm_lt, own_newm_lt, mp_newm_lt, rd_wr_ne, own_wr_ne, mp_wr_ne, rd_wrm_ne, own_wrm_ne, mp_wrm_ne, rd_new_eq, own_new_eq, mp_newm_eq, hlrd6, Int.toNat_natCast, Nat.mul_one, hlcell6]
    refine (code_follow_spec hwd ns (by omega) (by omega)).mono ?_
    rintro v7 H7 ⟨wd', hw7, e7, hb7⟩
    simp (disch := (first | omega | (simp only [size_new, size_newm, size_wr, size_wrm] <;> omega) | fail)) only [go_sem, Nat.reduceBEq, Nat.reduceAdd, Nat.reduceMul, Nat.reduceLeDiff, ↓reduceIte, rd_new_lt, own_new_lt, mp_new_lt, rd_newm_lt, own_newm_lt, mp_newm_lt, rd_wr_ne, own_wr_ne, mp_wr_ne, rd_wrm_ne, own_wrm_ne, mp_wrm_ne, rd_new_eq, own_new_eq, mp_newm_eq]
    have := m6.lt
    exact ⟨_, wd', (by trivial), (by trivial), rfl, (by trivial), (by trivial), (by trivial), (by trivial), hw7, by omega, by omega, e7.mono fun z _ hz => by omega⟩
  rintro e H7 ⟨wv', wb', q1, q2, q3, q4, q5, q6, q7, w7, hwb', hwbt, e7⟩
  have m7 := m6.ext e7 (fun hz => by omega) (fun hz => by omega) (fun hz => by omega)
  obtain ⟨tv7, x7, _⟩ := m7.rep
  obtain ⟨a7, c7, rfl⟩ := rds_isS w7.rd
  simp (disch := (first | omega | (simp only [size_new, size_newm, size_wr, size_wrm] <;> omega) | fail)) only [go_sem, Nat.reduceBEq, Nat.reduceAdd, Nat.reduceMul, Nat.reduceLeDiff, ↓reduceIte, rd_new_lt, own_new_lt, mp_new_lt, rd_newm_lt, own_newm_lt, mp_newm_lt, rd_wr_ne, own_wr_ne, mp_wr_ne, rd_wrm_ne, own_wrm_ne, mp_wrm_ne, rd_new_eq, own_new_eq, mp_newm_eq, q1, q2, q3, q4, q5, q6, q7, rd_of_own x7]
  refine RdS.rowOf w7.rd ?_
  rw [bytesOf_bits]
  simp (disch := (first | omega | (simp only [size_new, size_newm, size_wr, size_wrm] <;> omega) | fail)) only [go_sem, Nat.reduceBEq, Nat.reduceAdd, Nat.reduceMul, Nat.reduceLeDiff, ↓reduceIte, rd_new_lt, own_new_lt, mp_new_lt, rd_newm_lt, own_newm_lt, mp_newm_lt, rd_wr_ne, own_wr_ne, mp_wr_ne, rd_wrm_ne, own_wrm_ne, mp_wrm_ne, rd_new_eq, own_new_eq, mp_newm_eq]
  rw [hsl6]
  refine ⟨⟨by omega, by omega⟩, ?_⟩
  simp (disch := (first | omega | (simp only [size_new, size_newm, size_wr, size_wrm] <;> omega) | fail)) only [go_sem, Nat.reduceBEq, Nat.reduceAdd, Nat.reduceMul, Nat.reduceLeDiff, ↓reduceIte, rd_new_lt, own_new_lt, mp_new_lt, rd_newm_lt, own_newm_lt, mp_newm_lt, rd_wr_ne, own_wr_ne, mp_wr_ne, rd_wrm_ne, own_wrm_ne, mp_wrm_ne, rd_new_eq, own_new_eq, mp_newm_eq, m7.words, Int.toNat_natCast, Nat.mul_one, Nat.zero_add]
  refine ⟨by rw [List.length_map]; omega, ?_⟩
  have m8 := m7.setW s (padB ns (incB (stC lN od j).1))
  have z7 := e7.size
  have e8 : Ext (fun z => H4.size ≤ z) H7 (H7.wr H4.size (((stC lN od j).2.map strB).set s (strB (padB ns (incB (stC lN od j).1))))) := (Ext.refl (fun z => H4.size ≤ z) _).wr (fun _ => Nat.le_refl _) _
  have z8 := e8.size
  generalize hnwd : padB ns (incB (stC lN od j).1) = nw at *
  simp (disch := (first | omega | (simp only [size_new, size_newm, size_wr, size_wrm] <;> omega) | fail)) only [go_sem, Nat.reduceBEq, Nat.reduceAdd, Nat.reduceMul, Nat.reduceLeDiff, ↓reduceIte, rd_new_lt, own_new_lt, mp_new_lt, rd_newm_lt, own_newm_lt, mp_newm_lt, rd_wr_ne, own_wr_ne, mp_wr_ne, rd_wrm_ne, own_wrm_ne, mp_wrm_ne, rd_new_eq, own_new_eq, mp_newm_eq, q1, q2, q3, q4, q5, q6, q7]
  have w8 := w7.ext ((Ext.refl (fun z => z = H4.size) H7).wr (fun _ => rfl) (((stC lN od j).2.map strB).set s (strB nw))) (fun hz => by omega)
  generalize H7.wr H4.size (((stC lN od j).2.map strB).set s (strB nw)) = H8 at *
  have hset : ((stC lN od j).2.set s nw)[s]? = some nw := List.getElem?_set_self (by omega)
  refine (code_plant_spec m8 t6 hset (by omega) (by omega) (by rw [List.length_set]; omega)).mono ?_
  rintro v9 H9 ⟨tr9, pth9, tb9, m9, t9, hl9, e9, hb9⟩
  simp (disch := (first | omega | (simp only [size_new, size_newm, size_wr, size_wrm] <;> omega) | fail)) only [go_sem, Nat.reduceBEq, Nat.reduceAdd, Nat.reduceMul, Nat.reduceLeDiff, ↓reduceIte, rd_new_lt, own_new_lt, mp_new_lt, rd_newm_lt, own_newm_lt, mp_newm_lt, rd_wr_ne, own_wr_ne, mp_wr_ne, rd_wrm_ne, own_wrm_ne, mp_wrm_ne, rd_new_eq, own_new_eq, mp_newm_eq]
  rw [wrap64 (n := (j : Int) + 1) (by omega) (by omega)]
  have z9 := e9.size
  have hlt8 := m8.lt
  have hw8lt := w8.lt
  have hsn : s ∉ od.take j := fun hm => by
    obtain ⟨i, hi⟩ := List.getElem?_of_mem hm
    rw [List.getElem?_take] at hi
    split at hi
    · have := nodup_at hnd hi hs
      omega
    · cases hi
  refine ⟨l.length - (j + 1), by omega, j + 1, tb9, tr9, pth9, (s, nw) :: P, _, rfl, by omega, ?_, by rw [hnext]; exact m9, t9, by omega, fun s' w' => ?_, by omega, .inr ⟨wb', by rw [hnext]; exact w8.ext e9 (fun hz => by omega), hwb', by omega⟩, rfl⟩
  · exact ((e6.trans (e7.mono fun z _ hz => by omega)).trans e8).trans (e9.mono fun z _ hz => by omega)
  · rw [List.mem_cons, hP, List.take_add_one, hs, hnext]
    simp only [Prod.mk.injEq, Option.toList_some, List.mem_append, List.mem_singleton]
    constructor
    · rintro (⟨rfl, rfl⟩ | ⟨h1, h2⟩)
      · exact ⟨.inr rfl, hset⟩
      · have hne : s ≠ s' := fun e => hsn (e ▸ h1)
        exact ⟨.inl h1, by rw [List.getElem?_set_ne hne]; exact h2⟩
    · rintro ⟨h1, h2⟩
      by_cases e : s' = s
      · subst e
        rw [hset] at h2
        injection h2 with h2
        exact .inl ⟨rfl, h2.symm⟩
      · rw [List.getElem?_set_ne (Ne.symm e)] at h2
        exact .inr ⟨h1.resolve_right e, h2⟩

end Go.Proofs.Ytbnaicgmnadkgaa

/-
  The chapter's examples of codes; arguments read as numbers, texts, bytes.
-/
set_option linter.unusedVariables false
set_option linter.unusedSimpArgs false
namespace Go.Proofs.Ytbnaicgmnadkgaa
open Go Go.Vc

theorem fitA_ints27 {H : Hp} {v : Value} (h : fitA H (false, [.sl [.i .i64]]) v) : ∃ (ks : List Int) (a : Option Addr) (c : Nat), v = .slice a ks.length c ∧ RdS H 1 (.slice a ks.length c) ks.length (ks.map i64) ∧ ks.length ≤ c ∧ ks.length ≤ maxLen := by
  obtain ⟨rows, hr, hf, hm, a, c, rfl, hc⟩ := fitA_slc h
  obtain ⟨ks, h1, h2, _⟩ := rows_ints hf
  rw [h1] at hr
  rw [← h2] at hr hm hc ⊢
  exact ⟨ks, a, c, rfl, hr, hc, hm⟩

theorem fitA_str27 {H : Hp} {v : Value} (h : fitA H (false, [.k .s]) v) : ∃ l : List UInt8, v = strV l ∧ l.length ≤ maxLen := by
  obtain ⟨v', r, e, ⟨s, rfl, hs⟩, h2⟩ := h
  simp [fitL] at h2
  subst h2
  injection e with e _
  exact ⟨s.data.toList, by rw [e], hs⟩

theorem fitA_bytes27 {H : Hp} {v : Value} (h : fitA H (false, [.sl [.i .u8]]) v) : ∃ (ns : List Nat) (a : Option Addr) (c : Nat), v = .slice a ns.length c ∧ RdS H 1 (.slice a ns.length c) ns.length (u8s ns) ∧ ns.length ≤ c ∧ ns.length ≤ maxLen ∧ ∀ x ∈ ns, x < 256 := by
  obtain ⟨rows, hr, hf, hm, a, c, rfl, hc⟩ := fitA_slc h
  obtain ⟨ks, h1, h2, h3⟩ := rows_ints hf
  have hk : ∀ x ∈ ks, 0 ≤ x ∧ x ≤ 255 := fun x hx => by
    have := h3 x hx
    simpa [Lit.wf, IntKind.min, IntKind.max, IntKind.signed, IntKind.bits] using this
  have e : (ks.map Int.toNat).map (fun (n : Nat) => Value.int .u8 (n : Int)) = ks.map (Value.int .u8) := by
    rw [List.map_map]
    apply List.map_congr_left
    intro x hx
    have := hk x hx
    simp only [Function.comp_apply]
    rw [Int.toNat_of_nonneg this.1]
  rw [h1, ← e] at hr
  have hl : rows.length = (ks.map Int.toNat).length := by rw [List.length_map, h2]
  rw [hl] at hr hm hc ⊢
  refine ⟨ks.map Int.toNat, a, c, rfl, hr, hc, hm, fun x hx => ?_⟩
  obtain ⟨y, hy, rfl⟩ := List.mem_map.1 hx
  have := hk y hy
  omega

/-- What is known of the words. -/
theorem wordsC_ok {l : List Int} (h : RightC l) : (wordsC l).length = l.length ∧ (∀ s w, (wordsC l)[s]? = some w → w.length = (l.map Int.toNat).getD s 0) ∧ FreeW (wordsC l) := by
  have hperm : (ordR (l.map Int.toNat)).Perm (List.range (l.map Int.toNat).length) := by
    refine (List.perm_ext_iff_of_nodup ?_ List.nodup_range).2 fun a => ?_
    · rw [List.nodup_iff_pairwise_ne]
      refine List.Pairwise.imp (fun {a b} (hab : lexP _ a b) (e : a = b) => ?_) (ordM_sorted (l.map Int.toNat) 128)
      subst e
      exact lexP_irr _ _ hab
    · unfold ordR
      rw [ordM_mem, List.mem_range]
      exact ⟨fun ha => ha.1, fun ha => ⟨ha, (rightL_of h).low _ (getD_mem ha)⟩⟩
  obtain ⟨h1, h2, h3⟩ := wordsF_ok (rightL_of h) hperm (ordM_sorted _ 128)
  rw [List.length_map] at h1
  exact ⟨h1, h2, h3⟩
theorem wordsC_len {l : List Int} (h : RightC l) : (wordsC l).length = l.length := (wordsC_ok h).1
theorem wordsC_short {l : List Int} (h : RightC l) : ∀ w ∈ wordsC l, w.length ≤ 128 := fun w hw => by
  obtain ⟨s, hs⟩ := List.getElem?_of_mem hw
  obtain ⟨h1, h2, _⟩ := wordsC_ok h
  rw [h2 s w hs]
  have hlt := (List.getElem?_eq_some_iff.1 hs).1
  exact ((rightL_of h).low _ (getD_mem (by rw [List.length_map]; omega))).2

theorem alive_right : RightC [2, 1, 2] := ⟨by intro x hx; simp at hx; omega, by decide, by decide⟩
theorem alive_words : wordsC [2, 1, 2] = [[true, false], [false], [true, true]] := by decide
theorem alive_pack : packL [true, false, true] = [5, 160] := by decide

theorem eq_strB (a b : List Bool) : ((⟨(a.map bt).toArray⟩ : ByteArray).toList == (⟨(b.map bt).toArray⟩ : ByteArray).toList) = decide (a = b) := by
  rw [eq_bytes, decide_eq_decide]
  exact ⟨mapbt_inj, fun h => by rw [h]⟩

set_option maxRecDepth 100000 in
set_option maxHeartbeats 2000000 in
theorem law27_codeAlive_spec (H : Hp) : CallH Try.prog n_law27_codeAlive [] H fun v H' => Post (v = .bool true ∧ Fresh H H') := by
  refine c_law27_codeAlive ⟨rfl, ?_⟩
  simp (disch := (first | omega | (simp only [size_new, size_newm, size_wr, size_wrm] <;> omega) | fail)) only [go_sem, Nat.reduceBEq, Nat.reduceAdd, Nat.reduceMul, Nat.reduceLeDiff, ↓reduceIte, rd_new_lt, own_new_lt, mp_new_lt, rd_newm_lt, own_newm_lt, mp_newm_lt, rd_wr_ne, own_wr_ne, mp_wr_ne, rd_wrm_ne, own_wrm_ne, mp_wrm_ne, rd_new_eq, own_new_eq, mp_newm_eq, s_law27_codeAlive]
  have f0 : Fresh H (H.new 3 [i64 2, i64 1, i64 2]) := (Ext.refl _ _).new _ _
  have r0 : RdS (H.new 3 [i64 2, i64 1, i64 2]) 1 (.slice (some ⟨H.size, 0, none⟩) 3 3) 3 (([2, 1, 2] : List Int).map i64) := (Sl.lit_at (size := 1) (n := 3) (xs := ([2, 1, 2] : List Int).map i64) rfl rfl).rd
  generalize H.new 3 [i64 2, i64 1, i64 2] = H0 at *
  refine (code_New_spec (l := [2, 1, 2]) r0 (by decide)).mono ?_
  rintro _ H1 ⟨f1, ⟨hn, _⟩ | ⟨_, x, S, rfl, cw, hS⟩⟩
  · exact absurd alive_right hn
  rw [alive_words] at cw
  have f01 := f0.trans f1
  simp (disch := (first | omega | (simp only [size_new, size_newm, size_wr, size_wrm] <;> omega) | fail)) only [go_sem, Nat.reduceBEq, Nat.reduceAdd, Nat.reduceMul, Nat.reduceLeDiff, ↓reduceIte, rd_new_lt, own_new_lt, mp_new_lt, rd_newm_lt, own_newm_lt, mp_newm_lt, rd_wr_ne, own_wr_ne, mp_wr_ne, rd_wrm_ne, own_wrm_ne, mp_wrm_ne, rd_new_eq, own_new_eq, mp_newm_eq]
  refine (code_Pack_spec (H := H1) (bits := [49, 48, 49]) (by decide)).mono ?_
  rintro _ H2 ⟨f2, ⟨hb, _⟩ | ⟨w, a, c, hw, hwl, rfl, r2⟩⟩
  · exact absurd ⟨by decide, by decide⟩ hb
  have hw2 : w = [true, false, true] := mapbt_inj hw.symm
  subst hw2
  rw [alive_pack] at r2
  have cw2 := cw.fresh f2
  simp (disch := (first | omega | (simp only [size_new, size_newm, size_wr, size_wrm] <;> omega) | fail)) only [go_sem, Nat.reduceBEq, Nat.reduceAdd, Nat.reduceMul, Nat.reduceLeDiff, ↓reduceIte, rd_new_lt, own_new_lt, mp_new_lt, rd_newm_lt, own_newm_lt, mp_newm_lt, rd_wr_ne, own_wr_ne, mp_wr_ne, rd_wrm_ne, own_wrm_ne, mp_wrm_ne, rd_new_eq, own_new_eq, mp_newm_eq, decide_true]
  refine (code_Word_spec cw2 0).mono ?_
  rintro _ H' ⟨rfl, e⟩
  obtain rfl := e.symm
  simp (disch := (first | omega | (simp only [size_new, size_newm, size_wr, size_wrm] <;> omega) | fail)) only [go_sem, Nat.reduceBEq, Nat.reduceAdd, Nat.reduceMul, Nat.reduceLeDiff, ↓reduceIte, rd_new_lt, own_new_lt, mp_new_lt, rd_newm_lt, own_newm_lt, mp_newm_lt, rd_wr_ne, own_wr_ne, mp_wr_ne, rd_wrm_ne, own_wrm_ne, mp_wrm_ne, rd_new_eq, own_new_eq, mp_newm_eq, decide_true]
  repeat (refine Both.of_true (by first | decide | exact (eq_bytes _ _).trans (by decide)) ?_; simp (disch := (first | omega | (simp only [size_new, size_newm, size_wr, size_wrm] <;> omega) | fail)) only [go_sem, Nat.reduceBEq, Nat.reduceAdd, Nat.reduceMul, Nat.reduceLeDiff, ↓reduceIte, rd_new_lt, own_new_lt, mp_new_lt, rd_newm_lt, own_newm_lt, mp_newm_lt, rd_wr_ne, own_wr_ne, mp_wr_ne, rd_wrm_ne, own_wrm_ne, mp_wrm_ne, rd_new_eq, own_new_eq, mp_newm_eq, decide_true])
  refine (code_Word_spec cw2 1).mono ?_
  rintro _ H' ⟨rfl, e⟩
  obtain rfl := e.symm
  simp (disch := (first | omega | (simp only [size_new, size_newm, size_wr, size_wrm] <;> omega) | fail)) only [go_sem, Nat.reduceBEq, Nat.reduceAdd, Nat.reduceMul, Nat.reduceLeDiff, ↓reduceIte, rd_new_lt, own_new_lt, mp_new_lt, rd_newm_lt, own_newm_lt, mp_newm_lt, rd_wr_ne, own_wr_ne, mp_wr_ne, rd_wrm_ne, own_wrm_ne, mp_wrm_ne, rd_new_eq, own_new_eq, mp_newm_eq, decide_true]
  repeat (refine Both.of_true (by first | decide | exact (eq_bytes _ _).trans (by decide)) ?_; simp (disch := (first | omega | (simp only [size_new, size_newm, size_wr, size_wrm] <;> omega) | fail)) only [go_sem, Nat.reduceBEq, Nat.reduceAdd, Nat.reduceMul, Nat.reduceLeDiff, ↓reduceIte, rd_new_lt, own_new_lt, mp_new_lt, rd_newm_lt, own_newm_lt, mp_newm_lt, rd_wr_ne, own_wr_ne, mp_wr_ne, rd_wrm_ne, own_wrm_ne, mp_wrm_ne, rd_new_eq, own_new_eq, mp_newm_eq, decide_true])
  refine (code_Word_spec cw2 2).mono ?_
  rintro _ H' ⟨rfl, e⟩
  obtain rfl := e.symm
  simp (disch := (first | omega | (simp only [size_new, size_newm, size_wr, size_wrm] <;> omega) | fail)) only [go_sem, Nat.reduceBEq, Nat.reduceAdd, Nat.reduceMul, Nat.reduceLeDiff, ↓reduceIte, rd_new_lt, own_new_lt, mp_new_lt, rd_newm_lt, own_newm_lt, mp_newm_lt, rd_wr_ne, own_wr_ne, mp_wr_ne, rd_wrm_ne, own_wrm_ne, mp_wrm_ne, rd_new_eq, own_new_eq, mp_newm_eq, decide_true]
  repeat (refine Both.of_true (by first | decide | exact (eq_bytes _ _).trans (by decide)) ?_; simp (disch := (first | omega | (simp only [size_new, size_newm, size_wr, size_wrm] <;> omega) | fail)) only [go_sem, Nat.reduceBEq, Nat.reduceAdd, Nat.reduceMul, Nat.reduceLeDiff, ↓reduceIte, rd_new_lt, own_new_lt, mp_new_lt, rd_newm_lt, own_newm_lt, mp_newm_lt, rd_wr_ne, own_wr_ne, mp_wr_ne, rd_wrm_ne, own_wrm_ne, mp_wrm_ne, rd_new_eq, own_new_eq, mp_newm_eq, decide_true])
  refine RdS.rowOf r2 ?_
  rw [bytesOf_u8s]
  simp (disch := (first | omega | (simp only [size_new, size_newm, size_wr, size_wrm] <;> omega) | fail)) only [go_sem, Nat.reduceBEq, Nat.reduceAdd, Nat.reduceMul, Nat.reduceLeDiff, ↓reduceIte, rd_new_lt, own_new_lt, mp_new_lt, rd_newm_lt, own_newm_lt, mp_newm_lt, rd_wr_ne, own_wr_ne, mp_wr_ne, rd_wrm_ne, own_wrm_ne, mp_wrm_ne, rd_new_eq, own_new_eq, mp_newm_eq]
  have f3 : Fresh H2 (H2.new 5 [.int .u8 5, .int .u8 160]) := (Ext.refl _ _).new _ _
  have r3 : RdS (H2.new 5 [.int .u8 5, .int .u8 160]) 1 (.slice (some ⟨H2.size, 0, none⟩) 2 2) 2 (u8s [5, 160]) := (Sl.lit_at (size := 1) (n := 2) (xs := u8s [5, 160]) rfl rfl).rd
  refine RdS.rowOf r3 ?_
  rw [bytesOf_u8s]
  simp (disch := (first | omega | (simp only [size_new, size_newm, size_wr, size_wrm] <;> omega) | fail)) only [go_sem, Nat.reduceBEq, Nat.reduceAdd, Nat.reduceMul, Nat.reduceLeDiff, ↓reduceIte, rd_new_lt, own_new_lt, mp_new_lt, rd_newm_lt, own_newm_lt, mp_newm_lt, rd_wr_ne, own_wr_ne, mp_wr_ne, rd_wrm_ne, own_wrm_ne, mp_wrm_ne, rd_new_eq, own_new_eq, mp_newm_eq]
  exact ⟨congrArg Value.bool ((eq_bytes _ _).trans (by decide)), (f01.trans f2).trans f3⟩

end Go.Proofs.Ytbnaicgmnadkgaa

/-
  The law CodePacks: of any text the bytes, and of any bytes the bits, or the error.
-/
set_option linter.unusedVariables false
set_option linter.unusedSimpArgs false
namespace Go.Proofs.Ytbnaicgmnadkgaa
open Go Go.Vc

/-- What bits are as bytes: at most one answer. -/
theorem PackR.same {bits : List UInt8} {H H' : Hp} {v v' : Value} (h : PackR bits H v) (h' : PackR bits H' v') :
    ∃ (ns : List Nat) (e : Int) (a a' : Option Addr) (c c' : Nat), v = .tuple [.slice a ns.length c, i64 e].toArray ∧ v' = .tuple [.slice a' ns.length c', i64 e].toArray ∧ RdS H 1 (.slice a ns.length c) ns.length (u8s ns) ∧ RdS H' 1 (.slice a' ns.length c') ns.length (u8s ns) := by
  rcases h with ⟨hb, rfl⟩ | ⟨w, a, c, hw, hl, rfl, hr⟩
  · rcases h' with ⟨_, rfl⟩ | ⟨w', _, _, hw', hl', _, _⟩
    · exact ⟨[], 201, none, none, 0, 0, rfl, rfl, ⟨rfl, .inl ⟨rfl, _, _, rfl⟩⟩, ⟨rfl, .inl ⟨rfl, _, _, rfl⟩⟩⟩
    · subst hw'
      exact absurd ⟨all_bits _, by rw [List.length_map]; exact hl'⟩ hb
  · rcases h' with ⟨hb, _⟩ | ⟨w', a', c', hw', hl', rfl, hr'⟩
    · subst hw
      exact absurd ⟨all_bits _, by rw [List.length_map]; exact hl⟩ hb
    · have e : w = w' := mapbt_inj (hw.symm.trans hw')
      subst e
      exact ⟨packL w, 0, a, a', c, c', rfl, rfl, hr, hr'⟩

theorem UnpR.same {ns : List Nat} {v v' : Value} (h : UnpR ns v) (h' : UnpR ns v') : v = v' ∧ ∃ (s : List UInt8) (e : Int), v = .tuple [strV s, i64 e].toArray := by
  rcases h with ⟨k, b, h1, h2, h3, rfl⟩ | ⟨hn, rfl⟩
  · rcases h' with ⟨k', b', h1', h2', h3', rfl⟩ | ⟨hn, _⟩
    · rw [h1] at h1'
      injection h1' with e1 e2
      subst e1; subst e2
      exact ⟨rfl, _, _, rfl⟩
    · exact absurd ⟨k, b, h1, h2, h3⟩ hn
  · rcases h' with ⟨k', b', h1', h2', h3', _⟩ | ⟨_, rfl⟩
    · exact absurd ⟨k', b', h1', h2', h3'⟩ hn
    · exact ⟨rfl, _, _, rfl⟩

set_option maxRecDepth 100000 in
set_option maxHeartbeats 4000000 in
theorem law27_CodePacks_args {Hh : Hp} {v0 v1 : Value} (h0 : fitA Hh (false, [.k .s]) v0) (h1 : fitA Hh (false, [.sl [.i .u8]]) v1) :
    CallH Try.prog n_law27_CodePacks [v0, v1] Hh fun v H' => Post (v = .bool true ∧ Fresh Hh H') := by
  obtain ⟨bits, rfl, hbm⟩ := fitA_str27 h0
  obtain ⟨ns, a, c, rfl, hn, hnc, hnm, hns⟩ := fitA_bytes27 h1
  have hmx : maxLen = 9223372036854775807 := rfl
  refine c_law27_CodePacks ⟨rfl, ?_⟩
  simp (disch := (first | omega | (simp only [size_new, size_newm, size_wr, size_wrm] <;> omega) | fail)) only [go_sem, Nat.reduceBEq, Nat.reduceAdd, Nat.reduceMul, Nat.reduceLeDiff, ↓reduceIte, rd_new_lt, own_new_lt, mp_new_lt, rd_newm_lt, own_newm_lt, mp_newm_lt, rd_wr_ne, own_wr_ne, mp_wr_ne, rd_wrm_ne, own_wrm_ne, mp_wrm_ne, rd_new_eq, own_new_eq, mp_newm_eq, s_law27_CodePacks]
  refine (law27_codeAlive_spec Hh).mono ?_
  rintro _ H1 ⟨rfl, f1⟩
  simp (disch := (first | omega | (simp only [size_new, size_newm, size_wr, size_wrm] <;> omega) | fail)) only [go_sem, Nat.reduceBEq, Nat.reduceAdd, Nat.reduceMul, Nat.reduceLeDiff, ↓reduceIte, rd_new_lt, own_new_lt, mp_new_lt, rd_newm_lt, own_newm_lt, mp_newm_lt, rd_wr_ne, own_wr_ne, mp_wr_ne, rd_wrm_ne, own_wrm_ne, mp_wrm_ne, rd_new_eq, own_new_eq, mp_newm_eq]
  rw [List.size_toArray]
  refine Both.dec (fun g1 => ?_) (fun g1 => ?_) <;> simp (disch := (first | omega | (simp only [size_new, size_newm, size_wr, size_wrm] <;> omega) | fail)) only [go_sem, Nat.reduceBEq, Nat.reduceAdd, Nat.reduceMul, Nat.reduceLeDiff, ↓reduceIte, rd_new_lt, own_new_lt, mp_new_lt, rd_newm_lt, own_newm_lt, mp_newm_lt, rd_wr_ne, own_wr_ne, mp_wr_ne, rd_wrm_ne, own_wrm_ne, mp_wrm_ne, rd_new_eq, own_new_eq, mp_newm_eq]
  · exact ⟨rfl, f1⟩
  refine Both.dec (fun g2 => ?_) (fun g2 => ?_) <;> simp (disch := (first | omega | (simp only [size_new, size_newm, size_wr, size_wrm] <;> omega) | fail)) only [go_sem, Nat.reduceBEq, Nat.reduceAdd, Nat.reduceMul, Nat.reduceLeDiff, ↓reduceIte, rd_new_lt, own_new_lt, mp_new_lt, rd_newm_lt, own_newm_lt, mp_newm_lt, rd_wr_ne, own_wr_ne, mp_wr_ne, rd_wrm_ne, own_wrm_ne, mp_wrm_ne, rd_new_eq, own_new_eq, mp_newm_eq]
  · exact ⟨rfl, f1⟩
  refine (code_Pack_spec (H := H1) (bits := bits) (by omega)).mono ?_
  rintro v2 H2 ⟨f2, p2⟩
  obtain ⟨_, _, _, _, _, _, rfl, _, _, _⟩ := p2.same p2
  simp (disch := (first | omega | (simp only [size_new, size_newm, size_wr, size_wrm] <;> omega) | fail)) only [go_sem, Nat.reduceBEq, Nat.reduceAdd, Nat.reduceMul, Nat.reduceLeDiff, ↓reduceIte, rd_new_lt, own_new_lt, mp_new_lt, rd_newm_lt, own_newm_lt, mp_newm_lt, rd_wr_ne, own_wr_ne, mp_wr_ne, rd_wrm_ne, own_wrm_ne, mp_wrm_ne, rd_new_eq, own_new_eq, mp_newm_eq]
  refine (ref27_Pack_spec (H := H2) (bits := bits) (by omega)).mono ?_
  rintro v3 H3 ⟨f3, p3⟩
  obtain ⟨n1, e1, a1, a1', c1, c1', q1, rfl, r1, r1'⟩ := p2.same p3
  have q2 := congrArg Array.toList (Value.tuple.inj q1)
  injection q2 with q3 q4
  injection q3 with qa hl1 qc
  injection q4 with q5 _
  injection q5 with _ q6
  subst qa; subst qc; subst q6
  have f13 := (f1.trans f2).trans f3
  have r1 := r1.fresh f3
  simp (disch := (first | omega | (simp only [size_new, size_newm, size_wr, size_wrm] <;> omega) | fail)) only [go_sem, Nat.reduceBEq, Nat.reduceAdd, Nat.reduceMul, Nat.reduceLeDiff, ↓reduceIte, rd_new_lt, own_new_lt, mp_new_lt, rd_newm_lt, own_newm_lt, mp_newm_lt, rd_wr_ne, own_wr_ne, mp_wr_ne, rd_wrm_ne, own_wrm_ne, mp_wrm_ne, rd_new_eq, own_new_eq, mp_newm_eq]
  refine (code_Unpack_spec (hn.fresh f13) hnc hns (by omega)).mono ?_
  rintro v4 H4 ⟨u4, f4⟩
  obtain ⟨_, s4, e4, rfl⟩ := u4.same u4
  have f14 := f13.trans f4
  simp (disch := (first | omega | (simp only [size_new, size_newm, size_wr, size_wrm] <;> omega) | fail)) only [go_sem, Nat.reduceBEq, Nat.reduceAdd, Nat.reduceMul, Nat.reduceLeDiff, ↓reduceIte, rd_new_lt, own_new_lt, mp_new_lt, rd_newm_lt, own_newm_lt, mp_newm_lt, rd_wr_ne, own_wr_ne, mp_wr_ne, rd_wrm_ne, own_wrm_ne, mp_wrm_ne, rd_new_eq, own_new_eq, mp_newm_eq]
  refine (ref27_Unpack_spec (hn.fresh f14) hnc hns (by omega)).mono ?_
  rintro v5 H5 ⟨u5, e⟩
  obtain rfl := e
  obtain ⟨rfl, _⟩ := u4.same u5
  simp (disch := (first | omega | (simp only [size_new, size_newm, size_wr, size_wrm] <;> omega) | fail)) only [go_sem, Nat.reduceBEq, Nat.reduceAdd, Nat.reduceMul, Nat.reduceLeDiff, ↓reduceIte, rd_new_lt, own_new_lt, mp_new_lt, rd_newm_lt, own_newm_lt, mp_newm_lt, rd_wr_ne, own_wr_ne, mp_wr_ne, rd_wrm_ne, own_wrm_ne, mp_wrm_ne, rd_new_eq, own_new_eq, mp_newm_eq]
  rw [hl1]
  refine RdS.rowOf (r1.fresh f4) ?_
  rw [bytesOf_u8s]
  simp (disch := (first | omega | (simp only [size_new, size_newm, size_wr, size_wrm] <;> omega) | fail)) only [go_sem, Nat.reduceBEq, Nat.reduceAdd, Nat.reduceMul, Nat.reduceLeDiff, ↓reduceIte, rd_new_lt, own_new_lt, mp_new_lt, rd_newm_lt, own_newm_lt, mp_newm_lt, rd_wr_ne, own_wr_ne, mp_wr_ne, rd_wrm_ne, own_wrm_ne, mp_wrm_ne, rd_new_eq, own_new_eq, mp_newm_eq]
  refine RdS.rowOf (r1'.fresh f4) ?_
  rw [bytesOf_u8s]
  simp (disch := (first | omega | (simp only [size_new, size_newm, size_wr, size_wrm] <;> omega) | fail)) only [go_sem, Nat.reduceBEq, Nat.reduceAdd, Nat.reduceMul, Nat.reduceLeDiff, ↓reduceIte, rd_new_lt, own_new_lt, mp_new_lt, rd_newm_lt, own_newm_lt, mp_newm_lt, rd_wr_ne, own_wr_ne, mp_wr_ne, rd_wrm_ne, own_wrm_ne, mp_wrm_ne, rd_new_eq, own_new_eq, mp_newm_eq]
  refine Both.of_true (by rw [eq_bytes]; simp) ?_
  simp (disch := (first | omega | (simp only [size_new, size_newm, size_wr, size_wrm] <;> omega) | fail)) only [go_sem, Nat.reduceBEq, Nat.reduceAdd, Nat.reduceMul, Nat.reduceLeDiff, ↓reduceIte, rd_new_lt, own_new_lt, mp_new_lt, rd_newm_lt, own_newm_lt, mp_newm_lt, rd_wr_ne, own_wr_ne, mp_wr_ne, rd_wrm_ne, own_wrm_ne, mp_wrm_ne, rd_new_eq, own_new_eq, mp_newm_eq]
  refine Both.of_true (by simp) ?_
  simp (disch := (first | omega | (simp only [size_new, size_newm, size_wr, size_wrm] <;> omega) | fail)) only [go_sem, Nat.reduceBEq, Nat.reduceAdd, Nat.reduceMul, Nat.reduceLeDiff, ↓reduceIte, rd_new_lt, own_new_lt, mp_new_lt, rd_newm_lt, own_newm_lt, mp_newm_lt, rd_wr_ne, own_wr_ne, mp_wr_ne, rd_wrm_ne, own_wrm_ne, mp_wrm_ne, rd_new_eq, own_new_eq, mp_newm_eq]
  refine Both.of_true (by rw [eq_bytes]; simp) ?_
  simp (disch := (first | omega | (simp only [size_new, size_newm, size_wr, size_wrm] <;> omega) | fail)) only [go_sem, Nat.reduceBEq, Nat.reduceAdd, Nat.reduceMul, Nat.reduceLeDiff, ↓reduceIte, rd_new_lt, own_new_lt, mp_new_lt, rd_newm_lt, own_newm_lt, mp_newm_lt, rd_wr_ne, own_wr_ne, mp_wr_ne, rd_wrm_ne, own_wrm_ne, mp_wrm_ne, rd_new_eq, own_new_eq, mp_newm_eq]
  exact ⟨congrArg Value.bool (by simp), f14⟩

end Go.Proofs.Ytbnaicgmnadkgaa
