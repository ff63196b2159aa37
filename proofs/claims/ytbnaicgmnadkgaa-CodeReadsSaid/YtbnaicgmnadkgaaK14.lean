/-
  Texts put behind each other by a program: SortI, Rpt, Bld.
-/
import Derived.Test.YtbnaicgmnadkgaaK3
import Derived.Test.YtbnaicgmnadkgaaK13
import Derived.Shelf.Sort.Plain
import Derived.Shelf.Slices.In.SortNone
import Derived.Shelf.Strings.Repeat
import Derived.Shelf.Strings.Builder1
/-
  slices.Sort of numbers, told of the heap.
-/
set_option linter.unusedVariables false
set_option linter.unusedSimpArgs false
namespace Go.Proofs.Ytbnaicgmnadkgaa
open Go Go.Vc Go.Sort

def sortI (xs : List Int) : List Int := xs.mergeSort fun x y => decide (x ≤ y)
theorem sortI_len (xs : List Int) : (sortI xs).length = xs.length := List.length_mergeSort _

theorem own_parts {H : Hp} {b : Nat} {l : List Value} (h : H.own b = some l) : ∃ T fr, H[b]? = some (.cells l.toArray T fr) := by
  unfold Hp.own at h
  split at h
  · rename_i c t fr hb
    split at h
    · injection h with h
      exact ⟨t, fr, by rw [hb, ← h]⟩
    · cases h
  · cases h

theorem putCells_list (off : Nat) (d : List Int) (l : List Value) (h : off + d.length ≤ l.length) : (putCells (Value.int .i64) off d.toArray l.toArray).toList = l.take off ++ d.map i64 ++ l.drop (off + d.length) := by
  apply List.ext_getElem?
  intro k
  rw [Array.getElem?_toList]
  simp only [putCells, Array.getElem?_mapIdx, List.getElem?_toArray, List.size_toArray]
  by_cases h1 : k < off
  · rw [List.append_assoc, List.getElem?_append_left (by rw [List.length_take]; omega), List.getElem?_take, if_pos h1, List.getElem?_eq_getElem (by omega)]
    simp; omega
  · by_cases h2 : k < off + d.length
    · rw [List.getElem?_append_left (by simp; omega), List.getElem?_append_right (by rw [List.length_take]; omega), List.length_take, Nat.min_eq_left (by omega), List.getElem?_map, List.getElem?_eq_getElem (by omega), List.getElem?_eq_getElem (by omega)]
      simp only [Option.map_some]
      rw [if_pos ⟨by omega, h2⟩]
      congr 2
      simp [show k - off < d.length by omega]
    · rw [List.getElem?_append_right (by simp; omega), List.getElem?_drop]
      simp only [List.length_append, List.length_take, List.length_map, Nat.min_eq_left (show off ≤ l.length by omega)]
      rw [show off + d.length + (k - (off + d.length)) = k by omega]
      cases hk : l[k]? with
      | none => rfl
      | some x => simp; omega

set_option maxHeartbeats 1000000 in
theorem slices_Sort_spec {H : Hp} {sv : Value} {xs : List Int} {fp : Option Nat} (h : Sl H 1 sv xs.length (xs.map i64) fp) (hl : xs.length ≤ 1000000000) :
    CallH Try.prog n_slices_Sort_int_int [sv] H fun v H' => Post (v = .tuple [].toArray ∧ Sl H' 1 sv xs.length ((sortI xs).map i64) fp ∧ Ext (fun z => fp = some z) H H') := fun w hw => by
  obtain ⟨hx, h⟩ := h
  cases fp with
  | none =>
    obtain ⟨h0, rfl⟩ := h
    have hx0 : xs = [] := List.length_eq_zero_iff.1 h0
    subst hx0
    refine (Try.slices_Sort_int_none none 0 w).mono ?_
    rintro e w' ⟨rfl, rfl⟩
    exact ⟨_, rfl, Same.refl _, rfl, ⟨by simp [sortI], h0, rfl⟩, by rw [← hw]; exact Ext.refl _ _⟩
  | some b =>
    obtain ⟨l, c, rfl, ho, hc, hle, ht⟩ := h
    obtain ⟨T, fr, hb⟩ := own_parts ho
    rw [Nat.mul_one] at ht
    have hcell : ∀ j, j < xs.length → l[j]? = some (i64 xs[j]!) := fun j hj => by
      have : (xs.map i64)[j]? = some (i64 xs[j]!) := by rw [List.getElem?_map, List.getElem?_eq_getElem hj]; simp [hj]
      rw [← ht, List.getElem?_take, if_pos hj] at this
      exact this
    have hH : Holds (Value.int .i64) w b 0 xs.toArray := fun j hj => by
      rw [List.size_toArray] at hj
      refine ⟨?_, frozen_of_own (by rw [hw]; exact ho) _⟩
      rw [cell_of_rd (l := l) rfl (rd_of_own (by rw [hw]; exact ho))]
      simp only [Nat.zero_add]
      rw [hcell j hj]
      simp [hj]
    refine (Try.slices_Sort_int b 0 c xs w hH (by rw [hw]; exact own_lt ho) (by omega)).mono ?_
    rintro e w' ⟨rfl, n, os, rfl⟩
    have hput := putCells_list 0 (sortI xs) l (by rw [sortI_len]; omega)
    have hlt := own_lt ho
    have hheap : (grow (putRow (Value.int .i64) (Sort.ahead w n) b 0 (sortI xs).toArray) os).heap = (H.modify b (onCells (putCells (Value.int .i64) 0 (sortI xs).toArray))) ++ os := by
      rw [← hw]; rfl
    have hget : ((H.modify b (onCells (putCells (Value.int .i64) 0 (sortI xs).toArray))) ++ os)[b]? = some (.cells (putCells (Value.int .i64) 0 (sortI xs).toArray l.toArray) T fr) := by
      rw [Array.getElem?_append_left (by simpa using hlt), Array.getElem?_modify, if_pos rfl, hb]
      rfl
    refine ⟨_, rfl, ⟨rfl, rfl⟩, rfl, ⟨by simp [sortI_len], l.take 0 ++ (sortI xs).map i64 ++ l.drop (0 + (sortI xs).length), c, rfl, ?_, hc, ?_, ?_⟩, ?_⟩
    · show Hp.own (grow (putRow (Value.int .i64) (Sort.ahead w n) b 0 (sortI xs).toArray) os).heap b = _
      rw [hheap, ← hput]
      unfold Hp.own at ho ⊢
      rw [hb] at ho
      rw [hget]
      simp only at ho ⊢
      split at ho
      · rename_i hf
        simp only [hf, if_true]
      · cases ho
    · simp only [List.take_zero, List.nil_append, List.length_append, List.length_map, List.length_drop, sortI_len]
      omega
    · rw [Nat.mul_one, List.take_zero, List.nil_append]
      exact List.take_left' (by simp [sortI_len])
    · refine ⟨?_, fun k hk hn => ?_⟩
      · show _ ≤ (grow (putRow (Value.int .i64) (Sort.ahead w n) b 0 (sortI xs).toArray) os).heap.size
        rw [hheap]; simp
      · show (grow (putRow (Value.int .i64) (Sort.ahead w n) b 0 (sortI xs).toArray) os).heap[k]? = _
        rw [hheap, Array.getElem?_append_left (by simpa using hk), Array.getElem?_modify, if_neg (fun e => hn (by rw [e]))]

end Go.Proofs.Ytbnaicgmnadkgaa

/-
  strings.Repeat, told of the heap.
-/
set_option linter.unusedVariables false
set_option linter.unusedSimpArgs false
namespace Go.Proofs.Ytbnaicgmnadkgaa
open Go Go.Vc Go.Shelf Go.RowKit

theorem Repeat_spec (H : Hp) (s : List UInt8) (c : Nat) (hl : s.length ≤ 1000) (hc : c ≤ 1000000) :
    CallH Try.prog 55 [strV s, i64 (c : Int)] H fun v H' => Post (v = strV (Lib.repeatL s c) ∧ Fresh H H') := fun w hw => by
  have hs : (⟨s.toArray⟩ : ByteArray).size = s.length := by simp [ByteArray.size]
  have hm : s.length * c ≤ 1000 * 1000000 := Nat.mul_le_mul hl hc
  refine (Try.strings_Repeat ⟨s.toArray⟩ c w (by omega) (by rw [hs]; omega)).mono ?_
  rintro e w' ⟨rfl, hb⟩
  refine ⟨_, rfl, ⟨hb.os, hb.output⟩, rfl, ?_⟩
  rw [← hw]
  exact ⟨hb.size, fun k hk _ => hb.block k hk⟩

theorem repeat_one (b : UInt8) (c : Nat) : Lib.repeatL [b] c = List.replicate c b := by
  induction c with
  | zero => rfl
  | succ c ih => rw [Lib.repeatL, ih, List.replicate_succ]; rfl

end Go.Proofs.Ytbnaicgmnadkgaa

/-
  strings.Builder: a builder of the call's own; what WriteString and String do to it.
-/
set_option linter.unusedVariables false
set_option linter.unusedSimpArgs false
namespace Go.Proofs.Ytbnaicgmnadkgaa
open Go Go.Vc Go.Shelf Go.RowKit

theorem sizeBuilder : (Try.prog.info? 102).map (·.size) = some 2 := by kernel_rfl
theorem liesBuilder : liesAt Try.prog Try.prog.depth 102 (2 / Try.prog.cellsOf 102) 0 102 1 = true := by kernel_rfl

set_option maxHeartbeats 1000000 in
set_option maxRecDepth 100000 in
theorem copyCheck_used (b : Nat) (w : World) (h0 : w.cell? ⟨b, 0, none⟩ = some (.pointer (some ⟨b, 0, none⟩))) :
    Calls Try.prog 89 #[.pointer (some ⟨b, 0, none⟩)] w fun e w' => e = .returned (.tuple #[]) ∧ w' = w := by
  obtain ⟨j, hj, _⟩ := Option.map_eq_some_iff.1 sizeBuilder
  have mixed := Try.checked.mixed
  have t72 := Try.underlying102; have a72 := Try.isAgg102; have z72 := Try.sizeOf102; have v72 := Try.zeroValue102; have u72 := run_underlying Try.underlying102
  have t70 := Try.underlying100; have a70 := Try.isAgg100; have z70 := Try.sizeOf100; have v70 := Try.zeroValue100; have u70 := run_underlying Try.underlying100
  have t4 := Try.underlying4; have a4 := Try.isAgg4; have z4 := Try.sizeOf4; have v4 := Try.zeroValue4; have u4 := run_underlying Try.underlying4
  have t164 := Try.underlying151; have a164 := Try.isAgg151; have z164 := Try.sizeOf151; have v164 := Try.zeroValue151; have u164 := run_underlying Try.underlying151
  go_enter Try.func89, Try.ntmps89
  go_wp2
  rw [Lib.run_neq_ptr_same w _ t70 hj]
  go_wp2
  go_end0
  exact ⟨rfl, rfl⟩

set_option maxHeartbeats 1000000 in
set_option maxRecDepth 100000 in
theorem copyCheck_fresh (b : Nat) (w : World) (h0 : w.cell? ⟨b, 0, none⟩ = some (.pointer none)) (hsh : w.shape? b = some (102, 2)) (hfz : w.frozen? ⟨b, 0, none⟩ = false) :
    Calls Try.prog 89 #[.pointer (some ⟨b, 0, none⟩)] w fun e w' => e = .returned (.tuple #[]) ∧ w' = w.setCell ⟨b, 0, none⟩ (.pointer (some ⟨b, 0, none⟩)) := by
  obtain ⟨j, hj, hjs⟩ := Option.map_eq_some_iff.1 sizeBuilder
  have mixed := Try.checked.mixed
  have t72 := Try.underlying102; have a72 := Try.isAgg102; have z72 := Try.sizeOf102; have v72 := Try.zeroValue102; have u72 := run_underlying Try.underlying102
  have t70 := Try.underlying100; have a70 := Try.isAgg100; have z70 := Try.sizeOf100; have v70 := Try.zeroValue100; have u70 := run_underlying Try.underlying100
  have t4 := Try.underlying4; have a4 := Try.isAgg4; have z4 := Try.sizeOf4; have v4 := Try.zeroValue4; have u4 := run_underlying Try.underlying4
  have t164 := Try.underlying151; have a164 := Try.isAgg151; have z164 := Try.sizeOf151; have v164 := Try.zeroValue151; have u164 := run_underlying Try.underlying151
  go_enter Try.func89, Try.ntmps89
  go_wp2
  rw [Lib.run_to_unsafe w ⟨b, 0, none⟩ t70 t164 hj (by rw [hjs]; decide) hsh (Nat.zero_lt_succ 1)]
  simp only [Result.andThen]
  rw [Oper.upon_value]
  go_wp2
  rw [run_callFunc_extern Try.func110 (by kernel_rfl) (by kernel_rfl) (by kernel_rfl) (e := Extern.AbiNoEscape.same) (by kernel_rfl)]
  rw [Lib.run_noEscape]
  simp only [Result.andThen]
  rw [Oper.upon_value]
  go_wp2
  rw [Lib.run_from_unsafe w ⟨b, 0, none⟩ t164 t70 hj hsh liesBuilder]
  simp only [Result.andThen]
  rw [Oper.upon_value]
  go_wp2
  go_end0
  exact ⟨rfl, rfl⟩

theorem copyCheck_spec (B b : Nat) (bs : List Value) (w : World) (h : Lib.IsBuilder 102 5 B b bs w) :
    Calls Try.prog 89 #[.pointer (some ⟨b, 0, none⟩)] w fun e w' => e = .returned (.tuple #[]) ∧ (Lib.BuilderAt 102 5 B b (.pointer (some ⟨b, 0, none⟩)) bs w' ∧ Below B w w') := by
  rcases h with h | h
  · refine (copyCheck_fresh b w h.cell0 h.shape h.frozen0).mono ?_
    rintro e w' ⟨rfl, rfl⟩
    exact ⟨rfl, h.used _, (Below.refl B w).setCell (p := ⟨b, 0, none⟩) h.1 _⟩
  · refine (copyCheck_used b w h.cell0).mono ?_
    rintro e w' ⟨rfl, rfl⟩
    exact ⟨rfl, h, Below.refl B _⟩

theorem byteInfo : (Try.prog.info? 5).map (fun i => (i.zero, i.size, i.bytes)) = some (some (.int .u8 0), 1, 1) := by kernel_rfl
theorem neB5 : 102 ≠ 5 := by decide

set_option maxHeartbeats 2000000 in
set_option maxRecDepth 100000 in
theorem writeString_run (B b : Nat) (bs : List Value) (s : ByteArray) (w : World) (h : Lib.IsBuilder 102 5 B b bs w) (hlen : bs.length + s.size ≤ 140737488355328) (hBw : B ≤ w.heap.size) :
    Calls Try.prog 64 #[.pointer (some ⟨b, 0, none⟩), .string s] w fun e w' => e = .returned (.tuple #[.int .i64 s.size, .nilIface]) ∧ (Lib.BuilderAt 102 5 B b (.pointer (some ⟨b, 0, none⟩)) (bs ++ Lib.strCells s) w' ∧ Below B w w') := by
  obtain ⟨i0, hi, hz0, hz1, hz2⟩ := info_parts byteInfo
  have mixed := Try.checked.mixed
  have t72 := Try.underlying102; have a72 := Try.isAgg102; have z72 := Try.sizeOf102; have v72 := Try.zeroValue102; have u72 := run_underlying Try.underlying102
  have t70 := Try.underlying100; have a70 := Try.isAgg100; have z70 := Try.sizeOf100; have v70 := Try.zeroValue100; have u70 := run_underlying Try.underlying100
  have t37 := Try.underlying47; have a37 := Try.isAgg47; have z37 := Try.sizeOf47; have v37 := Try.zeroValue47; have u37 := run_underlying Try.underlying47
  have t3 := Try.underlying3; have a3 := Try.isAgg3; have z3 := Try.sizeOf3; have v3 := Try.zeroValue3; have u3 := run_underlying Try.underlying3
  have t9 := Try.underlying9; have a9 := Try.isAgg9; have z9 := Try.sizeOf9; have v9 := Try.zeroValue9; have u9 := run_underlying Try.underlying9
  have t4 := Try.underlying4; have a4 := Try.isAgg4; have z4 := Try.sizeOf4; have v4 := Try.zeroValue4; have u4 := run_underlying Try.underlying4
  have t164 := Try.underlying151; have a164 := Try.isAgg151; have z164 := Try.sizeOf151; have v164 := Try.zeroValue151; have u164 := run_underlying Try.underlying151
  have t5 := Try.underlying5; have a5 := Try.isAgg5; have z5 := Try.sizeOf5; have v5 := Try.zeroValue5; have u5 := run_underlying Try.underlying5
  have e240 : ∀ args w, (callFunc 89 args).run Try.prog w = .ok (.enter 89 args) w := enters_of Try.func89 (by kernel_rfl) rfl
  go_enter Try.func64, Try.ntmps64
  go_wp2_with (go_at_fn 89; refine (copyCheck_spec B b bs _ h).mono ?_)
  rintro e w1 ⟨rfl, h1, hb1⟩
  obtain ⟨hB, v, hbk, hown, hne⟩ := h1
  have c0 : w1.cell? ⟨b, 0, none⟩ = some (.pointer (some ⟨b, 0, none⟩)) := by rw [Lib.cell_of_heap hbk]; rfl
  have c1 : w1.cell? ⟨b, 1, none⟩ = some v := by rw [Lib.cell_of_heap hbk]; rfl
  go_wp2_with (at_builtin; refine Lib.wpList_append_own_string _ rfl _ _ 47 9 rfl B 5 i0 t37 t9 hi hz0 hz1 hz2 _ _ _ rfl hown s rfl ?c3 ?c4 ?c5 ?_)
  case c3 => unfold maxLen; omega
  case c4 => omega
  case c5 => have := hb1.size; omega
  intro v' w2 hown' hgrow _
  have hlt : b < w1.heap.size := by
    rcases Nat.lt_or_ge b w1.heap.size with h' | h'
    · exact h'
    · simp [Array.getElem?_eq_none h'] at hbk
  have hb2 : w2.heap[b]? = some (.cells #[.pointer (some ⟨b, 0, none⟩), v] 102 (0, 0)) := by
    rw [hgrow.block b hlt (fun e => hne e.symm)]
    exact hbk
  have d0 : w2.cell? ⟨b, 0, none⟩ = some (.pointer (some ⟨b, 0, none⟩)) := by rw [Lib.cell_of_heap hb2]; rfl
  have d1 : w2.cell? ⟨b, 1, none⟩ = some v := by rw [Lib.cell_of_heap hb2]; rfl
  have f1 : w2.frozen? ⟨b, 1, none⟩ = false := Lib.frozen_of_heap hb2 1
  obtain ⟨ao, n', cap, rfl⟩ : ∃ ao n' cap, v' = .slice ao n' cap := by
    rcases hown'.2 with ⟨hv, _⟩ | ⟨g, cap, cur, hv, _⟩
    · exact ⟨_, _, _, hv⟩
    · exact ⟨_, _, _, hv⟩
  go_wp2
  go_ret2
  refine ⟨rfl, ?_, ?_⟩
  · exact Lib.BuilderAt.put (T := 102) (e := 5) hB hb2 (bs' := bs ++ Lib.strCells s) (by simpa [Lib.strCells_length] using hown') neB5
  · exact (hb1.grown hgrow (by have := hb1.size; omega) (fun k hk => (hown.lt k hk).1)).setCell (p := ⟨b, 1, none⟩) hB _

/-! ### Told of the heap -/

theorem isBuilder_heap {T e : TypeId} {B b : Nat} {bs : List Value} {w w' : World} (h : Lib.IsBuilder T e B b bs w) (hh : w'.heap = w.heap) : Lib.IsBuilder T e B b bs w' := by
  unfold Lib.IsBuilder Lib.BuilderAt World.ownsRow at *
  rw [hh]
  exact h

/-- A builder of the call's own (its blocks from B on), and what it holds. -/
def BldH (B b : Nat) (s : List UInt8) (H : Hp) : Prop := B ≤ H.size ∧ ∀ w : World, w.heap = H → Lib.IsBuilder 102 5 B b (Lib.byteCells s) w

theorem BldH.of {B b : Nat} {s : List UInt8} {w : World} (hB : B ≤ w.heap.size) (h : Lib.IsBuilder 102 5 B b (Lib.byteCells s) w) : BldH B b s w.heap := ⟨hB, fun w' hw => isBuilder_heap h hw⟩

theorem BldH.new {B : Nat} (H : Hp) (hB : B ≤ H.size) : BldH B H.size [] (H.new 102 [.pointer none, .slice none 0 0]) := by
  refine ⟨by rw [size_new]; omega, fun w hw => .inl ⟨hB, .slice none 0 0, ?_, ⟨by simp [Lib.byteCells], .inl ⟨rfl, rfl⟩⟩, by simp [Value.ownBlock]⟩⟩
  rw [hw]
  simp [Hp.new]

theorem BldH.fresh {B b : Nat} {s : List UInt8} {H H' : Hp} (h : BldH B b s H) (f : Fresh H H') : BldH B b s H' := by
  obtain ⟨hB, h⟩ := h
  refine ⟨Nat.le_trans hB f.size, fun w hw => ?_⟩
  have h0 := h { w with heap := H } rfl
  have keep : ∀ (k : Nat) (o : Obj), H[k]? = some o → w.heap[k]? = some o := fun k o hk => by
    rw [hw, f.keep k (Array.getElem?_eq_some_iff.1 hk).1 (fun h => h)]; exact hk
  have key : ∀ p, Lib.BuilderAt 102 5 B b p (Lib.byteCells s) { w with heap := H } → Lib.BuilderAt 102 5 B b p (Lib.byteCells s) w := by
    rintro p ⟨h1, v, h2, ⟨h3, h4⟩, h5⟩
    refine ⟨h1, v, keep _ _ h2, ⟨h3, ?_⟩, h5⟩
    rcases h4 with h4 | ⟨g, cap, cur, e1, e2, e3, e4⟩
    · exact .inl h4
    · exact .inr ⟨g, cap, cur, e1, e2, keep _ _ e3, e4⟩
  rcases h0 with h0 | h0
  · exact .inl (key _ h0)
  · exact .inr (key _ h0)

theorem ext_of_below {B : Nat} {w w' : World} (h : Below B w w') : Same w w' ∧ Ext (fun z => B ≤ z) w.heap w'.heap := ⟨⟨h.os, h.output⟩, h.size, fun k _ hk => h.block k (Nat.lt_of_not_le hk)⟩

theorem WriteString_spec {B b : Nat} {s : List UInt8} {H : Hp} (h : BldH B b s H) (t : List UInt8) (hl : s.length + t.length ≤ 1000000000000) :
    CallH Try.prog n_strings_Builder_WriteString [ptr b, strV t] H fun v H' => Post (v = .tuple [i64 t.length, .nilIface].toArray ∧ BldH B b (s ++ t) H' ∧ Ext (fun z => B ≤ z) H H') := fun w hw => by
  obtain ⟨hB, h⟩ := h
  have hs : (⟨t.toArray⟩ : ByteArray).size = t.length := by simp [ByteArray.size]
  refine (writeString_run B b (Lib.byteCells s) ⟨t.toArray⟩ w (h w hw) (by rw [hs, Lib.byteCells_length]; omega) (by rw [hw]; exact hB)).mono ?_
  rintro e w' ⟨rfl, hb, hbel⟩
  obtain ⟨s1, s2⟩ := ext_of_below hbel
  refine ⟨_, rfl, s1, by rw [hs], ?_, by rw [← hw]; exact s2⟩
  have e1 : Lib.byteCells s ++ Lib.strCells ⟨t.toArray⟩ = Lib.byteCells (s ++ t) := by simp [Lib.byteCells, Lib.strCells]
  rw [e1] at hb
  exact BldH.of (by have := hbel.size; rw [hw] at this; omega) (.inr hb)

theorem BString_spec {B b : Nat} {s : List UInt8} {H : Hp} (h : BldH B b s H) :
    CallH Try.prog 65 [ptr b] H fun v H' => Post (v = strV s ∧ Ext (fun z => B ≤ z) H H') := fun w hw => by
  obtain ⟨hB, h⟩ := h
  refine (Try.Builder_String_any B b s w (h w hw) (by rw [hw]; exact hB)).mono ?_
  rintro e w' ⟨rfl, hbel⟩
  obtain ⟨s1, s2⟩ := ext_of_below hbel
  exact ⟨_, rfl, s1, rfl, by rw [← hw]; exact s2⟩

end Go.Proofs.Ytbnaicgmnadkgaa
