/-
  strings.Builder: a builder of the call's own; what WriteString and String do to it.
-/
import Derived.Test.YtkcpoiploighiaaDoorBase
import Derived.Test.YtkcpoiploighiaaDoorTabsI
import Derived.Test.YtkcpoiploighiaaDoorShelf
import Derived.Shelf.Strings.Builder1
set_option linter.unusedVariables false
set_option linter.unusedSimpArgs false
namespace Go.Proofs.YtkcpoiploighiaaDoor
open Go Go.Vc Go.Shelf Go.RowKit

theorem sizeBuilder : (Tryd.prog.info? 72).map (·.size) = some 2 := by kernel_rfl
theorem liesBuilder : liesAt Tryd.prog Tryd.prog.depth 72 (2 / Tryd.prog.cellsOf 72) 0 72 1 = true := by kernel_rfl

set_option maxHeartbeats 1000000 in
set_option maxRecDepth 100000 in
theorem copyCheck_used (b : Nat) (w : World) (h0 : w.cell? ⟨b, 0, none⟩ = some (.pointer (some ⟨b, 0, none⟩))) :
    Calls Tryd.prog 53 #[.pointer (some ⟨b, 0, none⟩)] w fun e w' => e = .returned (.tuple #[]) ∧ w' = w := by
  obtain ⟨j, hj, _⟩ := Option.map_eq_some_iff.1 sizeBuilder
  have mixed := Tryd.checked.mixed
  have t72 := Tryd.underlying72; have a72 := Tryd.isAgg72; have z72 := Tryd.sizeOf72; have v72 := Tryd.zeroValue72; have u72 := run_underlying Tryd.underlying72
  have t70 := Tryd.underlying69; have a70 := Tryd.isAgg69; have z70 := Tryd.sizeOf69; have v70 := Tryd.zeroValue69; have u70 := run_underlying Tryd.underlying69
  have t4 := Tryd.underlying4; have a4 := Tryd.isAgg4; have z4 := Tryd.sizeOf4; have v4 := Tryd.zeroValue4; have u4 := run_underlying Tryd.underlying4
  have t164 := Tryd.underlying98; have a164 := Tryd.isAgg98; have z164 := Tryd.sizeOf98; have v164 := Tryd.zeroValue98; have u164 := run_underlying Tryd.underlying98
  go_enter Tryd.func53, Tryd.ntmps53
  go_wp2
  rw [Lib.run_neq_ptr_same w _ t70 hj]
  go_wp2
  go_end0
  exact ⟨rfl, rfl⟩

set_option maxHeartbeats 1000000 in
set_option maxRecDepth 100000 in
theorem copyCheck_fresh (b : Nat) (w : World) (h0 : w.cell? ⟨b, 0, none⟩ = some (.pointer none)) (hsh : w.shape? b = some (72, 2)) (hfz : w.frozen? ⟨b, 0, none⟩ = false) :
    Calls Tryd.prog 53 #[.pointer (some ⟨b, 0, none⟩)] w fun e w' => e = .returned (.tuple #[]) ∧ w' = w.setCell ⟨b, 0, none⟩ (.pointer (some ⟨b, 0, none⟩)) := by
  obtain ⟨j, hj, hjs⟩ := Option.map_eq_some_iff.1 sizeBuilder
  have mixed := Tryd.checked.mixed
  have t72 := Tryd.underlying72; have a72 := Tryd.isAgg72; have z72 := Tryd.sizeOf72; have v72 := Tryd.zeroValue72; have u72 := run_underlying Tryd.underlying72
  have t70 := Tryd.underlying69; have a70 := Tryd.isAgg69; have z70 := Tryd.sizeOf69; have v70 := Tryd.zeroValue69; have u70 := run_underlying Tryd.underlying69
  have t4 := Tryd.underlying4; have a4 := Tryd.isAgg4; have z4 := Tryd.sizeOf4; have v4 := Tryd.zeroValue4; have u4 := run_underlying Tryd.underlying4
  have t164 := Tryd.underlying98; have a164 := Tryd.isAgg98; have z164 := Tryd.sizeOf98; have v164 := Tryd.zeroValue98; have u164 := run_underlying Tryd.underlying98
  go_enter Tryd.func53, Tryd.ntmps53
  go_wp2
  rw [Lib.run_to_unsafe w ⟨b, 0, none⟩ t70 t164 hj (by rw [hjs]; decide) hsh (Nat.zero_lt_succ 1)]
  simp only [Result.andThen]
  rw [Oper.upon_value]
  go_wp2
  rw [run_callFunc_extern Tryd.func62 (by kernel_rfl) (by kernel_rfl) (by kernel_rfl) (e := Extern.AbiNoEscape.same) (by kernel_rfl)]
  rw [Lib.run_noEscape]
  simp only [Result.andThen]
  rw [Oper.upon_value]
  go_wp2
  rw [Lib.run_from_unsafe w ⟨b, 0, none⟩ t164 t70 hj hsh liesBuilder]
  simp only [Result.andThen]
  rw [Oper.upon_value]
  go_wp2
  go_end0
  exact ⟨rfl, rfl⟩

theorem copyCheck_spec (B b : Nat) (bs : List Value) (w : World) (h : Lib.IsBuilder 72 5 B b bs w) :
    Calls Tryd.prog 53 #[.pointer (some ⟨b, 0, none⟩)] w fun e w' => e = .returned (.tuple #[]) ∧ (Lib.BuilderAt 72 5 B b (.pointer (some ⟨b, 0, none⟩)) bs w' ∧ Below B w w') := by
  rcases h with h | h
  · refine (copyCheck_fresh b w h.cell0 h.shape h.frozen0).mono ?_
    rintro e w' ⟨rfl, rfl⟩
    exact ⟨rfl, h.used _, (Below.refl B w).setCell (p := ⟨b, 0, none⟩) h.1 _⟩
  · refine (copyCheck_used b w h.cell0).mono ?_
    rintro e w' ⟨rfl, rfl⟩
    exact ⟨rfl, h, Below.refl B _⟩

theorem byteInfo : (Tryd.prog.info? 5).map (fun i => (i.zero, i.size, i.bytes)) = some (some (.int .u8 0), 1, 1) := by kernel_rfl
theorem neB5 : 72 ≠ 5 := by decide

set_option maxHeartbeats 2000000 in
set_option maxRecDepth 100000 in
theorem writeString_run (B b : Nat) (bs : List Value) (s : ByteArray) (w : World) (h : Lib.IsBuilder 72 5 B b bs w) (hlen : bs.length + s.size ≤ 140737488355328) (hBw : B ≤ w.heap.size) :
    Calls Tryd.prog 40 #[.pointer (some ⟨b, 0, none⟩), .string s] w fun e w' => e = .returned (.tuple #[.int .i64 s.size, .nilIface]) ∧ (Lib.BuilderAt 72 5 B b (.pointer (some ⟨b, 0, none⟩)) (bs ++ Lib.strCells s) w' ∧ Below B w w') := by
  obtain ⟨i0, hi, hz0, hz1, hz2⟩ := info_parts byteInfo
  have mixed := Tryd.checked.mixed
  have t72 := Tryd.underlying72; have a72 := Tryd.isAgg72; have z72 := Tryd.sizeOf72; have v72 := Tryd.zeroValue72; have u72 := run_underlying Tryd.underlying72
  have t70 := Tryd.underlying69; have a70 := Tryd.isAgg69; have z70 := Tryd.sizeOf69; have v70 := Tryd.zeroValue69; have u70 := run_underlying Tryd.underlying69
  have t37 := Tryd.underlying70; have a37 := Tryd.isAgg70; have z37 := Tryd.sizeOf70; have v37 := Tryd.zeroValue70; have u37 := run_underlying Tryd.underlying70
  have t3 := Tryd.underlying3; have a3 := Tryd.isAgg3; have z3 := Tryd.sizeOf3; have v3 := Tryd.zeroValue3; have u3 := run_underlying Tryd.underlying3
  have t9 := Tryd.underlying9; have a9 := Tryd.isAgg9; have z9 := Tryd.sizeOf9; have v9 := Tryd.zeroValue9; have u9 := run_underlying Tryd.underlying9
  have t4 := Tryd.underlying4; have a4 := Tryd.isAgg4; have z4 := Tryd.sizeOf4; have v4 := Tryd.zeroValue4; have u4 := run_underlying Tryd.underlying4
  have t164 := Tryd.underlying98; have a164 := Tryd.isAgg98; have z164 := Tryd.sizeOf98; have v164 := Tryd.zeroValue98; have u164 := run_underlying Tryd.underlying98
  have t5 := Tryd.underlying5; have a5 := Tryd.isAgg5; have z5 := Tryd.sizeOf5; have v5 := Tryd.zeroValue5; have u5 := run_underlying Tryd.underlying5
  have e240 : ∀ args w, (callFunc 53 args).run Tryd.prog w = .ok (.enter 53 args) w := enters_of Tryd.func53 (by kernel_rfl) rfl
  go_enter Tryd.func40, Tryd.ntmps40
  go_wp2_with (go_at_fn 53; refine (copyCheck_spec B b bs _ h).mono ?_)
  rintro e w1 ⟨rfl, h1, hb1⟩
  obtain ⟨hB, v, hbk, hown, hne⟩ := h1
  have c0 : w1.cell? ⟨b, 0, none⟩ = some (.pointer (some ⟨b, 0, none⟩)) := by rw [Lib.cell_of_heap hbk]; rfl
  have c1 : w1.cell? ⟨b, 1, none⟩ = some v := by rw [Lib.cell_of_heap hbk]; rfl
  go_wp2_with (at_builtin; refine Lib.wpList_append_own_string _ rfl _ _ 70 9 rfl B 5 i0 t37 t9 hi hz0 hz1 hz2 _ _ _ rfl hown s rfl ?c3 ?c4 ?c5 ?_)
  case c3 => unfold maxLen; omega
  case c4 => omega
  case c5 => have := hb1.size; omega
  intro v' w2 hown' hgrow _
  have hlt : b < w1.heap.size := by
    rcases Nat.lt_or_ge b w1.heap.size with h' | h'
    · exact h'
    · simp [Array.getElem?_eq_none h'] at hbk
  have hb2 : w2.heap[b]? = some (.cells #[.pointer (some ⟨b, 0, none⟩), v] 72 (0, 0)) := by
    rw [hgrow.block b hlt (fun e => hne e.symm)]
    exact hbk
  have d0 : w2.cell? ⟨b, 0, none⟩ = some (.pointer (some ⟨b, 0, none⟩)) := by rw [Lib.cell_of_heap hb2]; rfl
  have d1 : w2.cell? ⟨b, 1, none⟩ = some v := by rw [Lib.cell_of_heap hb2]; rfl
  have f1 : w2.frozen? ⟨b, 1, none⟩ = false := Lib.frozen_of_heap hb2 1
  obtain ⟨ao, n', cap, rfl⟩ : ∃ ao n' cap, v' = .slice ao n' cap := by
    rcases hown'.2 with ⟨hv, _⟩ | ⟨g, cap, cur, hv, _⟩
    · exact ⟨_, _, _, hv⟩
    · exact ⟨_, _, _, hv⟩
  go_wp2
  go_ret2
  refine ⟨rfl, ?_, ?_⟩
  · exact Lib.BuilderAt.put (T := 72) (e := 5) hB hb2 (bs' := bs ++ Lib.strCells s) (by simpa [Lib.strCells_length] using hown') neB5
  · exact (hb1.grown hgrow (by have := hb1.size; omega) (fun k hk => (hown.lt k hk).1)).setCell (p := ⟨b, 1, none⟩) hB _

/-! ### Told of the heap -/

theorem isBuilder_heap {T e : TypeId} {B b : Nat} {bs : List Value} {w w' : World} (h : Lib.IsBuilder T e B b bs w) (hh : w'.heap = w.heap) : Lib.IsBuilder T e B b bs w' := by
  unfold Lib.IsBuilder Lib.BuilderAt World.ownsRow at *
  rw [hh]
  exact h

/-- A builder of the call's own (its blocks from B on), and what it holds. -/
def BldH (B b : Nat) (s : List UInt8) (H : Hp) : Prop := B ≤ H.size ∧ ∀ w : World, w.heap = H → Lib.IsBuilder 72 5 B b (Lib.byteCells s) w

theorem BldH.of {B b : Nat} {s : List UInt8} {w : World} (hB : B ≤ w.heap.size) (h : Lib.IsBuilder 72 5 B b (Lib.byteCells s) w) : BldH B b s w.heap := ⟨hB, fun w' hw => isBuilder_heap h hw⟩

theorem BldH.new {B : Nat} (H : Hp) (hB : B ≤ H.size) : BldH B H.size [] (H.new 72 [.pointer none, .slice none 0 0]) := by
  refine ⟨by rw [size_new]; omega, fun w hw => .inl ⟨hB, .slice none 0 0, ?_, ⟨by simp [Lib.byteCells], .inl ⟨rfl, rfl⟩⟩, by simp [Value.ownBlock]⟩⟩
  rw [hw]
  simp [Hp.new]

theorem BldH.fresh {B b : Nat} {s : List UInt8} {H H' : Hp} (h : BldH B b s H) (f : Fresh H H') : BldH B b s H' := by
  obtain ⟨hB, h⟩ := h
  refine ⟨Nat.le_trans hB f.size, fun w hw => ?_⟩
  have h0 := h { w with heap := H } rfl
  have keep : ∀ (k : Nat) (o : Obj), H[k]? = some o → w.heap[k]? = some o := fun k o hk => by
    rw [hw, f.keep k (Array.getElem?_eq_some_iff.1 hk).1 (fun h => h)]; exact hk
  have key : ∀ p, Lib.BuilderAt 72 5 B b p (Lib.byteCells s) { w with heap := H } → Lib.BuilderAt 72 5 B b p (Lib.byteCells s) w := by
    rintro p ⟨h1, v, h2, ⟨h3, h4⟩, h5⟩
    refine ⟨h1, v, keep _ _ h2, ⟨h3, ?_⟩, h5⟩
    rcases h4 with h4 | ⟨g, cap, cur, e1, e2, e3, e4⟩
    · exact .inl h4
    · exact .inr ⟨g, cap, cur, e1, e2, keep _ _ e3, e4⟩
  rcases h0 with h0 | h0
  · exact .inl (key _ h0)
  · exact .inr (key _ h0)

theorem ext_of_below {B : Nat} {w w' : World} (h : Below B w w') : Same w w' ∧ Ext (fun z => B ≤ z) w.heap w'.heap := ⟨⟨h.os, h.output⟩, h.size, fun k _ hk => h.block k (Nat.lt_of_not_le hk)⟩

theorem WriteString_spec {B b : Nat} {s : List UInt8} {H : Hp} (h : BldH B b s H) (t : List UInt8) (hl : s.length + t.length ≤ 1000000000000) :
    CallH Tryd.prog n_strings_Builder_WriteString [ptr b, strV t] H fun v H' => Post (v = .tuple [i64 t.length, .nilIface].toArray ∧ BldH B b (s ++ t) H' ∧ Ext (fun z => B ≤ z) H H') := fun w hw => by
  obtain ⟨hB, h⟩ := h
  have hs : (⟨t.toArray⟩ : ByteArray).size = t.length := by simp [ByteArray.size]
  refine (writeString_run B b (Lib.byteCells s) ⟨t.toArray⟩ w (h w hw) (by rw [hs, Lib.byteCells_length]; omega) (by rw [hw]; exact hB)).mono ?_
  rintro e w' ⟨rfl, hb, hbel⟩
  obtain ⟨s1, s2⟩ := ext_of_below hbel
  refine ⟨_, rfl, s1, by rw [hs], ?_, by rw [← hw]; exact s2⟩
  have e1 : Lib.byteCells s ++ Lib.strCells ⟨t.toArray⟩ = Lib.byteCells (s ++ t) := by simp [Lib.byteCells, Lib.strCells]
  rw [e1] at hb
  exact BldH.of (by have := hbel.size; rw [hw] at this; omega) (.inr hb)

theorem BString_spec {B b : Nat} {s : List UInt8} {H : Hp} (h : BldH B b s H) :
    CallH Tryd.prog 42 [ptr b] H fun v H' => Post (v = strV s ∧ Ext (fun z => B ≤ z) H H') := fun w hw => by
  obtain ⟨hB, h⟩ := h
  refine (Tryd.Builder_String_any B b s w (h w hw) (by rw [hw]; exact hB)).mono ?_
  rintro e w' ⟨rfl, hbel⟩
  obtain ⟨s1, s2⟩ := ext_of_below hbel
  exact ⟨_, rfl, s1, rfl, by rw [← hw]; exact s2⟩

end Go.Proofs.YtkcpoiploighiaaDoor
