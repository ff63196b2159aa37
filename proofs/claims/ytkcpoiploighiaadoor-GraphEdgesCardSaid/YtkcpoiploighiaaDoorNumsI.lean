/-
  What the library's reader of numbers does, told of the heap; the variables that it reads; a text's number; strings.Cut.
-/
import Derived.Test.YtkcpoiploighiaaDoorTabsI
import Derived.Test.YtkcpoiploighiaaDoorDecs
import Derived.Test.YtkcpoiploighiaaDoorArgs
set_option linter.unusedVariables false
set_option linter.unusedSimpArgs false
namespace Go.Proofs.YtkcpoiploighiaaDoor
open Go Go.Vc Go.RowKit Go.Sort

/-- The two errors of strconv, the table, and the search's limit are in memory. -/
structure ErrH (H : Hp) : Prop where
  tab : TabH H
  syn : ∀ w : World, w.heap = H → ∃ tp p, w.var? Tryd.prog "strconv.ErrSyntax" = some #[.iface tp p]
  rng : ∀ w : World, w.heap = H → ∃ tp p, w.var? Tryd.prog "strconv.ErrRange" = some #[.iface tp p]
  lim : ∀ w : World, w.heap = H → ∃ m, w.cell? ⟨0, 0, none⟩ = some (.int .i64 m)

theorem cell_keep {w w' : World} (e : Fresh w.heap w'.heap) {a : Addr} {v : Value} (h : w.cell? a = some v) : w'.cell? a = some v := by
  have hlt := Lib.lt_of_cell h
  have hb : w'.heap[a.block]? = w.heap[a.block]? := e.keep a.block hlt (fun h => h)
  rw [← h]
  unfold World.cell?
  rw [hb]

theorem ErrH.fresh {H H' : Hp} (h : ErrH H) (e : Fresh H H') : ErrH H' := by
  refine ⟨h.tab.fresh e, fun w hw => ?_, fun w hw => ?_, fun w hw => ?_⟩
  · obtain ⟨tp, p, h0⟩ := h.syn { w with heap := H } rfl
    exact ⟨tp, p, var_keep (w := { w with heap := H }) (w' := w) (by rw [hw]; exact e) h0⟩
  · obtain ⟨tp, p, h0⟩ := h.rng { w with heap := H } rfl
    exact ⟨tp, p, var_keep (w := { w with heap := H }) (w' := w) (by rw [hw]; exact e) h0⟩
  · obtain ⟨m, h0⟩ := h.lim { w with heap := H } rfl
    exact ⟨m, cell_keep (w := { w with heap := H }) (w' := w) (by rw [hw]; exact e) h0⟩

theorem below_same {w w' : World} (h : Below w.heap.size w w') : Same w w' ∧ Fresh w.heap w'.heap :=
  ⟨⟨h.os, h.output⟩, ⟨h.size, fun b hb _ => h.block b hb⟩⟩

/-- A reader's end: the number, and nil or an error. -/
inductive NumR (z : Value) (x : Option Value) : Value → Prop
  | ok (v : Value) (h : x = some v) : NumR z x (.tuple [v, .nilIface].toArray)
  | no (v : Value) (t : TypeId) (u : Value) (h : x = none) : NumR z x (.tuple [v, .iface t u].toArray)

theorem strconv_ParseInt_spec {H : Hp} (he : ErrH H) (l : List UInt8) (hl : l.length ≤ 1000000) : CallH Tryd.prog n_strconv_ParseInt [strV l, i64 10, i64 64] H fun v H' => Post (Fresh H H' ∧
    ((∃ n, Lib.parseIntB 64 l = .ok n ∧ v = .tuple [i64 n, .nilIface].toArray) ∨ ((∀ n, Lib.parseIntB 64 l ≠ .ok n) ∧ ∃ x t u, v = .tuple [i64 x, .iface t u].toArray))) := fun w hw => by
  have hs : (⟨l.toArray⟩ : ByteArray).size = l.length := by simp [ByteArray.size]
  have hd : (⟨l.toArray⟩ : ByteArray).data.toList = l := rfl
  rcases hp : Lib.parseIntB 64 l with n | _ | _
  · refine (Tryd.strconv_ParseInt_10_at64_ok ⟨l.toArray⟩ (by rw [hs]; omega) n (by rw [hd]; exact hp) w).mono ?_
    rintro e w' ⟨rfl, hw'⟩
    have hb : Below w.heap.size w w' := by
      rcases hw' with rfl | ⟨t, rfl⟩
      · exact Below.refl _ _
      · exact Lib.bytesWorld_below _ _ _
    obtain ⟨s1, s2⟩ := below_same hb
    exact ⟨_, rfl, s1, by rw [← hw]; exact s2, .inl ⟨n, rfl, rfl⟩⟩
  · obtain ⟨tp, p, hv⟩ := he.syn w hw
    refine (Any.strconv_ParseInt_10_at64_syntax_var Tryd.laysC174 ⟨l.toArray⟩ (by rw [hs]; omega) (by rw [hd]; exact hp) tp p w hv).mono ?_
    rintro e w' ⟨N, rfl, _, _, hb⟩
    obtain ⟨s1, s2⟩ := below_same hb
    exact ⟨_, rfl, s1, by rw [← hw]; exact s2, .inr ⟨fun n h => (by cases h), _, _, _, rfl⟩⟩
  · obtain ⟨tp, p, hv⟩ := he.rng w hw
    refine (Any.strconv_ParseInt_10_at64_range_var Tryd.laysC174 ⟨l.toArray⟩ (by rw [hs]; omega) (by rw [hd]; exact hp) tp p w hv).mono ?_
    rintro e w' ⟨N, rfl, _, _, hb⟩
    obtain ⟨s1, s2⟩ := below_same hb
    exact ⟨_, rfl, s1, by rw [← hw]; exact s2, .inr ⟨fun n h => (by cases h), _, _, _, rfl⟩⟩

theorem strings_Cut_spec {H : Hp} (he : ErrH H) (l : List UInt8) (hl : l.length ≤ 1000000) : CallH Tryd.prog n_strings_Cut [strV l, strV [35]] H fun v H' => Post (Fresh H H' ∧
    v = .tuple [strV (Lib.cut l [35]).1, strV (Lib.cut l [35]).2.1, .bool (Lib.cut l [35]).2.2].toArray) := fun w hw => by
  obtain ⟨m, hm⟩ := he.lim w hw
  have hs : (⟨l.toArray⟩ : ByteArray).size = l.length := by simp [ByteArray.size]
  refine (Tryd.strings_Cut ⟨l.toArray⟩ ⟨[35].toArray⟩ m w (by rw [hs]; omega) hm).mono ?_
  rintro e w' ⟨rfl, n, rfl⟩
  exact ⟨_, rfl, ⟨rfl, rfl⟩, by rw [← hw]; exact Ext.refl _ _, rfl⟩

theorem eq_bytes (a b : List UInt8) : ((⟨a.toArray⟩ : ByteArray).toList == (⟨b.toArray⟩ : ByteArray).toList) = decide (a = b) := by
  rw [← beq_toListBytes]
  show (a.toArray == b.toArray) = _
  by_cases h : a = b
  · subst h; simp
  · have h2 : ¬ a.toArray = b.toArray := fun e => h (by simpa using e)
    simp [h]

/-- entry.Number: a number, just if the text is its text. -/
theorem entry_Number_spec {H : Hp} (he : ErrH H) (l : List UInt8) (hl : l.length ≤ 1000000) : CallH Tryd.prog n_entry_Number [strV l] H fun v H' => Post (Fresh H H' ∧
    ((∃ n : Int, -9223372036854775808 ≤ n ∧ n ≤ 9223372036854775807 ∧ l = Lib.itoa n ∧ v = .tuple [i64 n, .bool true].toArray) ∨
      ((∀ n : Int, -9223372036854775808 ≤ n → n ≤ 9223372036854775807 → l ≠ Lib.itoa n) ∧ v = .tuple [i64 0, .bool false].toArray))) := by
  refine c_entry_Number ⟨rfl, ?_⟩
  simp (disch := (first | omega | (simp only [size_new, size_newm, size_wr, size_wrm] <;> omega) | fail)) only [go_sem, Nat.reduceBEq, Nat.reduceAdd, Nat.reduceMul, Nat.reduceLeDiff, ↓reduceIte, rd_new_lt, own_new_lt, mp_new_lt, rd_newm_lt, own_newm_lt, mp_newm_lt, rd_wr_ne, own_wr_ne, mp_wr_ne, rd_wrm_ne, own_wrm_ne, mp_wrm_ne, rd_new_eq, own_new_eq, mp_newm_eq, s_entry_Number]
  refine (strconv_ParseInt_spec he l hl).mono ?_
  rintro _ H1 ⟨f1, ⟨n, hn, rfl⟩ | ⟨hn, x, t, u, rfl⟩⟩
  · obtain ⟨h0, h1⟩ := parseI_le hn
    simp (disch := (first | omega | (simp only [size_new, size_newm, size_wr, size_wrm] <;> omega) | fail)) only [go_sem, Nat.reduceBEq, Nat.reduceAdd, Nat.reduceMul, Nat.reduceLeDiff, ↓reduceIte, rd_new_lt, own_new_lt, mp_new_lt, rd_newm_lt, own_newm_lt, mp_newm_lt, rd_wr_ne, own_wr_ne, mp_wr_ne, rd_wrm_ne, own_wrm_ne, mp_wrm_ne, rd_new_eq, own_new_eq, mp_newm_eq]
    refine (entry_Digits_spec (he.tab.fresh f1) h0 h1).mono ?_
    rintro _ H2 ⟨rfl, f2⟩
    simp (disch := (first | omega | (simp only [size_new, size_newm, size_wr, size_wrm] <;> omega) | fail)) only [go_sem, Nat.reduceBEq, Nat.reduceAdd, Nat.reduceMul, Nat.reduceLeDiff, ↓reduceIte, rd_new_lt, own_new_lt, mp_new_lt, rd_newm_lt, own_newm_lt, mp_newm_lt, rd_wr_ne, own_wr_ne, mp_wr_ne, rd_wrm_ne, own_wrm_ne, mp_wrm_ne, rd_new_eq, own_new_eq, mp_newm_eq, eq_bytes]
    refine Both.dec (fun hq => ?_) (fun hq => ?_) <;> simp (disch := (first | omega | (simp only [size_new, size_newm, size_wr, size_wrm] <;> omega) | fail)) only [go_sem, Nat.reduceBEq, Nat.reduceAdd, Nat.reduceMul, Nat.reduceLeDiff, ↓reduceIte, rd_new_lt, own_new_lt, mp_new_lt, rd_newm_lt, own_newm_lt, mp_newm_lt, rd_wr_ne, own_wr_ne, mp_wr_ne, rd_wrm_ne, own_wrm_ne, mp_wrm_ne, rd_new_eq, own_new_eq, mp_newm_eq]
    · exact ⟨f1.trans f2, .inl ⟨n, h0, h1, hq.symm, rfl⟩⟩
    · refine ⟨f1.trans f2, .inr ⟨fun m g0 g1 hm => hq ?_, rfl⟩⟩
      rw [hm, parse_itoa g0 g1] at hn
      injection hn with hn
      rw [hm, hn]
  · simp (disch := (first | omega | (simp only [size_new, size_newm, size_wr, size_wrm] <;> omega) | fail)) only [go_sem, Nat.reduceBEq, Nat.reduceAdd, Nat.reduceMul, Nat.reduceLeDiff, ↓reduceIte, rd_new_lt, own_new_lt, mp_new_lt, rd_newm_lt, own_newm_lt, mp_newm_lt, rd_wr_ne, own_wr_ne, mp_wr_ne, rd_wrm_ne, own_wrm_ne, mp_wrm_ne, rd_new_eq, own_new_eq, mp_newm_eq]
    exact ⟨f1, .inr ⟨fun m g0 g1 hm => hn m (by rw [hm]; exact parse_itoa g0 g1), rfl⟩⟩

end Go.Proofs.YtkcpoiploighiaaDoor
