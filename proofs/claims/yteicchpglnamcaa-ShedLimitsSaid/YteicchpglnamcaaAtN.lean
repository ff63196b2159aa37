/-
  A nest at a heap, whatever its steps: its calls.
-/
import Derived.Test.YteicchpglnamcaaNestS
import Derived.Test.YteicchpglnamcaaArgs
set_option linter.unusedVariables false
set_option linter.unusedSimpArgs false
namespace Go.Proofs.Yteicchpglnamcaa
open Go Go.Vc

/-- A nest that tells w, all of whose memory is newer than the heap Hh. -/
def AtN (I : Hp → (Nat → Prop) → Int → Nw → Prop) (Hh H : Hp) (w : Nw) : Prop := ∃ S st, I H S st w ∧ Fresh Hh H ∧ ∀ z, S z → Hh.size ≤ z

theorem AtN.fresh {I : Hp → (Nat → Prop) → Int → Nw → Prop} {Hh H : Hp} {w : Nw} (h : AtN I Hh H w) : Fresh Hh H := by
  obtain ⟨S, st, hI, hf, hs⟩ := h
  exact hf

theorem Nx.at_ {I : Hp → (Nat → Prop) → Int → Nw → Prop} {Hh H H' : Hp} {S : Nat → Prop} {st : Int} {w' : Nw} {m : Int} (h : Nx I S st H H' w' m) (hf : Fresh Hh H) (hs : ∀ z, S z → Hh.size ≤ z) : AtN I Hh H' w' := by
  obtain ⟨q, S', _, hI, e, hS⟩ := h
  refine ⟨S', _, hI, hf.then e hs, fun z hz => ?_⟩
  rcases hS z hz with h | h
  · exact hs z h
  · exact Nat.le_trans hf.size h

section
variable {ov : Value} {I : Hp → (Nat → Prop) → Int → Nw → Prop} {lim : Int → Int} {rows : Bool} (ho : NestS ov I lim rows) {Hh H : Hp} {w : Nw}
include ho

theorem NestS.lenA (h : AtN I Hh H w) (g : Int) : InvH Try.prog ov "Len" [i64 g] H fun v H' => v = i64 (w.len g) ∧ H = H' := by
  obtain ⟨S, st, hI, hf, hs⟩ := h
  exact (ho.teller S st w).len H g hI
theorem NestS.hasA (h : AtN I Hh H w) (g : Int) : InvH Try.prog ov "Has" [i64 g] H fun v H' => v = .bool (decide (w.has g)) ∧ H = H' := by
  obtain ⟨S, st, hI, hf, hs⟩ := h
  exact (ho.teller S st w).has H g hI
theorem NestS.capA (h : AtN I Hh H w) : InvH Try.prog ov "Capacity" [] H fun v H' => v = i64 w.cs.length ∧ H = H' := by
  obtain ⟨S, st, hI, hf, hs⟩ := h
  exact ho.cap hI
theorem NestS.keepA (h : AtN I Hh H w) {H' : Hp} (e : Fresh H H') : AtN I Hh H' w := by
  obtain ⟨S, st, hI, hf, hs⟩ := h
  exact ⟨S, st, (ho.teller S st w).keep _ _ _ hI e (fun _ _ h => h), hf.trans e, hs⟩
theorem NestS.makeA (h : AtN I Hh H w) : InvH Try.prog ov "Make" [] H fun v H' => (w.hs.length = 65537 ∧ v = i64 0 ∧ AtN I Hh H' w) ∨ (w.hs.length ≠ 65537 ∧ v = i64 w.hs.length ∧ AtN I Hh H' w.make) := by
  obtain ⟨S, st, hI, hf, hs⟩ := h
  refine InvH.mono (ho.make hI) ?_
  rintro v H' (⟨h1, h2, h3⟩ | ⟨h1, h2, h3⟩)
  · exact .inl ⟨h1, h2, h3.at_ hf hs⟩
  · exact .inr ⟨h1, h2, h3.at_ hf hs⟩
theorem NestS.insertA (h : AtN I Hh H w) (g x k s : Int) : InvH Try.prog ov "Insert" [i64 g, i64 x, ent k s] H fun v H' => (¬ w.canPut g x ∧ v = .bool false ∧ AtN I Hh H' w) ∨ (w.canPut g x ∧ v = .bool true ∧ AtN I Hh H' (w.put x (g, k, s))) := by
  obtain ⟨S, st, hI, hf, hs⟩ := h
  refine InvH.mono (ho.insert g x k s hI) ?_
  rintro v H' (⟨h1, h2, h3⟩ | ⟨h1, h2, h3⟩)
  · exact .inl ⟨h1, h2, h3.at_ hf hs⟩
  · exact .inr ⟨h1, h2, h3.at_ hf hs⟩
theorem NestS.minA (h : AtN I Hh H w) (g : Int) : InvH Try.prog ov "Min" [i64 g] H fun v H' => AtN I Hh H' w ∧ ((w.len g = 0 ∧ v = .tuple [i64 0, .bool false].toArray) ∨ ∃ x, w.first g x ∧ v = .tuple [i64 x, .bool true].toArray) := by
  obtain ⟨S, st, hI, hf, hs⟩ := h
  refine InvH.mono (ho.min g hI) ?_
  rintro v H' (⟨h1, h2, h3⟩ | ⟨x, h1, h2, h3⟩)
  · exact ⟨h3.at_ hf hs, .inl ⟨h1, h2⟩⟩
  · exact ⟨h3.at_ hf hs, .inr ⟨x, h1, h2⟩⟩
theorem NestS.extractA (h : AtN I Hh H w) (g : Int) : InvH Try.prog ov "Extract" [i64 g] H fun v H' => (w.len g = 0 ∧ v = .tuple [i64 0, .bool false].toArray ∧ AtN I Hh H' w) ∨ ∃ x, w.first g x ∧ v = .tuple [i64 x, .bool true].toArray ∧ AtN I Hh H' (w.put x (0, 0, 0)) := by
  obtain ⟨S, st, hI, hf, hs⟩ := h
  refine InvH.mono (ho.extract g hI) ?_
  rintro v H' (⟨h1, h2, h3⟩ | ⟨x, h1, h2, h3⟩)
  · exact .inl ⟨h1, h2, h3.at_ hf hs⟩
  · exact .inr ⟨x, h1, h2, h3.at_ hf hs⟩
theorem NestS.decreaseA (h : AtN I Hh H w) (x k s : Int) : InvH Try.prog ov "Decrease" [i64 x, ent k s] H fun v H' => (¬ w.canLower x k s ∧ v = .bool false ∧ AtN I Hh H' w) ∨ (w.canLower x k s ∧ v = .bool true ∧ ∃ y, w.cs[x.toNat]? = some y ∧ AtN I Hh H' (w.put x (y.1, k, s))) := by
  obtain ⟨S, st, hI, hf, hs⟩ := h
  refine InvH.mono (ho.decrease x k s hI) ?_
  rintro v H' (⟨h1, h2, h3⟩ | ⟨h1, h2, y, hy, h3⟩)
  · exact .inl ⟨h1, h2, h3.at_ hf hs⟩
  · exact .inr ⟨h1, h2, y, hy, h3.at_ hf hs⟩
theorem NestS.deleteA (h : AtN I Hh H w) (x : Int) : InvH Try.prog ov "Delete" [i64 x] H fun v H' => (¬ InC w.cs x ∧ v = .bool false ∧ AtN I Hh H' w) ∨ (InC w.cs x ∧ v = .bool true ∧ AtN I Hh H' (w.put x (0, 0, 0))) := by
  obtain ⟨S, st, hI, hf, hs⟩ := h
  refine InvH.mono (ho.delete x hI) ?_
  rintro v H' (⟨h1, h2, h3⟩ | ⟨h1, h2, y, hy, h3⟩)
  · exact .inl ⟨h1, h2, h3.at_ hf hs⟩
  · exact .inr ⟨h1, h2, h3.at_ hf hs⟩
theorem NestS.meldA (h : AtN I Hh H w) (a b : Int) : InvH Try.prog ov "Meld" [i64 a, i64 b] H fun v H' => (¬ (w.has a ∧ w.has b ∧ a ≠ b) ∧ v = .bool false ∧ AtN I Hh H' w) ∨ ((w.has a ∧ w.has b ∧ a ≠ b) ∧ v = .bool true ∧ AtN I Hh H' (w.join a b)) := by
  obtain ⟨S, st, hI, hf, hs⟩ := h
  refine InvH.mono (ho.meld a b hI) ?_
  rintro v H' (⟨h1, h2, h3⟩ | ⟨h1, h2, h3⟩)
  · exact .inl ⟨h1, h2, h3.at_ hf hs⟩
  · exact .inr ⟨h1, h2, h3.at_ hf hs⟩
end

theorem law05_one_spec (b : Bool) (H : Hp) : CallH Try.prog n_law05_one [.bool b] H fun v H' => Post (v = i64 (if b = true then 1 else 0) ∧ H = H') := by
  refine c_law05_one ⟨rfl, ?_⟩
  simp (disch := (first | omega | (simp only [size_new, size_newm, size_wr, size_wrm] <;> omega) | fail)) only [go_sem, Nat.reduceBEq, Nat.reduceAdd, Nat.reduceMul, Nat.reduceLeDiff, ↓reduceIte, rd_new_lt, own_new_lt, mp_new_lt, rd_newm_lt, own_newm_lt, mp_newm_lt, rd_wr_ne, own_wr_ne, mp_wr_ne, rd_wrm_ne, own_wrm_ne, mp_wrm_ne, rd_new_eq, own_new_eq, mp_newm_eq, s_law05_one]
  cases b <;> simp (disch := (first | omega | (simp only [size_new, size_newm, size_wr, size_wrm] <;> omega) | fail)) only [go_sem, Nat.reduceBEq, Nat.reduceAdd, Nat.reduceMul, Nat.reduceLeDiff, ↓reduceIte, rd_new_lt, own_new_lt, mp_new_lt, rd_newm_lt, own_newm_lt, mp_newm_lt, rd_wr_ne, own_wr_ne, mp_wr_ne, rd_wrm_ne, own_wrm_ne, mp_wrm_ne, rd_new_eq, own_new_eq, mp_newm_eq] <;> exact ⟨rfl, rfl⟩

end Go.Proofs.Yteicchpglnamcaa
