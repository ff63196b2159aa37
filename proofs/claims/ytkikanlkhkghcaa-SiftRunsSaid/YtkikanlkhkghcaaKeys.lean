/-
  The order of the statements of layer 7: things with keys, counted how often it is asked; the chapter's example.
-/
import Derived.Test.YtkikanlkhkghcaaDown
import Derived.Test.YtkikanlkhkghcaaMeth
import Derived.Test.YtkikanlkhkghcaaArgs
set_option linter.unusedVariables false
set_option linter.unusedSimpArgs false
namespace Go.Proofs.Ytkikanlkhkghcaa
open Go Go.Vc

/-- Keys in memory: of each thing its key, and how often they were asked. -/
def KeysAt (H : Hp) (o mb : Nat) (f : Int → Option Int) (n : Nat) : Prop :=
  H.own o = some [.map (some mb), i64 (IntKind.i64.wrap n)] ∧ IMap H mb (fun i => (f i).map i64) ∧ o ≠ mb

/-- Which of two things is ahead. -/
def ltK (f : Int → Option Int) (a b : Int) : Bool := decide (many0 f a < many0 f b ∨ many0 f a = many0 f b ∧ a < b)

theorem wrap_succ (n : Nat) : IntKind.i64.wrap (IntKind.i64.wrap (n : Int) + 1) = IntKind.i64.wrap ((n + 1 : Nat) : Int) := by
  have e : (2 ^ IntKind.i64.bits : Int) = 18446744073709551616 := rfl
  have e' : (2 ^ (IntKind.i64.bits - 1) : Int) = 9223372036854775808 := rfl
  unfold IntKind.wrap
  simp only [e, e', IntKind.signed, Bool.true_and, decide_eq_true_eq]
  split <;> split <;> split <;> omega

theorem law07_keys_before_spec {H : Hp} {o mb n : Nat} {f : Int → Option Int} (h : KeysAt H o mb f n) (a b : Int) :
    CallH Try.prog n_law07_keys_before [ptr o, i64 a, i64 b] H fun v H' => Post (v = .bool (ltK f a b) ∧ H = H') := by
  obtain ⟨h1, h2, h3⟩ := h
  refine c_law07_keys_before ⟨rfl, ?_⟩
  simp (disch := (first | omega | (simp only [size_new, size_newm, size_wr, size_wrm] <;> omega) | fail)) only [go_sem, Nat.reduceBEq, Nat.reduceAdd, Nat.reduceMul, Nat.reduceLeDiff, ↓reduceIte, rd_new_lt, own_new_lt, mp_new_lt, rd_newm_lt, own_newm_lt, mp_newm_lt, rd_wr_ne, own_wr_ne, mp_wr_ne, rd_wrm_ne, own_wrm_ne, mp_wrm_ne, rd_new_eq, own_new_eq, mp_newm_eq, s_law07_keys_before, rd_of_own h1, h2.look, many0_tuple]
  refine Both.dec (fun hl => ?_) (fun hl => ?_) <;> simp (disch := (first | omega | (simp only [size_new, size_newm, size_wr, size_wrm] <;> omega) | fail)) only [go_sem, Nat.reduceBEq, Nat.reduceAdd, Nat.reduceMul, Nat.reduceLeDiff, ↓reduceIte, rd_new_lt, own_new_lt, mp_new_lt, rd_newm_lt, own_newm_lt, mp_newm_lt, rd_wr_ne, own_wr_ne, mp_wr_ne, rd_wrm_ne, own_wrm_ne, mp_wrm_ne, rd_new_eq, own_new_eq, mp_newm_eq, rd_of_own h1, h2.look, many0_tuple]
  · exact ⟨congrArg Value.bool (decide_eq_true (.inl hl)).symm, rfl⟩
  · refine Both.dec (fun he => ?_) (fun he => ?_) <;> simp (disch := (first | omega | (simp only [size_new, size_newm, size_wr, size_wrm] <;> omega) | fail)) only [go_sem, Nat.reduceBEq, Nat.reduceAdd, Nat.reduceMul, Nat.reduceLeDiff, ↓reduceIte, rd_new_lt, own_new_lt, mp_new_lt, rd_newm_lt, own_newm_lt, mp_newm_lt, rd_wr_ne, own_wr_ne, mp_wr_ne, rd_wrm_ne, own_wrm_ne, mp_wrm_ne, rd_new_eq, own_new_eq, mp_newm_eq]
    · exact ⟨congrArg Value.bool (by rw [ltK, decide_eq_decide]; omega), rfl⟩
    · exact ⟨congrArg Value.bool (decide_eq_false (by omega)).symm, rfl⟩

theorem law07_keys_Ahead_spec {H : Hp} {o mb n : Nat} {f : Int → Option Int} (h : KeysAt H o mb f n) (a b : Int) :
    CallH Try.prog n_law07_keys_Ahead [ptr o, i64 a, i64 b] H fun v H' => Post (v = .bool (ltK f a b) ∧ KeysAt H' o mb f (n + 1) ∧ Ext (fun x => x = o) H H') := by
  obtain ⟨h1, h2, h3⟩ := h
  refine c_law07_keys_Ahead ⟨rfl, ?_⟩
  simp (disch := (first | omega | (simp only [size_new, size_newm, size_wr, size_wrm] <;> omega) | fail)) only [go_sem, Nat.reduceBEq, Nat.reduceAdd, Nat.reduceMul, Nat.reduceLeDiff, ↓reduceIte, rd_new_lt, own_new_lt, mp_new_lt, rd_newm_lt, own_newm_lt, mp_newm_lt, rd_wr_ne, own_wr_ne, mp_wr_ne, rd_wrm_ne, own_wrm_ne, mp_wrm_ne, rd_new_eq, own_new_eq, mp_newm_eq, s_law07_keys_Ahead, rd_of_own h1, h1]
  rw [wrap_succ]
  have e1 : Ext (fun x => x = o) H (H.wr o [.map (some mb), i64 (IntKind.i64.wrap ((n + 1 : Nat) : Int))]) := (Ext.refl (fun x => x = o) _).wr (fun _ => rfl) _
  have k : KeysAt (H.wr o [.map (some mb), i64 (IntKind.i64.wrap ((n + 1 : Nat) : Int))]) o mb f (n + 1) := ⟨own_wr_same h1, h2.ext e1 (Ne.symm h3), h3⟩
  refine (law07_keys_before_spec k a b).mono ?_
  rintro _ _ ⟨rfl, rfl⟩
  simp (disch := (first | omega | (simp only [size_new, size_newm, size_wr, size_wrm] <;> omega) | fail)) only [go_sem, Nat.reduceBEq, Nat.reduceAdd, Nat.reduceMul, Nat.reduceLeDiff, ↓reduceIte, rd_new_lt, own_new_lt, mp_new_lt, rd_newm_lt, own_newm_lt, mp_newm_lt, rd_wr_ne, own_wr_ne, mp_wr_ne, rd_wrm_ne, own_wrm_ne, mp_wrm_ne, rd_new_eq, own_new_eq, mp_newm_eq]
  exact ⟨rfl, k, e1⟩

theorem keys_ord (o mb : Nat) (f : Int → Option Int) : OrdS (.iface 75 (ptr o)) (fun H n => KeysAt H o mb f n) (fun x => x = o ∨ x = mb) (ltK f) := by
  refine ⟨fun H n a b h => ⟨_, _, n_law07_keys_Ahead, ptr o, rfl, methR0 (by kernel_rfl), (law07_keys_Ahead_spec h a b).mono ?_⟩, nilP0 (f := n_law07_keys_Ahead) (by kernel_rfl), fun H H' n U h e hn => ?_, fun H n h x hx => ?_⟩
  · rintro _ H' ⟨rfl, k, e⟩
    exact ⟨rfl, k, e.mono fun x _ hx => .inl hx⟩
  · exact ⟨e.own h.1 (hn _ (.inl rfl)), h.2.1.ext e (hn _ (.inr rfl)), h.2.2⟩
  · rcases hx with rfl | rfl
    · exact own_lt h.1
    · exact h.2.1.lt

theorem law07_siftAlive_spec (H : Hp) : CallH Try.prog n_law07_siftAlive [] H fun v H' => Post (v = .bool true ∧ Fresh H H') := by
  refine c_law07_siftAlive ⟨rfl, ?_⟩
  simp (disch := (first | omega | (simp only [size_new, size_newm, size_wr, size_wrm] <;> omega) | fail)) only [go_sem, Nat.reduceBEq, Nat.reduceAdd, Nat.reduceMul, Nat.reduceLeDiff, ↓reduceIte, rd_new_lt, own_new_lt, mp_new_lt, rd_newm_lt, own_newm_lt, mp_newm_lt, rd_wr_ne, own_wr_ne, mp_wr_ne, rd_wrm_ne, own_wrm_ne, mp_wrm_ne, rd_new_eq, own_new_eq, mp_newm_eq, s_law07_siftAlive]
  refine (sift_New_spec 2 H).mono ?_
  rintro _ H1 ⟨f1, ⟨hc, rfl⟩ | ⟨hc, r, S, rfl, h1, hS⟩⟩
  · exact absurd (by decide) hc
  simp (disch := (first | omega | (simp only [size_new, size_newm, size_wr, size_wrm] <;> omega) | fail)) only [go_sem, Nat.reduceBEq, Nat.reduceAdd, Nat.reduceMul, Nat.reduceLeDiff, ↓reduceIte, rd_new_lt, own_new_lt, mp_new_lt, rd_newm_lt, own_newm_lt, mp_newm_lt, rd_wr_ne, own_wr_ne, mp_wr_ne, rd_wrm_ne, own_wrm_ne, mp_wrm_ne, rd_new_eq, own_new_eq, mp_newm_eq, Option.isNone_some]
  refine Both.of_true (by decide) ?_
  simp (disch := (first | omega | (simp only [size_new, size_newm, size_wr, size_wrm] <;> omega) | fail)) only [go_sem, Nat.reduceBEq, Nat.reduceAdd, Nat.reduceMul, Nat.reduceLeDiff, ↓reduceIte, rd_new_lt, own_new_lt, mp_new_lt, rd_newm_lt, own_newm_lt, mp_newm_lt, rd_wr_ne, own_wr_ne, mp_wr_ne, rd_wrm_ne, own_wrm_ne, mp_wrm_ne, rd_new_eq, own_new_eq, mp_newm_eq]
  have hS1 : ∀ x, S x → H.size ≤ x := hS
  have f2 : Fresh H1 (H1.newm.new 78 [.map (some H1.size), .int .i64 0]) := ((Ext.refl _ _).newm).new _ _
  have ko : KeysAt (H1.newm.new 78 [.map (some H1.size), .int .i64 0]) (H1.size + 1) H1.size (fun _ => none) 0 :=
    ⟨own_new_eq (by simp only [size_newm]), (IMap.new H1).ext ((Ext.refl (fun _ => False) _).new _ _) (fun h => h), by omega⟩
  have h2 := h1.ext f2 (fun _ _ h => h)
  have hd : ∀ x, S x → ¬ (x = H1.size + 1 ∨ x = H1.size) := fun x hx hc => by have := h1.slt x hx; omega
  have fr2 := f1.trans f2
  generalize H1.newm.new 78 [.map (some H1.size), .int .i64 0] = H2 at *
  refine (sift_Add_spec (keys_ord _ _ _) h2 hd ko 3 (by decide)).mono ?_
  rintro _ H3 (⟨hx, _, _⟩ | ⟨hx, rfl, S3, r3, k3, e3, s3⟩)
  · exact absurd rfl hx
  have r3 : RowAt H3 r S3 2 [3] (setM (fun _ => none) 3 0) := r3
  have fr3 := fr2.then e3 (fun z hz => by rcases hz with hz | hz | hz; exact hS1 z hz; all_goals (have := f1.size; omega))
  have hd3 : ∀ x, S3 x → ¬ (x = H1.size + 1 ∨ x = H1.size) := fun x hx hc => by
    rcases s3 x hx with h | h
    · exact hd x h hc
    · have := own_lt ko.1; omega
  have hS3 : ∀ x, S3 x → H.size ≤ x := fun x hx => by
    rcases s3 x hx with h | h
    · exact hS1 x h
    · exact Nat.le_trans fr2.size h
  simp (disch := (first | omega | (simp only [size_new, size_newm, size_wr, size_wrm] <;> omega) | fail)) only [go_sem, Nat.reduceBEq, Nat.reduceAdd, Nat.reduceMul, Nat.reduceLeDiff, ↓reduceIte, rd_new_lt, own_new_lt, mp_new_lt, rd_newm_lt, own_newm_lt, mp_newm_lt, rd_wr_ne, own_wr_ne, mp_wr_ne, rd_wrm_ne, own_wrm_ne, mp_wrm_ne, rd_new_eq, own_new_eq, mp_newm_eq]
  refine (sift_Add_spec (keys_ord _ _ _) r3 hd3 k3 1 (by decide)).mono ?_
  rintro _ H4 (⟨hx, _, _⟩ | ⟨hx, rfl, S4, r4, k4, e4, s4⟩)
  · exact absurd rfl hx
  have r4 : RowAt H4 r S4 2 [1, 3] (setM (setM (setM (fun _ => none) 3 0) 3 1) 1 0) := r4
  have fr4 := fr3.then e4 (fun z hz => by rcases hz with hz | hz | hz; exact hS3 z hz; all_goals (have := f1.size; omega))
  have hd4 : ∀ x, S4 x → ¬ (x = H1.size + 1 ∨ x = H1.size) := fun x hx hc => by
    rcases s4 x hx with h | h
    · exact hd3 x h hc
    · have := own_lt k3.1; omega
  have hS4 : ∀ x, S4 x → H.size ≤ x := fun x hx => by
    rcases s4 x hx with h | h
    · exact hS3 x h
    · exact Nat.le_trans fr3.size h
  simp (disch := (first | omega | (simp only [size_new, size_newm, size_wr, size_wrm] <;> omega) | fail)) only [go_sem, Nat.reduceBEq, Nat.reduceAdd, Nat.reduceMul, Nat.reduceLeDiff, ↓reduceIte, rd_new_lt, own_new_lt, mp_new_lt, rd_newm_lt, own_newm_lt, mp_newm_lt, rd_wr_ne, own_wr_ne, mp_wr_ne, rd_wrm_ne, own_wrm_ne, mp_wrm_ne, rd_new_eq, own_new_eq, mp_newm_eq]
  refine (sift_Add_spec (keys_ord _ _ _) r4 hd4 k4 2 (by decide)).mono ?_
  rintro _ H5 (⟨hx, _, _⟩ | ⟨hx, rfl, S5, r5, k5, e5, s5⟩)
  · exact absurd rfl hx
  have r5 : RowAt H5 r S5 2 [1, 3, 2] (setM (setM (setM (setM (fun _ => none) 3 0) 3 1) 1 0) 2 2) := r5
  have fr5 := fr4.then e5 (fun z hz => by rcases hz with hz | hz | hz; exact hS4 z hz; all_goals (have := f1.size; omega))
  simp (disch := (first | omega | (simp only [size_new, size_newm, size_wr, size_wrm] <;> omega) | fail)) only [go_sem, Nat.reduceBEq, Nat.reduceAdd, Nat.reduceMul, Nat.reduceLeDiff, ↓reduceIte, rd_new_lt, own_new_lt, mp_new_lt, rd_newm_lt, own_newm_lt, mp_newm_lt, rd_wr_ne, own_wr_ne, mp_wr_ne, rd_wrm_ne, own_wrm_ne, mp_wrm_ne, rd_new_eq, own_new_eq, mp_newm_eq]
  refine (sift_All_spec r5 (by decide)).mono ?_
  rintro _ H6 ⟨f6, fp, g1, g2⟩
  obtain ⟨b, rfl⟩ : ∃ b, fp = some b := by
    cases fp with
    | none => obtain ⟨_, e, _⟩ := g1; cases e
    | some b => exact ⟨b, rfl⟩
  obtain ⟨_, l', c, rfl, g3, g4, g5, g6⟩ := g1
  have hb := g2 b rfl
  obtain ⟨t, rfl⟩ : ∃ t, l' = i64 1 :: i64 3 :: i64 2 :: t := by
    refine ⟨l'.drop 3, ?_⟩
    rw [← List.take_append_drop 3 l']
    have : l'.take 3 = [i64 1, i64 3, i64 2] := g6
    simp [this]
  simp (disch := (first | omega | (simp only [size_new, size_newm, size_wr, size_wrm] <;> omega) | fail)) only [go_sem, Nat.reduceBEq, Nat.reduceAdd, Nat.reduceMul, Nat.reduceLeDiff, ↓reduceIte, rd_new_lt, own_new_lt, mp_new_lt, rd_newm_lt, own_newm_lt, mp_newm_lt, rd_wr_ne, own_wr_ne, mp_wr_ne, rd_wrm_ne, own_wrm_ne, mp_wrm_ne, rd_new_eq, own_new_eq, mp_newm_eq, List.length_map]
  refine Both.of_true (by decide) ?_
  simp (disch := (first | omega | (simp only [size_new, size_newm, size_wr, size_wrm] <;> omega) | fail)) only [go_sem, Nat.reduceBEq, Nat.reduceAdd, Nat.reduceMul, Nat.reduceLeDiff, ↓reduceIte, rd_new_lt, own_new_lt, mp_new_lt, rd_newm_lt, own_newm_lt, mp_newm_lt, rd_wr_ne, own_wr_ne, mp_wr_ne, rd_wrm_ne, own_wrm_ne, mp_wrm_ne, rd_new_eq, own_new_eq, mp_newm_eq]
  refine ⟨by decide, ?_⟩
  simp (disch := (first | omega | (simp only [size_new, size_newm, size_wr, size_wrm] <;> omega) | fail)) only [go_sem, Nat.reduceBEq, Nat.reduceAdd, Nat.reduceMul, Nat.reduceLeDiff, ↓reduceIte, rd_new_lt, own_new_lt, mp_new_lt, rd_newm_lt, own_newm_lt, mp_newm_lt, rd_wr_ne, own_wr_ne, mp_wr_ne, rd_wrm_ne, own_wrm_ne, mp_wrm_ne, rd_new_eq, own_new_eq, mp_newm_eq, rd_of_own g3, Int.reduceToNat]
  refine Both.of_true (by decide) ?_
  simp (disch := (first | omega | (simp only [size_new, size_newm, size_wr, size_wrm] <;> omega) | fail)) only [go_sem, Nat.reduceBEq, Nat.reduceAdd, Nat.reduceMul, Nat.reduceLeDiff, ↓reduceIte, rd_new_lt, own_new_lt, mp_new_lt, rd_newm_lt, own_newm_lt, mp_newm_lt, rd_wr_ne, own_wr_ne, mp_wr_ne, rd_wrm_ne, own_wrm_ne, mp_wrm_ne, rd_new_eq, own_new_eq, mp_newm_eq]
  refine ⟨by decide, ?_⟩
  simp (disch := (first | omega | (simp only [size_new, size_newm, size_wr, size_wrm] <;> omega) | fail)) only [go_sem, Nat.reduceBEq, Nat.reduceAdd, Nat.reduceMul, Nat.reduceLeDiff, ↓reduceIte, rd_new_lt, own_new_lt, mp_new_lt, rd_newm_lt, own_newm_lt, mp_newm_lt, rd_wr_ne, own_wr_ne, mp_wr_ne, rd_wrm_ne, own_wrm_ne, mp_wrm_ne, rd_new_eq, own_new_eq, mp_newm_eq, rd_of_own g3, Int.reduceToNat]
  refine Both.of_true (by decide) ?_
  simp (disch := (first | omega | (simp only [size_new, size_newm, size_wr, size_wrm] <;> omega) | fail)) only [go_sem, Nat.reduceBEq, Nat.reduceAdd, Nat.reduceMul, Nat.reduceLeDiff, ↓reduceIte, rd_new_lt, own_new_lt, mp_new_lt, rd_newm_lt, own_newm_lt, mp_newm_lt, rd_wr_ne, own_wr_ne, mp_wr_ne, rd_wrm_ne, own_wrm_ne, mp_wrm_ne, rd_new_eq, own_new_eq, mp_newm_eq]
  refine ⟨by decide, ?_⟩
  simp (disch := (first | omega | (simp only [size_new, size_newm, size_wr, size_wrm] <;> omega) | fail)) only [go_sem, Nat.reduceBEq, Nat.reduceAdd, Nat.reduceMul, Nat.reduceLeDiff, ↓reduceIte, rd_new_lt, own_new_lt, mp_new_lt, rd_newm_lt, own_newm_lt, mp_newm_lt, rd_wr_ne, own_wr_ne, mp_wr_ne, rd_wrm_ne, own_wrm_ne, mp_wrm_ne, rd_new_eq, own_new_eq, mp_newm_eq, rd_of_own g3, Int.reduceToNat]
  exact ⟨rfl, fr5.trans f6⟩

end Go.Proofs.Ytkikanlkhkghcaa
