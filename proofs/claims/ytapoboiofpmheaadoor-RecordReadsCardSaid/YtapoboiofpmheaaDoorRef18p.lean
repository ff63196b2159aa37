/-
  A line as a record, as the document reads it.
-/
import Derived.Test.YtapoboiofpmheaaDoorRef18c
import Derived.Test.YtapoboiofpmheaaDoorRecParse
set_option linter.unusedVariables false
set_option linter.unusedSimpArgs false
namespace Go.Proofs.YtapoboiofpmheaaDoor
open Go Go.Vc

/-- A slice of a slice that is read. -/
theorem RdS.sub {H : Hp} {size n c : Nat} {a : Option Addr} {xs : List Value} (h : RdS H size (.slice a n c) n xs) {lo hi : Nat} (h1 : lo ≤ hi) (h2 : hi ≤ n) {b' : Option Addr} {c' : Nat} (hb : lo < hi → b' = a.map (·.add (lo * size))) :
    RdS H size (.slice b' (hi - lo) c') (hi - lo) ((xs.drop (lo * size)).take ((hi - lo) * size)) := by
  obtain ⟨hl, hv⟩ := h
  have e1 : (hi - lo) * size = hi * size - lo * size := Nat.sub_mul _ _ _
  have e2 : hi * size ≤ n * size := Nat.mul_le_mul_right _ h2
  have e3 : lo * size ≤ hi * size := Nat.mul_le_mul_right _ h1
  refine ⟨by rw [List.length_take, List.length_drop, hl]; omega, ?_⟩
  by_cases hlt : lo < hi
  · rcases hv with ⟨hn, _⟩ | ⟨b, o, c2, l, hs, hrd, hle, ht⟩
    · omega
    · right
      injection hs with hs1 hs2 hs3
      subst hs1
      rw [hb hlt]
      refine ⟨b, o + lo * size, c', l, ?_, hrd, by omega, ?_⟩
      · simp [Addr.add]
      · rw [← ht, List.drop_take, List.drop_drop, List.take_take, Nat.min_eq_left (by omega)]
  · left
    exact ⟨by omega, b', c', by rw [show hi - lo = 0 by omega]⟩

theorem RdS.str {H : Hp} {a : Option Addr} {n c : Nat} {ws : List (List UInt8)} (h : RdS H 1 (.slice a n c) n (ws.map strV)) {i : Nat} {x : List UInt8} (hx : ws[i]? = some x) :
    i < n ∧ ∃ b o lb, a = some ⟨b, o, none⟩ ∧ H.rd b = some lb ∧ lb[o + i]? = some (strV x) := by
  obtain ⟨hl, hv⟩ := h
  rw [List.length_map, Nat.mul_one] at hl
  have hi : i < ws.length := by
    rcases Nat.lt_or_ge i ws.length with h | h
    · exact h
    · rw [List.getElem?_eq_none h] at hx; cases hx
  refine ⟨by omega, ?_⟩
  rcases hv with ⟨hn, _⟩ | ⟨b, o, c2, l, hs, hrd, hle, ht⟩
  · omega
  · injection hs with hs1 hs2 hs3
    refine ⟨b, o, l, hs1, hrd, ?_⟩
    have h7 : (ws.map strV)[i]? = some (strV x) := by rw [List.getElem?_map, hx]; rfl
    rw [← ht, List.getElem?_take] at h7
    split at h7
    · rw [List.getElem?_drop] at h7; exact h7
    · cases h7

theorem RdS.blk {H : Hp} {a : Option Addr} {n c : Nat} {xs : List Value} (h : RdS H 1 (.slice a n c) n xs) (hn : n ≠ 0) : ∀ x, a = some x → x.block < H.size := fun x hx => by
  obtain ⟨_, ⟨h0, _⟩ | ⟨b, o, c2, l, hs, hrd, _⟩⟩ := h
  · exact absurd h0 hn
  · injection hs with hs1
    rw [hx] at hs1
    injection hs1 with hs1
    rw [hs1]
    exact rd_lt hrd

theorem RdS.off {H H' : Hp} {a : Option Addr} {n c : Nat} {xs : List Value} {S : Nat → Prop} (h : RdS H 1 (.slice a n c) n xs) (e : Ext S H H') (hs : n ≠ 0 → ∀ x, a = some x → ¬ S x.block) : RdS H' 1 (.slice a n c) n xs := by
  obtain ⟨hl, h | ⟨b, o, c2, l, hv, hrd, h3⟩⟩ := h
  · exact ⟨hl, .inl h⟩
  · by_cases hn : n = 0
    · exact ⟨hl, .inl ⟨hn, a, c, by rw [hn]⟩⟩
    · have hv' := hv
      injection hv' with hv1
      exact ⟨hl, .inr ⟨b, o, c2, l, hv, e.rd hrd (hs hn _ hv1), h3⟩⟩

/-- A slice of texts without its first. -/
theorem slc_tail {H : Hp} {a : Option Addr} {n c : Nat} {ws : List (List UInt8)} (h : RdS H 1 (.slice a n c) n (ws.map strV)) (h1 : 1 ≤ n) (h2 : n ≤ c) :
    ∃ a' c', Value.slice (if (c : Int) = 1 then a else Option.map (fun x => x.add (Int.toNat 1 * 1)) a) ((n : Int).toNat - Int.toNat 1) ((c : Int).toNat - Int.toNat 1) = .slice a' (n - 1) c' ∧
      RdS H 1 (.slice a' (n - 1) c') (n - 1) (ws.tail.map strV) ∧ n - 1 ≤ c' ∧ ∀ x, a' = some x → ∃ y, a = some y ∧ x.block = y.block := by
  refine ⟨_, _, rfl, ?_, by show n - 1 ≤ c - 1; omega, fun x hx => ?_⟩
  rotate_left
  · split at hx
    · exact ⟨x, hx, rfl⟩
    · cases a with
      | none => cases hx
      | some y => injection hx with hx; exact ⟨y, rfl, by rw [← hx]; rfl⟩
  have hl := h.1
  rw [List.length_map, Nat.mul_one] at hl
  have h3 := RdS.sub h (lo := 1) (hi := n) h1 (Nat.le_refl _) (c' := c - 1) (b' := if (c : Int) = 1 then a else Option.map (fun x => x.add (Int.toNat 1 * 1)) a) (fun hlt => by rw [if_neg (by omega)]; rfl)
  rw [Nat.mul_one, Nat.mul_one, List.take_of_length_le (by simp; omega), List.drop_one, ← List.map_tail] at h3
  exact h3

/-- A slice of the call's own, as a slice value. -/
theorem sl_val {H : Hp} {v : Value} {n : Nat} {xs : List Value} {fp : Option Nat} (h : Sl H 1 v n xs fp) : ∃ a c, v = .slice a n c ∧ n ≤ c := by
  obtain ⟨_, h⟩ := h
  cases fp with
  | none => obtain ⟨rfl, rfl⟩ := h; exact ⟨_, _, rfl, Nat.le_refl _⟩
  | some b => obtain ⟨l, c, rfl, _, hc, _⟩ := h; exact ⟨_, _, rfl, hc⟩

/-- What follows an operation's word, number by number. -/
def pat (op a b : Nat) (k : Int) : List (List UInt8) := (if hasA op then [Lib.decDigits a] else []) ++ ((if hasB op then [Lib.decDigits b] else []) ++ (if keyOf op then [Lib.itoa k] else []))

theorem words_pat {op a b : Nat} {k : Int} (h : op ≤ 10) (hh : handleOf op = false) : wordsR op a b k = wordOf op :: pat op a b k := by
  rcases ops op h with rfl | rfl | rfl | rfl | rfl | rfl | rfl | rfl | rfl | rfl | rfl <;> simp [wordsR, pat, hasA, hasB, handleOf, heapsOf, keyOf] at hh ⊢
theorem words_patH {op a b : Nat} {k : Int} (h : op ≤ 10) (hh : handleOf op = true) : wordsR op a b k = wordOf op :: (Lib.decDigits a ++ 46 :: Lib.decDigits b) :: (if keyOf op then [Lib.itoa k] else []) ∧
    pat op a b k = Lib.decDigits a :: Lib.decDigits b :: (if keyOf op then [Lib.itoa k] else []) := by
  rcases ops op h with rfl | rfl | rfl | rfl | rfl | rfl | rfl | rfl | rfl | rfl | rfl <;> simp [wordsR, pat, hasA, hasB, handleOf, heapsOf, keyOf] at hh ⊢

theorem pieces_dot (a b : Nat) : pieces 46 (Lib.decDigits a ++ 46 :: Lib.decDigits b) = [Lib.decDigits a, Lib.decDigits b] := by
  rw [pieces_at _ _ (no_dec (by decide) a), pieces_free _ (no_dec (by decide) b)]

set_option maxHeartbeats 4000000 in
theorem ref18_Parse_spec (H : Hp) (l : List UInt8) (hl : l.length ≤ 1000000) : CallH Tryd.prog n_ref18_Parse [strV l] H fun v H' => Post (RecD l v ∧ Fresh H H') := by
  refine c_ref18_Parse ⟨rfl, ?_⟩
  have f0 : Fresh H (H.new 40 [i64 0, u32 0, u32 0, i64 0]) := (Ext.refl _ _).new _ _
  have b0 := own_new H 40 [i64 0, u32 0, u32 0, i64 0]
  simp (disch := (first | omega | (simp only [size_new, size_newm, size_wr, size_wrm] <;> omega) | fail)) only [go_sem, Nat.reduceBEq, Nat.reduceAdd, Nat.reduceMul, Nat.reduceLeDiff, ↓reduceIte, rd_new_lt, own_new_lt, mp_new_lt, rd_newm_lt, own_newm_lt, mp_newm_lt, rd_wr_ne, own_wr_ne, mp_wr_ne, rd_wrm_ne, own_wrm_ne, mp_wrm_ne, rd_new_eq, own_new_eq, mp_newm_eq, s_ref18_Parse]
  generalize H.new 40 [i64 0, u32 0, u32 0, i64 0] = H0 at *
  refine (ref18_cut_spec H0 l hl 32).mono ?_
  rintro vw H1 ⟨f1, bw, hbw, sw⟩
  obtain ⟨lp1, lp2⟩ := len_piece 32 _ l (Nat.le_refl _)
  have hne := pieces_ne 32 l
  have hpos := List.length_pos_iff.2 hne
  have hjoin := join_of_pieces 32 l
  generalize hws : pieces 32 l = ws at *
  obtain ⟨w0, wr, hw0⟩ : ∃ w0 wr, ws = w0 :: wr := by
    cases ws with
    | nil => exact absurd rfl hne
    | cons x r => exact ⟨x, r, rfl⟩
  have b1 := f1.own b0 (fun h => h)
  obtain ⟨cw, rfl⟩ : ∃ c, vw = .slice (some ⟨bw, 0, none⟩) ws.length c := by
    obtain ⟨_, l', c', hv, _⟩ := sw
    exact ⟨c', hv⟩
  have hcw : ws.length ≤ cw := by
    obtain ⟨_, l', c', hv, _, h3, _⟩ := sw
    injection hv with _ _ hc
    omega
  have rw1 := sw.rd
  have f01 := f0.trans f1
  have word : ∀ op a b k, RightR op a b k → l = textR op a b k → ws = wordsR op a b k := fun op a b k h e => by rw [← hws, e]; exact pieces_text h.le
  have back : ∀ op a b k, ws = wordsR op a b k → l = textR op a b k := fun op a b k e => by rw [← hjoin, e]; rfl
  simp (disch := (first | omega | (simp only [size_new, size_newm, size_wr, size_wrm] <;> omega) | fail)) only [go_sem, Nat.reduceBEq, Nat.reduceAdd, Nat.reduceMul, Nat.reduceLeDiff, ↓reduceIte, rd_new_lt, own_new_lt, mp_new_lt, rd_newm_lt, own_newm_lt, mp_newm_lt, rd_wr_ne, own_wr_ne, mp_wr_ne, rd_wrm_ne, own_wrm_ne, mp_wrm_ne, rd_new_eq, own_new_eq, mp_newm_eq]
  refine LoopV.intro (fun m env H' => Fresh H1 H' ∧ ∃ j : Nat, m = 11 - j ∧ j ≤ 11 ∧ (∀ op a b k, op < j → RightR op a b k → l ≠ textR op a b k) ∧ env = [(2, ptr H.size), (4, .slice (some ⟨bw, 0, none⟩) ws.length cw), (5, i64 j)]) 11 ⟨Ext.refl _ _, 0, by omega, by omega, fun op a b k h => by omega, rfl⟩ ?_
  rintro m env H3 ⟨f3, j, hm, hj, hno, rfl⟩
  have b3 := f3.own b1 (fun h => h)
  have rw3 := rw1.fresh f3
  have f03 := f01.trans f3
  have done : ∀ {A : Hp} (l : List Value), Fresh H3 A → Fresh H (A.wr H.size l) := fun l h => (f03.trans h).then ((Ext.refl (fun z => z = H.size) _).wr (fun _ => rfl) _) (fun z hz => by omega)
  simp (disch := (first | omega | (simp only [size_new, size_newm, size_wr, size_wrm] <;> omega) | fail)) only [go_sem, Nat.reduceBEq, Nat.reduceAdd, Nat.reduceMul, Nat.reduceLeDiff, ↓reduceIte, rd_new_lt, own_new_lt, mp_new_lt, rd_newm_lt, own_newm_lt, mp_newm_lt, rd_wr_ne, own_wr_ne, mp_wr_ne, rd_wrm_ne, own_wrm_ne, mp_wrm_ne, rd_new_eq, own_new_eq, mp_newm_eq]
  refine Both.dec (fun h11 => ?_) (fun h11 => ?_) <;> simp (disch := (first | omega | (simp only [size_new, size_newm, size_wr, size_wrm] <;> omega) | fail)) only [go_sem, Nat.reduceBEq, Nat.reduceAdd, Nat.reduceMul, Nat.reduceLeDiff, ↓reduceIte, rd_new_lt, own_new_lt, mp_new_lt, rd_newm_lt, own_newm_lt, mp_newm_lt, rd_wr_ne, own_wr_ne, mp_wr_ne, rd_wrm_ne, own_wrm_ne, mp_wrm_ne, rd_new_eq, own_new_eq, mp_newm_eq]
  · have hj10 : j ≤ 10 := by omega
    obtain ⟨hn0, bb, oo, lb, hbb, hrd, hlb⟩ := RdS.str rw3 (i := 0) (x := w0) (by rw [hw0]; rfl)
    injection hbb with hbb
    injection hbb with hbb1 hbb2
    subst hbb1; subst hbb2
    refine InvV.intro (fun H' => H'.rd bw = some lb) hrd ?_
    simp (disch := (first | omega | (simp only [size_new, size_newm, size_wr, size_wrm] <;> omega) | fail)) only [go_sem, Nat.reduceBEq, Nat.reduceAdd, Nat.reduceMul, Nat.reduceLeDiff, ↓reduceIte, rd_new_lt, own_new_lt, mp_new_lt, rd_newm_lt, own_newm_lt, mp_newm_lt, rd_wr_ne, own_wr_ne, mp_wr_ne, rd_wrm_ne, own_wrm_ne, mp_wrm_ne, rd_new_eq, own_new_eq, mp_newm_eq]
    refine ⟨⟨by omega, by omega⟩, ?_⟩
    simp (disch := (first | omega | (simp only [size_new, size_newm, size_wr, size_wrm] <;> omega) | fail)) only [go_sem, Nat.reduceBEq, Nat.reduceAdd, Nat.reduceMul, Nat.reduceLeDiff, ↓reduceIte, rd_new_lt, own_new_lt, mp_new_lt, rd_newm_lt, own_newm_lt, mp_newm_lt, rd_wr_ne, own_wr_ne, mp_wr_ne, rd_wrm_ne, own_wrm_ne, mp_wrm_ne, rd_new_eq, own_new_eq, mp_newm_eq, Int.toNat_zero, Nat.zero_mul, Nat.zero_add]
    refine StbV.intro (strV w0) (fun H' hI => ?_) ?_
    · simp (disch := (first | omega | (simp only [size_new, size_newm, size_wr, size_wrm] <;> omega) | fail)) only [go_sem, Nat.reduceBEq, Nat.reduceAdd, Nat.reduceMul, Nat.reduceLeDiff, ↓reduceIte, rd_new_lt, own_new_lt, mp_new_lt, rd_newm_lt, own_newm_lt, mp_newm_lt, rd_wr_ne, own_wr_ne, mp_wr_ne, rd_wrm_ne, own_wrm_ne, mp_wrm_ne, rd_new_eq, own_new_eq, mp_newm_eq, hI]
      refine withO_mk hlb ?_
      exact ⟨rfl, rfl⟩
    simp (disch := (first | omega | (simp only [size_new, size_newm, size_wr, size_wrm] <;> omega) | fail)) only [go_sem, Nat.reduceBEq, Nat.reduceAdd, Nat.reduceMul, Nat.reduceLeDiff, ↓reduceIte, rd_new_lt, own_new_lt, mp_new_lt, rd_newm_lt, own_newm_lt, mp_newm_lt, rd_wr_ne, own_wr_ne, mp_wr_ne, rd_wrm_ne, own_wrm_ne, mp_wrm_ne, rd_new_eq, own_new_eq, mp_newm_eq]
    refine (ref18_Word_spec H3 j).mono ?_
    rintro _ H4 ⟨rfl, f4⟩
    refine And.intro (f4.rd hrd (fun h => h)) ?_
    rw [if_pos (c := 0 ≤ (j : Int) ∧ (j : Int) ≤ 10) (by omega), Int.toNat_natCast]
    have rw4 := rw3.fresh f4
    simp (disch := (first | omega | (simp only [size_new, size_newm, size_wr, size_wrm] <;> omega) | fail)) only [go_sem, Nat.reduceBEq, Nat.reduceAdd, Nat.reduceMul, Nat.reduceLeDiff, ↓reduceIte, rd_new_lt, own_new_lt, mp_new_lt, rd_newm_lt, own_newm_lt, mp_newm_lt, rd_wr_ne, own_wr_ne, mp_wr_ne, rd_wrm_ne, own_wrm_ne, mp_wrm_ne, rd_new_eq, own_new_eq, mp_newm_eq, eq_bytes]
    refine Both.dec (fun hw => ?_) (fun hw => ?_) <;> simp (disch := (first | omega | (simp only [size_new, size_newm, size_wr, size_wrm] <;> omega) | fail)) only [go_sem, Nat.reduceBEq, Nat.reduceAdd, Nat.reduceMul, Nat.reduceLeDiff, ↓reduceIte, rd_new_lt, own_new_lt, mp_new_lt, rd_newm_lt, own_newm_lt, mp_newm_lt, rd_wr_ne, own_wr_ne, mp_wr_ne, rd_wrm_ne, own_wrm_ne, mp_wrm_ne, rd_new_eq, own_new_eq, mp_newm_eq]
    rotate_left
    · rw [wrap64 (n := (j : Int) + 1) (by omega) (by omega)]
      refine ⟨10 - j, by omega, f3.trans f4, j + 1, by omega, by omega, fun op a b k h hr e => ?_, rfl⟩
      by_cases h2 : op = j
      · subst h2
        have h5 := word op a b k hr e
        rw [hw0] at h5
        injection h5 with h5
        exact hw h5.symm
      · exact hno op a b k (by omega) hr e
    have only : (∀ a b k, RightR j a b k → l ≠ textR j a b k) → ∀ op a b k, RightR op a b k → l ≠ textR op a b k := fun hn op a b k hr e => by
      have h5 := word op a b k hr e
      rw [hw0] at h5
      injection h5 with h5
      have := word_inj hj10 hr.le (hw.trans h5)
      subst this
      exact hn a b k hr e
    refine ⟨⟨by omega, by omega, by omega, by omega⟩, ?_⟩
    simp (disch := (first | omega | (simp only [size_new, size_newm, size_wr, size_wrm] <;> omega) | fail)) only [go_sem, Nat.reduceBEq, Nat.reduceAdd, Nat.reduceMul, Nat.reduceLeDiff, ↓reduceIte, rd_new_lt, own_new_lt, mp_new_lt, rd_newm_lt, own_newm_lt, mp_newm_lt, rd_wr_ne, own_wr_ne, mp_wr_ne, rd_wrm_ne, own_wrm_ne, mp_wrm_ne, rd_new_eq, own_new_eq, mp_newm_eq]
    obtain ⟨a6, c6, e6, r6, l6, _⟩ := slc_tail rw4 hpos hcw
    rw [e6]
    have hwl : ws.length - 1 = wr.length := by rw [hw0]; rfl
    have hwt : ws.tail = wr := by rw [hw0]; rfl
    rw [hwl] at r6 l6 ⊢
    rw [hwt] at r6
    have b4 := f4.own b3 (fun h => h)
    have wl : ∀ w ∈ ws, w.length ≤ 1000000 := fun w hw => Nat.le_trans (lp1 w hw) hl
    refine vc_cut (fun e H' => e.find 2 = some (ptr H.size) ∧ e.find 5 = some (i64 j) ∧ Fresh H3 H' ∧ ∃ (rest : List (List UInt8)) (n : Nat) (a : Option Addr) (c : Nat), e.find 6 = some (.slice a n c) ∧ n = rest.length ∧ RdS H' 1 (.slice a n c) n (rest.map strV) ∧ n ≤ c ∧ (∀ w ∈ rest, w.length ≤ 1000000) ∧
      (∀ a b k, RightR j a b k → l = textR j a b k → rest = pat j a b k) ∧ (∀ a b k, RightR j a b k → rest = pat j a b k → l = textR j a b k)) ?_ ?_
    · simp (disch := (first | omega | (simp only [size_new, size_newm, size_wr, size_wrm] <;> omega) | fail)) only [go_sem, Nat.reduceBEq, Nat.reduceAdd, Nat.reduceMul, Nat.reduceLeDiff, ↓reduceIte, rd_new_lt, own_new_lt, mp_new_lt, rd_newm_lt, own_newm_lt, mp_newm_lt, rd_wr_ne, own_wr_ne, mp_wr_ne, rd_wrm_ne, own_wrm_ne, mp_wrm_ne, rd_new_eq, own_new_eq, mp_newm_eq]
      refine (ref18_Handle_spec H4 hj10).mono ?_
      rintro _ _ ⟨rfl, rfl⟩
      cases hh : handleOf j <;> simp (disch := (first | omega | (simp only [size_new, size_newm, size_wr, size_wrm] <;> omega) | fail)) only [go_sem, Nat.reduceBEq, Nat.reduceAdd, Nat.reduceMul, Nat.reduceLeDiff, ↓reduceIte, rd_new_lt, own_new_lt, mp_new_lt, rd_newm_lt, own_newm_lt, mp_newm_lt, rd_wr_ne, own_wr_ne, mp_wr_ne, rd_wrm_ne, own_wrm_ne, mp_wrm_ne, rd_new_eq, own_new_eq, mp_newm_eq]
      · refine ⟨trivial, trivial, f4, wr, wr.length, a6, c6, rfl, rfl, r6, l6, fun w hw => wl w (by rw [hw0]; exact List.mem_cons_of_mem _ hw), fun a b k hr e => ?_, fun a b k hr e => back j a b k ?_⟩
        · have h5 := word j a b k hr e
          rw [words_pat hj10 hh, hw0] at h5
          injection h5
        · rw [words_pat hj10 hh, ← e, hw0, hw]
      · refine Both.dec (fun h1 => ?_) (fun h1 => ?_) <;> simp (disch := (first | omega | (simp only [size_new, size_newm, size_wr, size_wrm] <;> omega) | fail)) only [go_sem, Nat.reduceBEq, Nat.reduceAdd, Nat.reduceMul, Nat.reduceLeDiff, ↓reduceIte, rd_new_lt, own_new_lt, mp_new_lt, rd_newm_lt, own_newm_lt, mp_newm_lt, rd_wr_ne, own_wr_ne, mp_wr_ne, rd_wrm_ne, own_wrm_ne, mp_wrm_ne, rd_new_eq, own_new_eq, mp_newm_eq]
        · obtain ⟨w1, wt, hw1⟩ : ∃ w1 wt, wr = w1 :: wt := by
            cases wr with
            | nil => simp at h1
            | cons x r => exact ⟨x, r, rfl⟩
          obtain ⟨_, bb, oo, lb', hbb, hrd', hlb'⟩ := RdS.str r6 (i := 0) (x := w1) (by rw [hw1]; rfl)
          subst hbb
          refine ⟨⟨by omega, by omega⟩, ?_⟩
          have hw1l := wl w1 (by rw [hw0, hw1]; simp)
          simp (disch := (first | omega | (simp only [size_new, size_newm, size_wr, size_wrm] <;> omega) | fail)) only [go_sem, Nat.reduceBEq, Nat.reduceAdd, Nat.reduceMul, Nat.reduceLeDiff, ↓reduceIte, rd_new_lt, own_new_lt, mp_new_lt, rd_newm_lt, own_newm_lt, mp_newm_lt, rd_wr_ne, own_wr_ne, mp_wr_ne, rd_wrm_ne, own_wrm_ne, mp_wrm_ne, rd_new_eq, own_new_eq, mp_newm_eq, Int.toNat_zero, Nat.zero_mul, hrd', hlb']
          refine (ref18_cut_spec _ w1 hw1l 46).mono ?_
          rintro vc H6 ⟨f6, bc, hbc, sc⟩
          obtain ⟨cp1, cp2⟩ := len_piece 46 _ w1 (Nat.le_refl _)
          simp (disch := (first | omega | (simp only [size_new, size_newm, size_wr, size_wrm] <;> omega) | fail)) only [go_sem, Nat.reduceBEq, Nat.reduceAdd, Nat.reduceMul, Nat.reduceLeDiff, ↓reduceIte, rd_new_lt, own_new_lt, mp_new_lt, rd_newm_lt, own_newm_lt, mp_newm_lt, rd_wr_ne, own_wr_ne, mp_wr_ne, rd_wrm_ne, own_wrm_ne, mp_wrm_ne, rd_new_eq, own_new_eq, mp_newm_eq]
          have r7 := r6.fresh f6
          have hwt1 : wr.tail = wt := by rw [hw1]; rfl
          have hwt2 : wr.length - 1 = wt.length := by rw [hw1]; rfl
          refine ⟨⟨by omega, by omega, by omega, by omega⟩, ?_⟩
          obtain ⟨a8, c8, e8, r8, l8, _⟩ := slc_tail r7 (by omega) l6
          rw [hwt1, hwt2] at r8
          rw [hwt2] at l8 e8
          simp (disch := (first | omega | (simp only [size_new, size_newm, size_wr, size_wrm] <;> omega) | fail)) only [go_sem, Nat.reduceBEq, Nat.reduceAdd, Nat.reduceMul, Nat.reduceLeDiff, ↓reduceIte, rd_new_lt, own_new_lt, mp_new_lt, rd_newm_lt, own_newm_lt, mp_newm_lt, rd_wr_ne, own_wr_ne, mp_wr_ne, rd_wrm_ne, own_wrm_ne, mp_wrm_ne, rd_new_eq, own_new_eq, mp_newm_eq]
          rw [e8]
          have hpl : (pieces 46 w1).length + wt.length ≤ 2000010 := by
            have : wt.length < ws.length := by rw [hw0, hw1]; simp; omega
            omega
          refine Sl.append sc r8 rfl (ones_str wt) (by omega) ?_
          intro v' H7 fp' s9 e9 hfp
          simp (disch := (first | omega | (simp only [size_new, size_newm, size_wr, size_wrm] <;> omega) | fail)) only [go_sem, Nat.reduceBEq, Nat.reduceAdd, Nat.reduceMul, Nat.reduceLeDiff, ↓reduceIte, rd_new_lt, own_new_lt, mp_new_lt, rd_newm_lt, own_newm_lt, mp_newm_lt, rd_wr_ne, own_wr_ne, mp_wr_ne, rd_wrm_ne, own_wrm_ne, mp_wrm_ne, rd_new_eq, own_new_eq, mp_newm_eq]
          have f67 := f6.then e9 (fun z hz => by injection hz with hz; omega)
          obtain ⟨_, b9, o9, lb9, hbb9, hrd9, hlb9⟩ := RdS.str (rw4.fresh f67) (i := 1) (x := w1) (by rw [hw0, hw1]; rfl)
          injection hbb9 with hbb9
          injection hbb9 with hb9 ho9
          subst hb9; subst ho9
          obtain ⟨a9, c9, rfl, hc9⟩ := sl_val s9
          refine ⟨⟨by omega, by rw [hw0, hw1]; simp; omega⟩, ?_⟩
          simp (disch := (first | omega | (simp only [size_new, size_newm, size_wr, size_wrm] <;> omega) | fail)) only [go_sem, Nat.reduceBEq, Nat.reduceAdd, Nat.reduceMul, Nat.reduceLeDiff, ↓reduceIte, rd_new_lt, own_new_lt, mp_new_lt, rd_newm_lt, own_newm_lt, mp_newm_lt, rd_wr_ne, own_wr_ne, mp_wr_ne, rd_wrm_ne, own_wrm_ne, mp_wrm_ne, rd_new_eq, own_new_eq, mp_newm_eq, Int.toNat_one, Nat.one_mul, hrd9, hlb9]
          refine (ref18_cut_spec _ w1 hw1l 46).mono ?_
          rintro vd H8 ⟨f8, bd, hbd, sd⟩
          obtain ⟨ad, cd, rfl, hcd⟩ := sl_val sd
          have r9 := s9.rd.fresh f8
          have f48 := f67.trans f8
          simp (disch := (first | omega | (simp only [size_new, size_newm, size_wr, size_wrm] <;> omega) | fail)) only [go_sem, Nat.reduceBEq, Nat.reduceAdd, Nat.reduceMul, Nat.reduceLeDiff, ↓reduceIte, rd_new_lt, own_new_lt, mp_new_lt, rd_newm_lt, own_newm_lt, mp_newm_lt, rd_wr_ne, own_wr_ne, mp_wr_ne, rd_wrm_ne, own_wrm_ne, mp_wrm_ne, rd_new_eq, own_new_eq, mp_newm_eq]
          refine Both.dec (fun h2 => ?_) (fun h2 => ?_) <;> simp (disch := (first | omega | (simp only [size_new, size_newm, size_wr, size_wrm] <;> omega) | fail)) only [go_sem, Nat.reduceBEq, Nat.reduceAdd, Nat.reduceMul, Nat.reduceLeDiff, ↓reduceIte, rd_new_lt, own_new_lt, mp_new_lt, rd_newm_lt, own_newm_lt, mp_newm_lt, rd_wr_ne, own_wr_ne, mp_wr_ne, rd_wrm_ne, own_wrm_ne, mp_wrm_ne, rd_new_eq, own_new_eq, mp_newm_eq]
          · have h2' : (pieces 46 w1).length = 2 := by omega
            refine ⟨trivial, trivial, f4.trans f48, pieces 46 w1 ++ wt, _, a9, c9, rfl, by rw [List.length_append], by rw [List.map_append]; exact r9, hc9, fun w hw => ?_, fun a b k hr e => ?_, fun a b k hr e => back j a b k ?_⟩
            · rcases List.mem_append.1 hw with hw | hw
              · have := cp1 w hw; omega
              · exact wl w (by rw [hw0, hw1]; simp [hw])
            · have h5 := word j a b k hr e
              rw [(words_patH hj10 hh).1, hw0, hw1] at h5
              injection h5 with _ h5
              injection h5 with h5 h6
              rw [(words_patH hj10 hh).2, h5, h6, pieces_dot]
              rfl
            · rw [(words_patH hj10 hh).2] at e
              have h6 := List.append_inj (s₁ := pieces 46 w1) (t₁ := wt) (s₂ := [Lib.decDigits a, Lib.decDigits b]) (t₂ := if keyOf j then [Lib.itoa k] else []) e (by rw [h2']; rfl)
              have h7 := join_of_pieces 46 w1
              rw [h6.1, join_two, Lib.join_one] at h7
              rw [(words_patH hj10 hh).1, hw0, hw1, hw, ← h7, h6.2]
          · have b8 := f48.own b4 (fun h => h)
            simp (disch := (first | omega | (simp only [size_new, size_newm, size_wr, size_wrm] <;> omega) | fail)) only [go_sem, Nat.reduceBEq, Nat.reduceAdd, Nat.reduceMul, Nat.reduceLeDiff, ↓reduceIte, rd_new_lt, own_new_lt, mp_new_lt, rd_newm_lt, own_newm_lt, mp_newm_lt, rd_wr_ne, own_wr_ne, mp_wr_ne, rd_wrm_ne, own_wrm_ne, mp_wrm_ne, rd_new_eq, own_new_eq, mp_newm_eq, b8]
            simp (disch := (first | omega | (simp only [size_new, size_newm, size_wr, size_wrm] <;> omega) | fail)) only [go_sem, Nat.reduceBEq, Nat.reduceAdd, Nat.reduceMul, Nat.reduceLeDiff, ↓reduceIte, rd_new_lt, own_new_lt, mp_new_lt, rd_newm_lt, own_newm_lt, mp_newm_lt, rd_wr_ne, own_wr_ne, mp_wr_ne, rd_wrm_ne, own_wrm_ne, mp_wrm_ne, rd_new_eq, own_new_eq, mp_newm_eq, rd_of_own (own_wr_same b8)]
            refine ⟨.inr ⟨only fun a b k hr e => h2 ?_, rfl⟩, done _ (f4.trans f48)⟩
            have h5 := word j a b k hr e
            rw [(words_patH hj10 hh).1, hw0, hw1] at h5
            injection h5 with _ h5
            injection h5 with h5 h6
            rw [h5, pieces_dot]
            rfl
        · have hwr : wr = [] := List.length_eq_zero_iff.1 (by omega)
          refine ⟨trivial, trivial, f4, wr, wr.length, a6, c6, rfl, rfl, r6, l6, fun w hw => (by rw [hwr] at hw; cases hw), fun a b k hr e => ?_, fun a b k hr e => ?_⟩
          · have h5 := word j a b k hr e
            rw [(words_patH hj10 hh).1, hw0, hwr] at h5
            injection h5 with _ h5
            cases h5
          · rw [(words_patH hj10 hh).2, hwr] at e
            cases e
    rintro e H5 ⟨e2, e5, f5, rest, n, a, c, e6, rfl, r5, hc, rl, fwd, bck⟩
    simp (disch := (first | omega | (simp only [size_new, size_newm, size_wr, size_wrm] <;> omega) | fail)) only [go_sem, Nat.reduceBEq, Nat.reduceAdd, Nat.reduceMul, Nat.reduceLeDiff, ↓reduceIte, rd_new_lt, own_new_lt, mp_new_lt, rd_newm_lt, own_newm_lt, mp_newm_lt, rd_wr_ne, own_wr_ne, mp_wr_ne, rd_wrm_ne, own_wrm_ne, mp_wrm_ne, rd_new_eq, own_new_eq, mp_newm_eq, e2, e5, e6]
    refine (ref18_A_spec H5 hj10).mono ?_
    rintro _ _ ⟨rfl, rfl⟩
    simp (disch := (first | omega | (simp only [size_new, size_newm, size_wr, size_wrm] <;> omega) | fail)) only [go_sem, Nat.reduceBEq, Nat.reduceAdd, Nat.reduceMul, Nat.reduceLeDiff, ↓reduceIte, rd_new_lt, own_new_lt, mp_new_lt, rd_newm_lt, own_newm_lt, mp_newm_lt, rd_wr_ne, own_wr_ne, mp_wr_ne, rd_wrm_ne, own_wrm_ne, mp_wrm_ne, rd_new_eq, own_new_eq, mp_newm_eq, e2, e5, e6]
    refine (ref18_B_spec _ hj10).mono ?_
    rintro _ _ ⟨rfl, rfl⟩
    simp (disch := (first | omega | (simp only [size_new, size_newm, size_wr, size_wrm] <;> omega) | fail)) only [go_sem, Nat.reduceBEq, Nat.reduceAdd, Nat.reduceMul, Nat.reduceLeDiff, ↓reduceIte, rd_new_lt, own_new_lt, mp_new_lt, rd_newm_lt, own_newm_lt, mp_newm_lt, rd_wr_ne, own_wr_ne, mp_wr_ne, rd_wrm_ne, own_wrm_ne, mp_wrm_ne, rd_new_eq, own_new_eq, mp_newm_eq, e2, e5, e6]
    refine (ref18_Key_spec _ hj10).mono ?_
    rintro _ H5 ⟨rfl, rfl⟩
    have g7 : Fresh H5 (H5.new 4 [.bool (hasA j), .bool (hasB j), .bool (keyOf j)]) := (Ext.refl _ _).new _ _
    have o7 := own_new H5 4 [.bool (hasA j), .bool (hasB j), .bool (keyOf j)]
    simp (disch := (first | omega | (simp only [size_new, size_newm, size_wr, size_wrm] <;> omega) | fail)) only [go_sem, Nat.reduceBEq, Nat.reduceAdd, Nat.reduceMul, Nat.reduceLeDiff, ↓reduceIte, rd_new_lt, own_new_lt, mp_new_lt, rd_newm_lt, own_newm_lt, mp_newm_lt, rd_wr_ne, own_wr_ne, mp_wr_ne, rd_wrm_ne, own_wrm_ne, mp_wrm_ne, rd_new_eq, own_new_eq, mp_newm_eq, e2, e5, e6]
    have hz6 : (H5.new 4 [.bool (hasA j), .bool (hasB j), .bool (keyOf j)]).size = H5.size + 1 := by rw [size_new]
    generalize hp7 : H5.size = p7 at *
    generalize H5.new 4 [.bool (hasA j), .bool (hasB j), .bool (keyOf j)] = H6 at *
    have g8 : Fresh H6 ((H6.new 40 [i64 0, u32 0, u32 0, i64 0]).wr H6.size [i64 j, u32 0, u32 0, i64 0]) := ((Ext.refl _ _).new _ _).wr (fun h => absurd h (Nat.lt_irrefl _)) _
    have o8 := own_wr_same (l := [i64 j, u32 0, u32 0, i64 0]) (own_new H6 40 [i64 0, u32 0, u32 0, i64 0])
    have o78 := g8.own o7 (fun h => h)
    have hs56 := g7.size
    have hs35 := f5.size
    have hl7 := own_lt o7
    rw [hz6] at g8 o8 o78
    have hl8 := own_lt o8
    generalize hp8 : p7 + 1 = p8 at *
    generalize (H6.new 40 [i64 0, u32 0, u32 0, i64 0]).wr p8 [i64 j, u32 0, u32 0, i64 0] = H7 at *
    have f37 : Fresh H3 H7 := f5.trans (g7.trans g8)
    have r7 := r5.fresh (g7.trans g8)
    have hblk : rest.length ≠ 0 → ∀ x, a = some x → x.block < p7 := fun hn x hx => by rw [← hp7]; exact RdS.blk r5 hn x hx
    have fw : ∀ {A : Hp} (l : List Value), Fresh H3 A → Fresh H3 (A.wr p8 l) := fun l h => h.wr (fun hlt => by omega) l
    have stop : ∀ {A : Hp}, Fresh H3 A → A.own H.size = some [i64 0, u32 0, u32 0, i64 0] := fun h => h.own b3 (fun h => h)
    refine LoopV.intro (fun m env H' => Fresh H3 H' ∧ ∃ (i A B : Nat) (K : Int) (rem : List (List UInt8)) (n : Nat) (a : Option Addr) (c : Nat), m = 3 - i ∧ i ≤ 3 ∧ env = [(2, ptr H.size), (6, .slice a n c), (8, ptr p8), (59, .slice (some ⟨p7, 0, none⟩) 3 3), (60, i64 3), (61, i64 i)] ∧ n = rem.length ∧ RdS H' 1 (.slice a n c) n (rem.map strV) ∧ (n ≠ 0 → ∀ x, a = some x → x.block < p7) ∧ n ≤ c ∧ (∀ w ∈ rem, w.length ≤ 1000000) ∧ H'.own p7 = some [.bool (hasA j), .bool (hasB j), .bool (keyOf j)] ∧ H'.own p8 = some [i64 j, u32 A, u32 B, i64 K] ∧
      rest = (if 0 < i ∧ hasA j = true then [Lib.decDigits A] else []) ++ ((if 1 < i ∧ hasB j = true then [Lib.decDigits B] else []) ++ ((if 2 < i ∧ keyOf j = true then [Lib.itoa K] else []) ++ rem)) ∧
      A < 4294967296 ∧ B < 4294967296 ∧ -9223372036854775808 ≤ K ∧ K ≤ 9223372036854775807 ∧ (¬ (0 < i ∧ hasA j = true) → A = 0) ∧ (¬ (1 < i ∧ hasB j = true) → B = 0) ∧ (¬ (2 < i ∧ keyOf j = true) → K = 0)) 3
      ⟨f37, 0, 0, 0, 0, rest, _, a, c, by omega, by omega, rfl, rfl, r7, hblk, hc, rl, o78, o8, by simp, by omega, by omega, by omega, by omega, fun _ => rfl, fun _ => rfl, fun _ => rfl⟩ ?_
    rintro m env H8 ⟨f8, i, A, B, K, rem, n, a, c, hm2, hi3, rfl, rfl, r8, hb8, hc8, rl8, q7, q8, hrest, hA, hB, hK0, hK1, zA, zB, zK⟩
    simp (disch := (first | omega | (simp only [size_new, size_newm, size_wr, size_wrm] <;> omega) | fail)) only [go_sem, Nat.reduceBEq, Nat.reduceAdd, Nat.reduceMul, Nat.reduceLeDiff, ↓reduceIte, rd_new_lt, own_new_lt, mp_new_lt, rd_newm_lt, own_newm_lt, mp_newm_lt, rd_wr_ne, own_wr_ne, mp_wr_ne, rd_wrm_ne, own_wrm_ne, mp_wrm_ne, rd_new_eq, own_new_eq, mp_newm_eq]
    refine Both.dec (fun hi => ?_) (fun hi => ?_) <;> simp (disch := (first | omega | (simp only [size_new, size_newm, size_wr, size_wrm] <;> omega) | fail)) only [go_sem, Nat.reduceBEq, Nat.reduceAdd, Nat.reduceMul, Nat.reduceLeDiff, ↓reduceIte, rd_new_lt, own_new_lt, mp_new_lt, rd_newm_lt, own_newm_lt, mp_newm_lt, rd_wr_ne, own_wr_ne, mp_wr_ne, rd_wrm_ne, own_wrm_ne, mp_wrm_ne, rd_new_eq, own_new_eq, mp_newm_eq]
    · have hi2 : i = 0 ∨ i = 1 ∨ i = 2 := by omega
      have fail : (∀ a b k, RightR j a b k → rest ≠ pat j a b k) → _ := fun hn => only fun a b k hr e => hn a b k hr (fwd a b k hr e)
      -- what a round does with a flag that is set
      have hflag : ∃ x : Bool, [Value.bool (hasA j), Value.bool (hasB j), Value.bool (keyOf j)][i]? = some (.bool x) ∧ ((i = 0 → x = hasA j) ∧ (i = 1 → x = hasB j) ∧ (i = 2 → x = keyOf j)) := by
        rcases hi2 with rfl | rfl | rfl
        · exact ⟨_, rfl, fun _ => rfl, fun h => by omega, fun h => by omega⟩
        · exact ⟨_, rfl, fun h => by omega, fun _ => rfl, fun h => by omega⟩
        · exact ⟨_, rfl, fun h => by omega, fun h => by omega, fun _ => rfl⟩
      obtain ⟨x, hx, hx0, hx1, hx2⟩ := hflag
      refine vc_cut (fun e H' => e.find 2 = some (ptr H.size) ∧ e.find 8 = some (ptr p8) ∧ e.find 59 = some (.slice (some ⟨p7, 0, none⟩) 3 3) ∧ e.find 60 = some (i64 3) ∧ e.find 61 = some (i64 i) ∧ Fresh H3 H' ∧ ∃ (A B : Nat) (K : Int) (rem : List (List UInt8)) (n : Nat) (a : Option Addr) (c : Nat), e.find 6 = some (.slice a n c) ∧ n = rem.length ∧ RdS H' 1 (.slice a n c) n (rem.map strV) ∧ (n ≠ 0 → ∀ x, a = some x → x.block < p7) ∧ n ≤ c ∧ (∀ w ∈ rem, w.length ≤ 1000000) ∧ H'.own p7 = some [.bool (hasA j), .bool (hasB j), .bool (keyOf j)] ∧ H'.own p8 = some [i64 j, u32 A, u32 B, i64 K] ∧
        rest = (if 0 < i + 1 ∧ hasA j = true then [Lib.decDigits A] else []) ++ ((if 1 < i + 1 ∧ hasB j = true then [Lib.decDigits B] else []) ++ ((if 2 < i + 1 ∧ keyOf j = true then [Lib.itoa K] else []) ++ rem)) ∧
        A < 4294967296 ∧ B < 4294967296 ∧ -9223372036854775808 ≤ K ∧ K ≤ 9223372036854775807 ∧ (¬ (0 < i + 1 ∧ hasA j = true) → A = 0) ∧ (¬ (1 < i + 1 ∧ hasB j = true) → B = 0) ∧ (¬ (2 < i + 1 ∧ keyOf j = true) → K = 0)) ?_ ?_
      · simp (disch := (first | omega | (simp only [size_new, size_newm, size_wr, size_wrm] <;> omega) | fail)) only [go_sem, Nat.reduceBEq, Nat.reduceAdd, Nat.reduceMul, Nat.reduceLeDiff, ↓reduceIte, rd_new_lt, own_new_lt, mp_new_lt, rd_newm_lt, own_newm_lt, mp_newm_lt, rd_wr_ne, own_wr_ne, mp_wr_ne, rd_wrm_ne, own_wrm_ne, mp_wrm_ne, rd_new_eq, own_new_eq, mp_newm_eq]
        refine ⟨⟨by omega, by omega⟩, ?_⟩
        simp (disch := (first | omega | (simp only [size_new, size_newm, size_wr, size_wrm] <;> omega) | fail)) only [go_sem, Nat.reduceBEq, Nat.reduceAdd, Nat.reduceMul, Nat.reduceLeDiff, ↓reduceIte, rd_new_lt, own_new_lt, mp_new_lt, rd_newm_lt, own_newm_lt, mp_newm_lt, rd_wr_ne, own_wr_ne, mp_wr_ne, rd_wrm_ne, own_wrm_ne, mp_wrm_ne, rd_new_eq, own_new_eq, mp_newm_eq, rd_of_own q7, Int.toNat_natCast, Nat.mul_one, Nat.zero_add]
        refine withO_mk hx ?_
        simp (disch := (first | omega | (simp only [size_new, size_newm, size_wr, size_wrm] <;> omega) | fail)) only [go_sem, Nat.reduceBEq, Nat.reduceAdd, Nat.reduceMul, Nat.reduceLeDiff, ↓reduceIte, rd_new_lt, own_new_lt, mp_new_lt, rd_newm_lt, own_newm_lt, mp_newm_lt, rd_wr_ne, own_wr_ne, mp_wr_ne, rd_wrm_ne, own_wrm_ne, mp_wrm_ne, rd_new_eq, own_new_eq, mp_newm_eq]
        cases x <;> simp (disch := (first | omega | (simp only [size_new, size_newm, size_wr, size_wrm] <;> omega) | fail)) only [go_sem, Nat.reduceBEq, Nat.reduceAdd, Nat.reduceMul, Nat.reduceLeDiff, ↓reduceIte, rd_new_lt, own_new_lt, mp_new_lt, rd_newm_lt, own_newm_lt, mp_newm_lt, rd_wr_ne, own_wr_ne, mp_wr_ne, rd_wrm_ne, own_wrm_ne, mp_wrm_ne, rd_new_eq, own_new_eq, mp_newm_eq, Bool.not_false, Bool.not_true]
        · refine ⟨trivial, trivial, trivial, trivial, trivial, f8, A, B, K, rem, rem.length, a, c, rfl, rfl, r8, hb8, hc8, rl8, q7, q8, ?_⟩
          rcases hi2 with rfl | rfl | rfl
          · have := hx0 rfl
            simp [← this] at hrest zA zB zK ⊢
            exact ⟨hrest, hA, hB, hK0, hK1, zA, zB, zK⟩
          · have := hx1 rfl
            simp [← this] at hrest zA zB zK ⊢
            exact ⟨hrest, hA, hB, hK0, hK1, zA, zB, zK⟩
          · have := hx2 rfl
            simp [← this] at hrest zA zB zK ⊢
            exact ⟨hrest, hA, hB, hK0, hK1, zA, zB, zK⟩
        have need : ∀ a b k, RightR j a b k → rest = pat j a b k → ∃ rem', (i = 0 → rem = Lib.decDigits a :: rem') ∧ (i = 1 → rem = Lib.decDigits b :: rem') ∧ (i = 2 → rem = Lib.itoa k :: rem') := fun a b k hr e => by
          rw [e] at hrest
          unfold pat at hrest
          rcases hi2 with rfl | rfl | rfl
          · have h7 := (hx0 rfl).symm
            simp [h7] at hrest
            exact ⟨_, fun _ => hrest.symm, fun h => by omega, fun h => by omega⟩
          · have h7 := (hx1 rfl).symm
            cases h8 : hasA j <;> simp [h7, h8] at hrest
            · exact ⟨_, fun h => by omega, fun _ => hrest.symm, fun h => by omega⟩
            · exact ⟨_, fun h => by omega, fun _ => hrest.2.symm, fun h => by omega⟩
          · have h7 := (hx2 rfl).symm
            cases h8 : hasA j <;> cases h9 : hasB j <;> simp [h7, h8, h9] at hrest
            · exact ⟨_, fun h => by omega, fun h => by omega, fun _ => hrest.symm⟩
            · exact ⟨_, fun h => by omega, fun h => by omega, fun _ => hrest.2.symm⟩
            · exact ⟨_, fun h => by omega, fun h => by omega, fun _ => hrest.2.symm⟩
            · exact ⟨_, fun h => by omega, fun h => by omega, fun _ => hrest.2.2.symm⟩
        refine Both.dec (fun h0 => ?_) (fun h0 => ?_) <;> simp (disch := (first | omega | (simp only [size_new, size_newm, size_wr, size_wrm] <;> omega) | fail)) only [go_sem, Nat.reduceBEq, Nat.reduceAdd, Nat.reduceMul, Nat.reduceLeDiff, ↓reduceIte, rd_new_lt, own_new_lt, mp_new_lt, rd_newm_lt, own_newm_lt, mp_newm_lt, rd_wr_ne, own_wr_ne, mp_wr_ne, rd_wrm_ne, own_wrm_ne, mp_wrm_ne, rd_new_eq, own_new_eq, mp_newm_eq]
        · simp (disch := (first | omega | (simp only [size_new, size_newm, size_wr, size_wrm] <;> omega) | fail)) only [go_sem, Nat.reduceBEq, Nat.reduceAdd, Nat.reduceMul, Nat.reduceLeDiff, ↓reduceIte, rd_new_lt, own_new_lt, mp_new_lt, rd_newm_lt, own_newm_lt, mp_newm_lt, rd_wr_ne, own_wr_ne, mp_wr_ne, rd_wrm_ne, own_wrm_ne, mp_wrm_ne, rd_new_eq, own_new_eq, mp_newm_eq, stop f8]
          simp (disch := (first | omega | (simp only [size_new, size_newm, size_wr, size_wrm] <;> omega) | fail)) only [go_sem, Nat.reduceBEq, Nat.reduceAdd, Nat.reduceMul, Nat.reduceLeDiff, ↓reduceIte, rd_new_lt, own_new_lt, mp_new_lt, rd_newm_lt, own_newm_lt, mp_newm_lt, rd_wr_ne, own_wr_ne, mp_wr_ne, rd_wrm_ne, own_wrm_ne, mp_wrm_ne, rd_new_eq, own_new_eq, mp_newm_eq, rd_of_own (own_wr_same (stop f8))]
          refine ⟨.inr ⟨only fun a b k hr e => ?_, rfl⟩, done _ f8⟩
          obtain ⟨r', h1, h2, h3⟩ := need a b k hr (fwd a b k hr e)
          have : rem = [] := List.length_eq_zero_iff.1 (by omega)
          subst this
          rcases hi2 with hi2 | hi2 | hi2
          · cases h1 hi2
          · cases h2 hi2
          · cases h3 hi2
        obtain ⟨x0, rt, rfl⟩ : ∃ x0 rt, rem = x0 :: rt := by
          cases rem with
          | nil => simp at h0
          | cons x r => exact ⟨x, r, rfl⟩
        have hx0l := rl8 x0 (List.mem_cons_self ..)
        obtain ⟨_, b9, o9, lb9, rfl, hrd9, hlb9⟩ := RdS.str r8 (i := 0) (x := x0) rfl
        refine ⟨⟨by omega, by simp⟩, ?_⟩
        simp (disch := (first | omega | (simp only [size_new, size_newm, size_wr, size_wrm] <;> omega) | fail)) only [go_sem, Nat.reduceBEq, Nat.reduceAdd, Nat.reduceMul, Nat.reduceLeDiff, ↓reduceIte, rd_new_lt, own_new_lt, mp_new_lt, rd_newm_lt, own_newm_lt, mp_newm_lt, rd_wr_ne, own_wr_ne, mp_wr_ne, rd_wrm_ne, own_wrm_ne, mp_wrm_ne, rd_new_eq, own_new_eq, mp_newm_eq, Int.toNat_zero, Nat.zero_mul, hrd9, hlb9]
        refine (ref18_small_spec _ x0 hx0l).mono ?_
        rintro vS _ ⟨hS, rfl⟩
        obtain ⟨sm, ok, rfl, hok1, hok2⟩ : ∃ (sm : Nat) (ok : Bool), vS = .tuple [u32 sm, .bool ok].toArray ∧ (ok = true → sm < 4294967296 ∧ x0 = Lib.decDigits sm) ∧ (ok = false → ∀ u : Nat, u < 4294967296 → x0 ≠ Lib.decDigits u) := by
          rcases hS with ⟨u, h1, h2, rfl⟩ | ⟨h1, rfl⟩
          · exact ⟨u, true, rfl, fun _ => ⟨h1, h2⟩, fun h => by cases h⟩
          · exact ⟨0, false, rfl, fun h => (by cases h), fun _ => h1⟩
        simp (disch := (first | omega | (simp only [size_new, size_newm, size_wr, size_wrm] <;> omega) | fail)) only [go_sem, Nat.reduceBEq, Nat.reduceAdd, Nat.reduceMul, Nat.reduceLeDiff, ↓reduceIte, rd_new_lt, own_new_lt, mp_new_lt, rd_newm_lt, own_newm_lt, mp_newm_lt, rd_wr_ne, own_wr_ne, mp_wr_ne, rd_wrm_ne, own_wrm_ne, mp_wrm_ne, rd_new_eq, own_new_eq, mp_newm_eq]
        refine ⟨⟨by omega, by simp⟩, ?_⟩
        simp (disch := (first | omega | (simp only [size_new, size_newm, size_wr, size_wrm] <;> omega) | fail)) only [go_sem, Nat.reduceBEq, Nat.reduceAdd, Nat.reduceMul, Nat.reduceLeDiff, ↓reduceIte, rd_new_lt, own_new_lt, mp_new_lt, rd_newm_lt, own_newm_lt, mp_newm_lt, rd_wr_ne, own_wr_ne, mp_wr_ne, rd_wrm_ne, own_wrm_ne, mp_wrm_ne, rd_new_eq, own_new_eq, mp_newm_eq, Int.toNat_zero, Nat.zero_mul, hrd9, hlb9]
        refine (ref01_Number_spec _ x0 hx0l).mono ?_
        rintro vN _ ⟨hN, rfl⟩
        obtain ⟨nn, is, rfl, hn0, hn1, his1, his2⟩ : ∃ (nn : Int) (is : Bool), vN = .tuple [i64 nn, .bool is].toArray ∧ -9223372036854775808 ≤ nn ∧ nn ≤ 9223372036854775807 ∧ (is = true → x0 = Lib.itoa nn) ∧ (is = false → ∀ n : Int, -9223372036854775808 ≤ n → n ≤ 9223372036854775807 → x0 ≠ Lib.itoa n) := by
          rcases hN with ⟨u, h0, h1, h2, rfl⟩ | ⟨h1, rfl⟩
          · exact ⟨u, true, rfl, h0, h1, fun _ => h2, fun h => by cases h⟩
          · exact ⟨0, false, rfl, by omega, by omega, fun h => (by cases h), fun _ => h1⟩
        have hokis : ok = true → is = true := fun h => by
          obtain ⟨h1, h2⟩ := hok1 h
          cases his : is
          · exact absurd (h2.trans (Lib.itoa_nonneg sm).symm) (his2 his sm (by omega) (by omega))
          · rfl
        have r8' : RdS H8 1 (.slice (some ⟨b9, o9, none⟩) (rt.length + 1) c) (rt.length + 1) ((x0 :: rt).map strV) := r8
        obtain ⟨a10, c10, e10, r10, l10, y10⟩ := slc_tail r8' (by omega) hc8
        rw [Nat.add_sub_cancel] at e10 r10 l10
        have hb9 : b9 < p7 := hb8 (by simp) _ rfl
        have hc8' : rt.length + 1 ≤ c := hc8
        have hb10 : rt.length ≠ 0 → ∀ x, a10 = some x → x.block < p7 := fun _ x hx => by
          obtain ⟨y, hy, hxy⟩ := y10 x hx
          injection hy with hy
          rw [hxy, ← hy]
          exact hb9
        have r10' : ∀ l, RdS (H8.wr p8 l) 1 (.slice a10 rt.length c10) rt.length (rt.map strV) := fun l => RdS.off r10 ((Ext.refl (fun z => z = p8) _).wr (fun _ => rfl) _) (fun hn x hx => by have := hb10 hn x hx; omega)
        have q7' : ∀ l, (H8.wr p8 l).own p7 = some [.bool (hasA j), .bool (hasB j), .bool (keyOf j)] := fun l => by rw [own_wr_ne (by omega)]; exact q7
        have rl9 : ∀ w ∈ rt, w.length ≤ 1000000 := fun w hw => rl8 w (List.mem_cons_of_mem _ hw)
        have err : ∀ {A : Hp}, Fresh H3 A → (∀ a b k, RightR j a b k → rest ≠ pat j a b k) → RecD l (tup [recV 0 0 0 0, i64 181]) ∧ Fresh H (A.wr H.size [i64 0, u32 0, u32 0, i64 0]) := fun hA hn => ⟨.inr ⟨only fun a b k hr e => hn a b k hr (fwd a b k hr e), rfl⟩, done _ hA⟩
        rcases hi2 with rfl | rfl | rfl
        · simp (disch := (first | omega | (simp only [size_new, size_newm, size_wr, size_wrm] <;> omega) | fail)) only [go_sem, Nat.reduceBEq, Nat.reduceAdd, Nat.reduceMul, Nat.reduceLeDiff, ↓reduceIte, rd_new_lt, own_new_lt, mp_new_lt, rd_newm_lt, own_newm_lt, mp_newm_lt, rd_wr_ne, own_wr_ne, mp_wr_ne, rd_wrm_ne, own_wrm_ne, mp_wrm_ne, rd_new_eq, own_new_eq, mp_newm_eq]
          refine Both.of_true (by decide) ?_
          simp (disch := (first | omega | (simp only [size_new, size_newm, size_wr, size_wrm] <;> omega) | fail)) only [go_sem, Nat.reduceBEq, Nat.reduceAdd, Nat.reduceMul, Nat.reduceLeDiff, ↓reduceIte, rd_new_lt, own_new_lt, mp_new_lt, rd_newm_lt, own_newm_lt, mp_newm_lt, rd_wr_ne, own_wr_ne, mp_wr_ne, rd_wrm_ne, own_wrm_ne, mp_wrm_ne, rd_new_eq, own_new_eq, mp_newm_eq]
          cases ok <;> simp (disch := (first | omega | (simp only [size_new, size_newm, size_wr, size_wrm] <;> omega) | fail)) only [go_sem, Nat.reduceBEq, Nat.reduceAdd, Nat.reduceMul, Nat.reduceLeDiff, ↓reduceIte, rd_new_lt, own_new_lt, mp_new_lt, rd_newm_lt, own_newm_lt, mp_newm_lt, rd_wr_ne, own_wr_ne, mp_wr_ne, rd_wrm_ne, own_wrm_ne, mp_wrm_ne, rd_new_eq, own_new_eq, mp_newm_eq, Bool.not_false, Bool.not_true]
          · simp (disch := (first | omega | (simp only [size_new, size_newm, size_wr, size_wrm] <;> omega) | fail)) only [go_sem, Nat.reduceBEq, Nat.reduceAdd, Nat.reduceMul, Nat.reduceLeDiff, ↓reduceIte, rd_new_lt, own_new_lt, mp_new_lt, rd_newm_lt, own_newm_lt, mp_newm_lt, rd_wr_ne, own_wr_ne, mp_wr_ne, rd_wrm_ne, own_wrm_ne, mp_wrm_ne, rd_new_eq, own_new_eq, mp_newm_eq, stop f8]
            simp (disch := (first | omega | (simp only [size_new, size_newm, size_wr, size_wrm] <;> omega) | fail)) only [go_sem, Nat.reduceBEq, Nat.reduceAdd, Nat.reduceMul, Nat.reduceLeDiff, ↓reduceIte, rd_new_lt, own_new_lt, mp_new_lt, rd_newm_lt, own_newm_lt, mp_newm_lt, rd_wr_ne, own_wr_ne, mp_wr_ne, rd_wrm_ne, own_wrm_ne, mp_wrm_ne, rd_new_eq, own_new_eq, mp_newm_eq, rd_of_own (own_wr_same (stop f8))]
            exact err f8 fun a b k hr e => by
              obtain ⟨r', h1, h2, h3⟩ := need a b k hr e
              injection h1 rfl with h5 _
              exact hok2 rfl a (by have := hr.la; have := hr.lb; omega) h5
          have hisT := hokis rfl
          rw [hisT]
          simp (disch := (first | omega | (simp only [size_new, size_newm, size_wr, size_wrm] <;> omega) | fail)) only [go_sem, Nat.reduceBEq, Nat.reduceAdd, Nat.reduceMul, Nat.reduceLeDiff, ↓reduceIte, rd_new_lt, own_new_lt, mp_new_lt, rd_newm_lt, own_newm_lt, mp_newm_lt, rd_wr_ne, own_wr_ne, mp_wr_ne, rd_wrm_ne, own_wrm_ne, mp_wrm_ne, rd_new_eq, own_new_eq, mp_newm_eq, Bool.not_true]
          rw [vc_cutS]
          simp (disch := (first | omega | (simp only [size_new, size_newm, size_wr, size_wrm] <;> omega) | fail)) only [go_sem, Nat.reduceBEq, Nat.reduceAdd, Nat.reduceMul, Nat.reduceLeDiff, ↓reduceIte, rd_new_lt, own_new_lt, mp_new_lt, rd_newm_lt, own_newm_lt, mp_newm_lt, rd_wr_ne, own_wr_ne, mp_wr_ne, rd_wrm_ne, own_wrm_ne, mp_wrm_ne, rd_new_eq, own_new_eq, mp_newm_eq]
          refine Both.of_true (by decide) ?_
          simp (disch := (first | omega | (simp only [size_new, size_newm, size_wr, size_wrm] <;> omega) | fail)) only [go_sem, Nat.reduceBEq, Nat.reduceAdd, Nat.reduceMul, Nat.reduceLeDiff, ↓reduceIte, rd_new_lt, own_new_lt, mp_new_lt, rd_newm_lt, own_newm_lt, mp_newm_lt, rd_wr_ne, own_wr_ne, mp_wr_ne, rd_wrm_ne, own_wrm_ne, mp_wrm_ne, rd_new_eq, own_new_eq, mp_newm_eq, q8]
          rw [vc_cutS]
          simp (disch := (first | omega | (simp only [size_new, size_newm, size_wr, size_wrm] <;> omega) | fail)) only [go_sem, Nat.reduceBEq, Nat.reduceAdd, Nat.reduceMul, Nat.reduceLeDiff, ↓reduceIte, rd_new_lt, own_new_lt, mp_new_lt, rd_newm_lt, own_newm_lt, mp_newm_lt, rd_wr_ne, own_wr_ne, mp_wr_ne, rd_wrm_ne, own_wrm_ne, mp_wrm_ne, rd_new_eq, own_new_eq, mp_newm_eq]
          refine Both.of_false (by decide) ?_
          simp (disch := (first | omega | (simp only [size_new, size_newm, size_wr, size_wrm] <;> omega) | fail)) only [go_sem, Nat.reduceBEq, Nat.reduceAdd, Nat.reduceMul, Nat.reduceLeDiff, ↓reduceIte, rd_new_lt, own_new_lt, mp_new_lt, rd_newm_lt, own_newm_lt, mp_newm_lt, rd_wr_ne, own_wr_ne, mp_wr_ne, rd_wrm_ne, own_wrm_ne, mp_wrm_ne, rd_new_eq, own_new_eq, mp_newm_eq]
          rw [vc_cutS]
          simp (disch := (first | omega | (simp only [size_new, size_newm, size_wr, size_wrm] <;> omega) | fail)) only [go_sem, Nat.reduceBEq, Nat.reduceAdd, Nat.reduceMul, Nat.reduceLeDiff, ↓reduceIte, rd_new_lt, own_new_lt, mp_new_lt, rd_newm_lt, own_newm_lt, mp_newm_lt, rd_wr_ne, own_wr_ne, mp_wr_ne, rd_wrm_ne, own_wrm_ne, mp_wrm_ne, rd_new_eq, own_new_eq, mp_newm_eq]
          refine Both.of_false (by decide) ?_
          simp (disch := (first | omega | (simp only [size_new, size_newm, size_wr, size_wrm] <;> omega) | fail)) only [go_sem, Nat.reduceBEq, Nat.reduceAdd, Nat.reduceMul, Nat.reduceLeDiff, ↓reduceIte, rd_new_lt, own_new_lt, mp_new_lt, rd_newm_lt, own_newm_lt, mp_newm_lt, rd_wr_ne, own_wr_ne, mp_wr_ne, rd_wrm_ne, own_wrm_ne, mp_wrm_ne, rd_new_eq, own_new_eq, mp_newm_eq]
          refine ⟨⟨by omega, by omega, by omega, by omega⟩, ?_⟩
          simp (disch := (first | omega | (simp only [size_new, size_newm, size_wr, size_wrm] <;> omega) | fail)) only [go_sem, Nat.reduceBEq, Nat.reduceAdd, Nat.reduceMul, Nat.reduceLeDiff, ↓reduceIte, rd_new_lt, own_new_lt, mp_new_lt, rd_newm_lt, own_newm_lt, mp_newm_lt, rd_wr_ne, own_wr_ne, mp_wr_ne, rd_wrm_ne, own_wrm_ne, mp_wrm_ne, rd_new_eq, own_new_eq, mp_newm_eq]
          rw [e10]
          obtain ⟨hlu, heq⟩ := hok1 rfl
          have h7 := (hx0 rfl).symm
          refine ⟨trivial, trivial, trivial, trivial, trivial, fw _ f8, sm, B, K, rt, rt.length, a10, c10, rfl, rfl, r10' _, hb10, l10, rl9, by first | exact q7 | exact q7' _, own_wr_same q8, ?_⟩
          simp [h7, heq] at hrest zA zB zK ⊢
          exact ⟨hrest, hlu, hB, hK0, hK1, zB, zK⟩
        · simp (disch := (first | omega | (simp only [size_new, size_newm, size_wr, size_wrm] <;> omega) | fail)) only [go_sem, Nat.reduceBEq, Nat.reduceAdd, Nat.reduceMul, Nat.reduceLeDiff, ↓reduceIte, rd_new_lt, own_new_lt, mp_new_lt, rd_newm_lt, own_newm_lt, mp_newm_lt, rd_wr_ne, own_wr_ne, mp_wr_ne, rd_wrm_ne, own_wrm_ne, mp_wrm_ne, rd_new_eq, own_new_eq, mp_newm_eq]
          refine Both.of_true (by decide) ?_
          simp (disch := (first | omega | (simp only [size_new, size_newm, size_wr, size_wrm] <;> omega) | fail)) only [go_sem, Nat.reduceBEq, Nat.reduceAdd, Nat.reduceMul, Nat.reduceLeDiff, ↓reduceIte, rd_new_lt, own_new_lt, mp_new_lt, rd_newm_lt, own_newm_lt, mp_newm_lt, rd_wr_ne, own_wr_ne, mp_wr_ne, rd_wrm_ne, own_wrm_ne, mp_wrm_ne, rd_new_eq, own_new_eq, mp_newm_eq]
          cases ok <;> simp (disch := (first | omega | (simp only [size_new, size_newm, size_wr, size_wrm] <;> omega) | fail)) only [go_sem, Nat.reduceBEq, Nat.reduceAdd, Nat.reduceMul, Nat.reduceLeDiff, ↓reduceIte, rd_new_lt, own_new_lt, mp_new_lt, rd_newm_lt, own_newm_lt, mp_newm_lt, rd_wr_ne, own_wr_ne, mp_wr_ne, rd_wrm_ne, own_wrm_ne, mp_wrm_ne, rd_new_eq, own_new_eq, mp_newm_eq, Bool.not_false, Bool.not_true]
          · simp (disch := (first | omega | (simp only [size_new, size_newm, size_wr, size_wrm] <;> omega) | fail)) only [go_sem, Nat.reduceBEq, Nat.reduceAdd, Nat.reduceMul, Nat.reduceLeDiff, ↓reduceIte, rd_new_lt, own_new_lt, mp_new_lt, rd_newm_lt, own_newm_lt, mp_newm_lt, rd_wr_ne, own_wr_ne, mp_wr_ne, rd_wrm_ne, own_wrm_ne, mp_wrm_ne, rd_new_eq, own_new_eq, mp_newm_eq, stop f8]
            simp (disch := (first | omega | (simp only [size_new, size_newm, size_wr, size_wrm] <;> omega) | fail)) only [go_sem, Nat.reduceBEq, Nat.reduceAdd, Nat.reduceMul, Nat.reduceLeDiff, ↓reduceIte, rd_new_lt, own_new_lt, mp_new_lt, rd_newm_lt, own_newm_lt, mp_newm_lt, rd_wr_ne, own_wr_ne, mp_wr_ne, rd_wrm_ne, own_wrm_ne, mp_wrm_ne, rd_new_eq, own_new_eq, mp_newm_eq, rd_of_own (own_wr_same (stop f8))]
            exact err f8 fun a b k hr e => by
              obtain ⟨r', h1, h2, h3⟩ := need a b k hr e
              injection h2 rfl with h5 _
              exact hok2 rfl b (by have := hr.la; have := hr.lb; omega) h5
          have hisT := hokis rfl
          rw [hisT]
          simp (disch := (first | omega | (simp only [size_new, size_newm, size_wr, size_wrm] <;> omega) | fail)) only [go_sem, Nat.reduceBEq, Nat.reduceAdd, Nat.reduceMul, Nat.reduceLeDiff, ↓reduceIte, rd_new_lt, own_new_lt, mp_new_lt, rd_newm_lt, own_newm_lt, mp_newm_lt, rd_wr_ne, own_wr_ne, mp_wr_ne, rd_wrm_ne, own_wrm_ne, mp_wrm_ne, rd_new_eq, own_new_eq, mp_newm_eq, Bool.not_true]
          rw [vc_cutS]
          simp (disch := (first | omega | (simp only [size_new, size_newm, size_wr, size_wrm] <;> omega) | fail)) only [go_sem, Nat.reduceBEq, Nat.reduceAdd, Nat.reduceMul, Nat.reduceLeDiff, ↓reduceIte, rd_new_lt, own_new_lt, mp_new_lt, rd_newm_lt, own_newm_lt, mp_newm_lt, rd_wr_ne, own_wr_ne, mp_wr_ne, rd_wrm_ne, own_wrm_ne, mp_wrm_ne, rd_new_eq, own_new_eq, mp_newm_eq]
          refine Both.of_false (by decide) ?_
          simp (disch := (first | omega | (simp only [size_new, size_newm, size_wr, size_wrm] <;> omega) | fail)) only [go_sem, Nat.reduceBEq, Nat.reduceAdd, Nat.reduceMul, Nat.reduceLeDiff, ↓reduceIte, rd_new_lt, own_new_lt, mp_new_lt, rd_newm_lt, own_newm_lt, mp_newm_lt, rd_wr_ne, own_wr_ne, mp_wr_ne, rd_wrm_ne, own_wrm_ne, mp_wrm_ne, rd_new_eq, own_new_eq, mp_newm_eq]
          rw [vc_cutS]
          simp (disch := (first | omega | (simp only [size_new, size_newm, size_wr, size_wrm] <;> omega) | fail)) only [go_sem, Nat.reduceBEq, Nat.reduceAdd, Nat.reduceMul, Nat.reduceLeDiff, ↓reduceIte, rd_new_lt, own_new_lt, mp_new_lt, rd_newm_lt, own_newm_lt, mp_newm_lt, rd_wr_ne, own_wr_ne, mp_wr_ne, rd_wrm_ne, own_wrm_ne, mp_wrm_ne, rd_new_eq, own_new_eq, mp_newm_eq]
          refine Both.of_true (by decide) ?_
          simp (disch := (first | omega | (simp only [size_new, size_newm, size_wr, size_wrm] <;> omega) | fail)) only [go_sem, Nat.reduceBEq, Nat.reduceAdd, Nat.reduceMul, Nat.reduceLeDiff, ↓reduceIte, rd_new_lt, own_new_lt, mp_new_lt, rd_newm_lt, own_newm_lt, mp_newm_lt, rd_wr_ne, own_wr_ne, mp_wr_ne, rd_wrm_ne, own_wrm_ne, mp_wrm_ne, rd_new_eq, own_new_eq, mp_newm_eq, q8]
          rw [vc_cutS]
          simp (disch := (first | omega | (simp only [size_new, size_newm, size_wr, size_wrm] <;> omega) | fail)) only [go_sem, Nat.reduceBEq, Nat.reduceAdd, Nat.reduceMul, Nat.reduceLeDiff, ↓reduceIte, rd_new_lt, own_new_lt, mp_new_lt, rd_newm_lt, own_newm_lt, mp_newm_lt, rd_wr_ne, own_wr_ne, mp_wr_ne, rd_wrm_ne, own_wrm_ne, mp_wrm_ne, rd_new_eq, own_new_eq, mp_newm_eq]
          refine Both.of_false (by decide) ?_
          simp (disch := (first | omega | (simp only [size_new, size_newm, size_wr, size_wrm] <;> omega) | fail)) only [go_sem, Nat.reduceBEq, Nat.reduceAdd, Nat.reduceMul, Nat.reduceLeDiff, ↓reduceIte, rd_new_lt, own_new_lt, mp_new_lt, rd_newm_lt, own_newm_lt, mp_newm_lt, rd_wr_ne, own_wr_ne, mp_wr_ne, rd_wrm_ne, own_wrm_ne, mp_wrm_ne, rd_new_eq, own_new_eq, mp_newm_eq]
          refine ⟨⟨by omega, by omega, by omega, by omega⟩, ?_⟩
          simp (disch := (first | omega | (simp only [size_new, size_newm, size_wr, size_wrm] <;> omega) | fail)) only [go_sem, Nat.reduceBEq, Nat.reduceAdd, Nat.reduceMul, Nat.reduceLeDiff, ↓reduceIte, rd_new_lt, own_new_lt, mp_new_lt, rd_newm_lt, own_newm_lt, mp_newm_lt, rd_wr_ne, own_wr_ne, mp_wr_ne, rd_wrm_ne, own_wrm_ne, mp_wrm_ne, rd_new_eq, own_new_eq, mp_newm_eq]
          rw [e10]
          obtain ⟨hlu, heq⟩ := hok1 rfl
          have h7 := (hx1 rfl).symm
          refine ⟨trivial, trivial, trivial, trivial, trivial, fw _ f8, A, sm, K, rt, rt.length, a10, c10, rfl, rfl, r10' _, hb10, l10, rl9, by first | exact q7 | exact q7' _, own_wr_same q8, ?_⟩
          simp [h7, heq] at hrest zA zB zK ⊢
          exact ⟨hrest, hA, hlu, hK0, hK1, zA, zK⟩
        · simp (disch := (first | omega | (simp only [size_new, size_newm, size_wr, size_wrm] <;> omega) | fail)) only [go_sem, Nat.reduceBEq, Nat.reduceAdd, Nat.reduceMul, Nat.reduceLeDiff, ↓reduceIte, rd_new_lt, own_new_lt, mp_new_lt, rd_newm_lt, own_newm_lt, mp_newm_lt, rd_wr_ne, own_wr_ne, mp_wr_ne, rd_wrm_ne, own_wrm_ne, mp_wrm_ne, rd_new_eq, own_new_eq, mp_newm_eq]
          refine Both.of_false (by decide) ?_
          simp (disch := (first | omega | (simp only [size_new, size_newm, size_wr, size_wrm] <;> omega) | fail)) only [go_sem, Nat.reduceBEq, Nat.reduceAdd, Nat.reduceMul, Nat.reduceLeDiff, ↓reduceIte, rd_new_lt, own_new_lt, mp_new_lt, rd_newm_lt, own_newm_lt, mp_newm_lt, rd_wr_ne, own_wr_ne, mp_wr_ne, rd_wrm_ne, own_wrm_ne, mp_wrm_ne, rd_new_eq, own_new_eq, mp_newm_eq]
          cases is <;> simp (disch := (first | omega | (simp only [size_new, size_newm, size_wr, size_wrm] <;> omega) | fail)) only [go_sem, Nat.reduceBEq, Nat.reduceAdd, Nat.reduceMul, Nat.reduceLeDiff, ↓reduceIte, rd_new_lt, own_new_lt, mp_new_lt, rd_newm_lt, own_newm_lt, mp_newm_lt, rd_wr_ne, own_wr_ne, mp_wr_ne, rd_wrm_ne, own_wrm_ne, mp_wrm_ne, rd_new_eq, own_new_eq, mp_newm_eq, Bool.not_false, Bool.not_true]
          · simp (disch := (first | omega | (simp only [size_new, size_newm, size_wr, size_wrm] <;> omega) | fail)) only [go_sem, Nat.reduceBEq, Nat.reduceAdd, Nat.reduceMul, Nat.reduceLeDiff, ↓reduceIte, rd_new_lt, own_new_lt, mp_new_lt, rd_newm_lt, own_newm_lt, mp_newm_lt, rd_wr_ne, own_wr_ne, mp_wr_ne, rd_wrm_ne, own_wrm_ne, mp_wrm_ne, rd_new_eq, own_new_eq, mp_newm_eq, stop f8]
            simp (disch := (first | omega | (simp only [size_new, size_newm, size_wr, size_wrm] <;> omega) | fail)) only [go_sem, Nat.reduceBEq, Nat.reduceAdd, Nat.reduceMul, Nat.reduceLeDiff, ↓reduceIte, rd_new_lt, own_new_lt, mp_new_lt, rd_newm_lt, own_newm_lt, mp_newm_lt, rd_wr_ne, own_wr_ne, mp_wr_ne, rd_wrm_ne, own_wrm_ne, mp_wrm_ne, rd_new_eq, own_new_eq, mp_newm_eq, rd_of_own (own_wr_same (stop f8))]
            exact err f8 fun a b k hr e => by
              obtain ⟨r', h1, h2, h3⟩ := need a b k hr e
              injection h3 rfl with h5 _
              exact his2 rfl k hr.k0 hr.k1 h5
          rw [vc_cutS]
          simp (disch := (first | omega | (simp only [size_new, size_newm, size_wr, size_wrm] <;> omega) | fail)) only [go_sem, Nat.reduceBEq, Nat.reduceAdd, Nat.reduceMul, Nat.reduceLeDiff, ↓reduceIte, rd_new_lt, own_new_lt, mp_new_lt, rd_newm_lt, own_newm_lt, mp_newm_lt, rd_wr_ne, own_wr_ne, mp_wr_ne, rd_wrm_ne, own_wrm_ne, mp_wrm_ne, rd_new_eq, own_new_eq, mp_newm_eq]
          refine Both.of_false (by decide) ?_
          simp (disch := (first | omega | (simp only [size_new, size_newm, size_wr, size_wrm] <;> omega) | fail)) only [go_sem, Nat.reduceBEq, Nat.reduceAdd, Nat.reduceMul, Nat.reduceLeDiff, ↓reduceIte, rd_new_lt, own_new_lt, mp_new_lt, rd_newm_lt, own_newm_lt, mp_newm_lt, rd_wr_ne, own_wr_ne, mp_wr_ne, rd_wrm_ne, own_wrm_ne, mp_wrm_ne, rd_new_eq, own_new_eq, mp_newm_eq]
          rw [vc_cutS]
          simp (disch := (first | omega | (simp only [size_new, size_newm, size_wr, size_wrm] <;> omega) | fail)) only [go_sem, Nat.reduceBEq, Nat.reduceAdd, Nat.reduceMul, Nat.reduceLeDiff, ↓reduceIte, rd_new_lt, own_new_lt, mp_new_lt, rd_newm_lt, own_newm_lt, mp_newm_lt, rd_wr_ne, own_wr_ne, mp_wr_ne, rd_wrm_ne, own_wrm_ne, mp_wrm_ne, rd_new_eq, own_new_eq, mp_newm_eq]
          refine Both.of_false (by decide) ?_
          simp (disch := (first | omega | (simp only [size_new, size_newm, size_wr, size_wrm] <;> omega) | fail)) only [go_sem, Nat.reduceBEq, Nat.reduceAdd, Nat.reduceMul, Nat.reduceLeDiff, ↓reduceIte, rd_new_lt, own_new_lt, mp_new_lt, rd_newm_lt, own_newm_lt, mp_newm_lt, rd_wr_ne, own_wr_ne, mp_wr_ne, rd_wrm_ne, own_wrm_ne, mp_wrm_ne, rd_new_eq, own_new_eq, mp_newm_eq]
          rw [vc_cutS]
          simp (disch := (first | omega | (simp only [size_new, size_newm, size_wr, size_wrm] <;> omega) | fail)) only [go_sem, Nat.reduceBEq, Nat.reduceAdd, Nat.reduceMul, Nat.reduceLeDiff, ↓reduceIte, rd_new_lt, own_new_lt, mp_new_lt, rd_newm_lt, own_newm_lt, mp_newm_lt, rd_wr_ne, own_wr_ne, mp_wr_ne, rd_wrm_ne, own_wrm_ne, mp_wrm_ne, rd_new_eq, own_new_eq, mp_newm_eq]
          refine Both.of_true (by decide) ?_
          simp (disch := (first | omega | (simp only [size_new, size_newm, size_wr, size_wrm] <;> omega) | fail)) only [go_sem, Nat.reduceBEq, Nat.reduceAdd, Nat.reduceMul, Nat.reduceLeDiff, ↓reduceIte, rd_new_lt, own_new_lt, mp_new_lt, rd_newm_lt, own_newm_lt, mp_newm_lt, rd_wr_ne, own_wr_ne, mp_wr_ne, rd_wrm_ne, own_wrm_ne, mp_wrm_ne, rd_new_eq, own_new_eq, mp_newm_eq, q8]
          refine ⟨⟨by omega, by omega, by omega, by omega⟩, ?_⟩
          simp (disch := (first | omega | (simp only [size_new, size_newm, size_wr, size_wrm] <;> omega) | fail)) only [go_sem, Nat.reduceBEq, Nat.reduceAdd, Nat.reduceMul, Nat.reduceLeDiff, ↓reduceIte, rd_new_lt, own_new_lt, mp_new_lt, rd_newm_lt, own_newm_lt, mp_newm_lt, rd_wr_ne, own_wr_ne, mp_wr_ne, rd_wrm_ne, own_wrm_ne, mp_wrm_ne, rd_new_eq, own_new_eq, mp_newm_eq]
          rw [e10]
          have heq := his1 rfl
          have h7 := (hx2 rfl).symm
          refine ⟨trivial, trivial, trivial, trivial, trivial, fw _ f8, A, B, nn, rt, rt.length, a10, c10, rfl, rfl, r10' _, hb10, l10, rl9, by first | exact q7 | exact q7' _, own_wr_same q8, ?_⟩
          simp [h7, heq] at hrest zA zB zK ⊢
          exact ⟨hrest, hA, hB, hn0, hn1, zA, zB⟩
      rintro e H9 ⟨v2, v8, v59, v60, v61, f9, A, B, K, rem, n, a, c, v6, rfl, hh9⟩
      simp (disch := (first | omega | (simp only [size_new, size_newm, size_wr, size_wrm] <;> omega) | fail)) only [go_sem, Nat.reduceBEq, Nat.reduceAdd, Nat.reduceMul, Nat.reduceLeDiff, ↓reduceIte, rd_new_lt, own_new_lt, mp_new_lt, rd_newm_lt, own_newm_lt, mp_newm_lt, rd_wr_ne, own_wr_ne, mp_wr_ne, rd_wrm_ne, own_wrm_ne, mp_wrm_ne, rd_new_eq, own_new_eq, mp_newm_eq, v2, v8, v59, v60, v61, v6]
      rw [wrap64 (n := (i : Int) + 1) (by omega) (by omega)]
      exact ⟨3 - (i + 1), by omega, f9, i + 1, A, B, K, rem, _, a, c, rfl, by omega, rfl, rfl, hh9⟩
    · have hi3' : i = 3 := by omega
      subst hi3'
      refine Both.dec (fun h0 => ?_) (fun h0 => ?_) <;> simp (disch := (first | omega | (simp only [size_new, size_newm, size_wr, size_wrm] <;> omega) | fail)) only [go_sem, Nat.reduceBEq, Nat.reduceAdd, Nat.reduceMul, Nat.reduceLeDiff, ↓reduceIte, rd_new_lt, own_new_lt, mp_new_lt, rd_newm_lt, own_newm_lt, mp_newm_lt, rd_wr_ne, own_wr_ne, mp_wr_ne, rd_wrm_ne, own_wrm_ne, mp_wrm_ne, rd_new_eq, own_new_eq, mp_newm_eq, rd_of_own q8]
      · simp (disch := (first | omega | (simp only [size_new, size_newm, size_wr, size_wrm] <;> omega) | fail)) only [go_sem, Nat.reduceBEq, Nat.reduceAdd, Nat.reduceMul, Nat.reduceLeDiff, ↓reduceIte, rd_new_lt, own_new_lt, mp_new_lt, rd_newm_lt, own_newm_lt, mp_newm_lt, rd_wr_ne, own_wr_ne, mp_wr_ne, rd_wrm_ne, own_wrm_ne, mp_wrm_ne, rd_new_eq, own_new_eq, mp_newm_eq, stop f8]
        simp (disch := (first | omega | (simp only [size_new, size_newm, size_wr, size_wrm] <;> omega) | fail)) only [go_sem, Nat.reduceBEq, Nat.reduceAdd, Nat.reduceMul, Nat.reduceLeDiff, ↓reduceIte, rd_new_lt, own_new_lt, mp_new_lt, rd_newm_lt, own_newm_lt, mp_newm_lt, rd_wr_ne, own_wr_ne, mp_wr_ne, rd_wrm_ne, own_wrm_ne, mp_wrm_ne, rd_new_eq, own_new_eq, mp_newm_eq, rd_of_own (own_wr_same (stop f8))]
        refine ⟨.inr ⟨only fun a b k hr e => ?_, rfl⟩, done _ f8⟩
        have h5 := fwd a b k hr e
        have h6 : rem = [] := by
          rw [h5] at hrest
          unfold pat at hrest
          cases h7 : hasA j <;> cases h8 : hasB j <;> cases h9 : keyOf j <;> simp [h7, h8, h9] at hrest <;> simp [hrest]
        rw [h6] at h0
        simp at h0
      · have h6 : rem = [] := List.length_eq_zero_iff.1 (by omega)
        simp (disch := (first | omega | (simp only [size_new, size_newm, size_wr, size_wrm] <;> omega) | fail)) only [go_sem, Nat.reduceBEq, Nat.reduceAdd, Nat.reduceMul, Nat.reduceLeDiff, ↓reduceIte, rd_new_lt, own_new_lt, mp_new_lt, rd_newm_lt, own_newm_lt, mp_newm_lt, rd_wr_ne, own_wr_ne, mp_wr_ne, rd_wrm_ne, own_wrm_ne, mp_wrm_ne, rd_new_eq, own_new_eq, mp_newm_eq, stop f8]
        simp (disch := (first | omega | (simp only [size_new, size_newm, size_wr, size_wrm] <;> omega) | fail)) only [go_sem, Nat.reduceBEq, Nat.reduceAdd, Nat.reduceMul, Nat.reduceLeDiff, ↓reduceIte, rd_new_lt, own_new_lt, mp_new_lt, rd_newm_lt, own_newm_lt, mp_newm_lt, rd_wr_ne, own_wr_ne, mp_wr_ne, rd_wrm_ne, own_wrm_ne, mp_wrm_ne, rd_new_eq, own_new_eq, mp_newm_eq, rd_of_own (own_wr_same (stop f8))]
        have hr : RightR j A B K := ⟨hj10, hA, hB, hK0, hK1, fun h => zA (by simp [h]), fun h => zB (by simp [h]), fun h => zK (by simp [h])⟩
        refine ⟨.inl ⟨j, A, B, K, hr, bck A B K hr ?_, rfl⟩, done _ f8⟩
        rw [hrest, h6]
        unfold pat
        cases hasA j <;> cases hasB j <;> cases keyOf j <;> simp
  · simp (disch := (first | omega | (simp only [size_new, size_newm, size_wr, size_wrm] <;> omega) | fail)) only [go_sem, Nat.reduceBEq, Nat.reduceAdd, Nat.reduceMul, Nat.reduceLeDiff, ↓reduceIte, rd_new_lt, own_new_lt, mp_new_lt, rd_newm_lt, own_newm_lt, mp_newm_lt, rd_wr_ne, own_wr_ne, mp_wr_ne, rd_wrm_ne, own_wrm_ne, mp_wrm_ne, rd_new_eq, own_new_eq, mp_newm_eq, b3]
    simp (disch := (first | omega | (simp only [size_new, size_newm, size_wr, size_wrm] <;> omega) | fail)) only [go_sem, Nat.reduceBEq, Nat.reduceAdd, Nat.reduceMul, Nat.reduceLeDiff, ↓reduceIte, rd_new_lt, own_new_lt, mp_new_lt, rd_newm_lt, own_newm_lt, mp_newm_lt, rd_wr_ne, own_wr_ne, mp_wr_ne, rd_wrm_ne, own_wrm_ne, mp_wrm_ne, rd_new_eq, own_new_eq, mp_newm_eq, rd_of_own (own_wr_same b3)]
    exact ⟨.inr ⟨fun op a b k h => hno op a b k (by have := h.le; omega) h, rfl⟩, done _ (Ext.refl _ _)⟩

end Go.Proofs.YtapoboiofpmheaaDoor
