/-
  The law SiftSorts answers true.
-/
import Derived.Test.YtkikanlkhkghcaaRemove
set_option linter.unusedVariables false
set_option linter.unusedSimpArgs false
namespace Go.Proofs.Ytkikanlkhkghcaa
open Go Go.Vc

theorem ltK_strict (f : Int → Option Int) : Strict (ltK f) := by
  refine ⟨fun a => ?_, fun a b c h1 h2 => ?_, fun a b c h1 h2 => ?_, fun a b h => ?_⟩
  · exact decide_eq_false (by omega)
  · simp only [ltK, decide_eq_true_eq] at *; omega
  · simp only [ltK, decide_eq_false_iff_not] at *; omega
  · simp only [ltK, decide_eq_true_eq]; omega

/-- A heap of things, each where it is told to be. -/
structure HeapOk (f : Int → Option Int) (d : Int) (l : List Int) (pl : Int → Option Int) : Prop where
  heap : HeapL (ltK f) d l
  pl : PlOk l pl

theorem HeapOk.nil (f : Int → Option Int) (d : Int) : HeapOk f d [] (fun _ => none) :=
  ⟨fun j _ h => by simp at h, fun z k => by simp⟩

theorem HeapOk.congr {f g : Int → Option Int} {d : Int} (hf : FineD d) {l : List Int} {pl : Int → Option Int} (h : HeapOk f d l pl) (hfg : ∀ z ∈ l, many0 f z = many0 g z) : HeapOk g d l pl := by
  refine ⟨fun j h1 h2 => ?_, h.pl⟩
  have hp := pa_lt hf h1
  have e : ∀ k, k < l.length → many0 f (l.getD k 0) = many0 g (l.getD k 0) := fun k hk => hfg _ (by
    rw [List.getD_eq_getElem?_getD, List.getElem?_eq_getElem hk]; exact List.getElem_mem hk)
  have := h.heap j h1 h2
  simp only [ltK, e j h2, e _ (show pa d j < l.length by omega)] at this ⊢
  exact this

/-- One thing more. -/
theorem HeapOk.add {f : Int → Option Int} {d : Int} (hf : FineD d) {l : List Int} {pl : Int → Option Int} (h : HeapOk f d l pl) {x : Int} (hx : pl x = none) :
    HeapOk f d (upM (ltK f) d x l.length (l ++ [x]) pl l.length).l (upM (ltK f) d x l.length (l ++ [x]) pl l.length).pl ∧
      (∀ z, z ∈ (upM (ltK f) d x l.length (l ++ [x]) pl l.length).l ↔ z = x ∨ z ∈ l) ∧ (upM (ltK f) d x l.length (l ++ [x]) pl l.length).l.length = l.length + 1 ∧
      (upM (ltK f) d x l.length (l ++ [x]) pl l.length).asked ≤ upN d l.length := by
  have hdd := hf.1
  have hget : ∀ k, k < l.length → (l ++ [x]).getD k 0 = l.getD k 0 := fun k hk => by
    rw [List.getD_eq_getElem?_getD, List.getD_eq_getElem?_getD, List.getElem?_append_left hk]
  have hch : ∀ j : Nat, 1 ≤ j → j < l.length + 1 → pa d j ≠ l.length := fun j h1 h2 => by have := pa_lt hf h1; omega
  have hP : PlH (l ++ [x]) pl l.length x := by
    intro z hz k
    rw [h.pl z k]
    constructor
    · rintro ⟨a, b⟩
      have hk := (List.getElem?_eq_some_iff.1 b).1
      exact ⟨a, by omega, by rw [List.getElem?_append_left hk]; exact b⟩
    · rintro ⟨a, b, c⟩
      refine ⟨a, ?_⟩
      have hk := (List.getElem?_eq_some_iff.1 c).1
      simp only [List.length_append, List.length_singleton] at hk
      rw [List.getElem?_append_left (by omega)] at c
      exact c
  have hxl : x ∉ l := fun hm => by
    obtain ⟨k, hk⟩ := List.getElem?_of_mem hm
    have := (h.pl x k).2 ⟨by omega, by simpa using hk⟩
    rw [hx] at this; cases this
  have hoth : ∀ z, Oth (l ++ [x]) l.length z ↔ z ∈ l := by
    intro z
    constructor
    · rintro ⟨k, k1, k2⟩
      have hk := (List.getElem?_eq_some_iff.1 k2).1
      simp only [List.length_append, List.length_singleton] at hk
      rw [List.getElem?_append_left (by omega)] at k2
      exact List.mem_of_getElem? k2
    · intro hm
      obtain ⟨k, hk⟩ := List.getElem?_of_mem hm
      have := (List.getElem?_eq_some_iff.1 hk).1
      exact ⟨k, by omega, by rw [List.getElem?_append_left this]; exact hk⟩
  obtain ⟨p1, p2⟩ := up_places (lt := ltK f) (d := d) x l.length (l ++ [x]) pl l.length (by simp) (by omega) (by simp; omega) hP (fun hc => hxl ((hoth x).1 hc))
  refine ⟨⟨up_heap (ltK_strict f) hf x _ _ _ _ (by simp) (by omega) (by simp; omega) ⟨fun j h1 h2 h3 h4 => ?_, fun j h1 h2 h3 h4 => ?_⟩ (fun j h1 h2 h3 => ?_), p1⟩, fun z => by rw [p2 z, hoth z], by rw [up_length]; simp, ?_⟩
  · simp only [Int.toNat_natCast] at h3 h4
    have : j < l.length := by simp at h2; omega
    have hp := pa_lt hf h1
    rw [hget j this, hget _ (by omega)]
    exact h.heap j h1 this
  · simp only [Int.toNat_natCast] at h3
    exact absurd h3 (hch j h1 (by simpa using h2))
  · simp only [Int.toNat_natCast] at h3
    exact absurd h3 (hch j h1 (by simpa using h2))
  · have := up_asked (ltK f) d x l.length (l ++ [x]) pl l.length
    unfold upN
    simpa using this

theorem HeapOk.remove {f : Int → Option Int} {d : Int} (hf : FineD d) {l : List Int} {pl : Int → Option Int} (h : HeapOk f d l pl) {x i : Int} (hx : pl x = some i) :
    HeapOk f d (removeM (ltK f) d x l pl i).1 (removeM (ltK f) d x l pl i).2.1 ∧ (removeM (ltK f) d x l pl i).1.length = l.length - 1 ∧
      (∀ z, z ∈ (removeM (ltK f) d x l pl i).1 ↔ z ∈ l ∧ z ≠ x) ∧ ((removeM (ltK f) d x l pl i).2.2 : Int) ≤ d * (upN d ((l.length : Int) - 1) : Nat) + 1 := by
  obtain ⟨a, b, c, e, g⟩ := remove_spec (ltK_strict f) hf h.heap h.pl hx
  exact ⟨⟨a, b⟩, c, e, g⟩

theorem HeapOk.mem {f : Int → Option Int} {d : Int} {l : List Int} {pl : Int → Option Int} (h : HeapOk f d l pl) (z : Int) : z ∈ l ↔ pl z ≠ none := by
  constructor
  · intro hm
    obtain ⟨k, hk⟩ := List.getElem?_of_mem hm
    rw [(h.pl z k).2 ⟨by omega, by simpa using hk⟩]
    simp
  · intro hn
    obtain ⟨k, hk⟩ := Option.ne_none_iff_exists'.1 hn
    exact List.mem_of_getElem? ((h.pl z k).1 hk).2

theorem HeapOk.least {f : Int → Option Int} {d : Int} (hf : FineD d) {l : List Int} {pl : Int → Option Int} (h : HeapOk f d l pl) {x : Int} (hx : l[0]? = some x) : ∀ z ∈ l, z ≠ x → ltK f x z = true := by
  intro z hz hne
  obtain ⟨k, hk⟩ := List.getElem?_of_mem hz
  have hkl := (List.getElem?_eq_some_iff.1 hk).1
  have := heap_first (ltK_strict f) hf h.heap k k (Nat.le_refl _) hkl
  rw [List.getD_eq_getElem?_getD, List.getD_eq_getElem?_getD, hk, hx] at this
  rcases (ltK_strict f).tot x z (Ne.symm hne) with h1 | h1
  · exact h1
  · simp only [Option.getD_some] at this
    rw [h1] at this; cases this

/-- A key more. -/
theorem KeysAt.put {H H' : Hp} {o mb n : Nat} {f : Int → Option Int} {x k : Int} (h : KeysAt H o mb f n) (m : IMap H' mb (setF (fun i => (f i).map i64) x (i64 k))) (e : Ext (fun z => z = mb) H H') : KeysAt H' o mb (setM f x k) n := by
  refine ⟨e.own h.1 h.2.2, ?_, h.2.2⟩
  rw [setM_map] at m
  exact m

theorem law07_SiftSorts_args {Hh : Hp} {v0 v1 : Value} (h0 : fitA Hh (false, [.k (.i .i64)]) v0) (h1 : fitA Hh (false, [.sl [.i .i64]]) v1) :
    CallH Try.prog n_law07_SiftSorts [v0, v1] Hh fun v H' => Post (v = .bool true ∧ Fresh Hh H') := by
  obtain ⟨d, rfl, hd0, hd1⟩ := fitA_i64 h0
  obtain ⟨rows, hrd, hrows, hmax⟩ := fitA_sl h1
  obtain ⟨ks, hks, hkl, -⟩ := rows_ints hrows
  rw [hks] at hrd
  generalize hn : rows.length = n at *
  have hrd : RdS Hh 1 v1 n (ks.map i64) := hrd
  have hv : ∃ a c, v1 = .slice a n c := by
    obtain ⟨_, ⟨rfl, a, c, rfl⟩ | ⟨b, o, c, l, rfl, _⟩⟩ := hrd
    · exact ⟨_, _, rfl⟩
    · exact ⟨_, _, rfl⟩
  obtain ⟨a, c, rfl⟩ := hv
  refine c_law07_SiftSorts ⟨rfl, ?_⟩
  simp (disch := (first | omega | (simp only [size_new, size_newm, size_wr, size_wrm] <;> omega) | fail)) only [go_sem, Nat.reduceBEq, Nat.reduceAdd, Nat.reduceMul, Nat.reduceLeDiff, ↓reduceIte, rd_new_lt, own_new_lt, mp_new_lt, rd_newm_lt, own_newm_lt, mp_newm_lt, rd_wr_ne, own_wr_ne, mp_wr_ne, rd_wrm_ne, own_wrm_ne, mp_wrm_ne, rd_new_eq, own_new_eq, mp_newm_eq, s_law07_SiftSorts]
  refine (law07_siftAlive_spec Hh).mono ?_
  rintro _ H1 ⟨rfl, f1⟩
  simp (disch := (first | omega | (simp only [size_new, size_newm, size_wr, size_wrm] <;> omega) | fail)) only [go_sem, Nat.reduceBEq, Nat.reduceAdd, Nat.reduceMul, Nat.reduceLeDiff, ↓reduceIte, rd_new_lt, own_new_lt, mp_new_lt, rd_newm_lt, own_newm_lt, mp_newm_lt, rd_wr_ne, own_wr_ne, mp_wr_ne, rd_wrm_ne, own_wrm_ne, mp_wrm_ne, rd_new_eq, own_new_eq, mp_newm_eq]
  refine (ref07_Right_spec d H1).mono ?_
  rintro _ _ ⟨rfl, rfl⟩
  simp (disch := (first | omega | (simp only [size_new, size_newm, size_wr, size_wrm] <;> omega) | fail)) only [go_sem, Nat.reduceBEq, Nat.reduceAdd, Nat.reduceMul, Nat.reduceLeDiff, ↓reduceIte, rd_new_lt, own_new_lt, mp_new_lt, rd_newm_lt, own_newm_lt, mp_newm_lt, rd_wr_ne, own_wr_ne, mp_wr_ne, rd_wrm_ne, own_wrm_ne, mp_wrm_ne, rd_new_eq, own_new_eq, mp_newm_eq]
  refine Both.dec (fun hf => ?_) (fun hf => ?_) <;> simp (disch := (first | omega | (simp only [size_new, size_newm, size_wr, size_wrm] <;> omega) | fail)) only [go_sem, Nat.reduceBEq, Nat.reduceAdd, Nat.reduceMul, Nat.reduceLeDiff, ↓reduceIte, rd_new_lt, own_new_lt, mp_new_lt, rd_newm_lt, own_newm_lt, mp_newm_lt, rd_wr_ne, own_wr_ne, mp_wr_ne, rd_wrm_ne, own_wrm_ne, mp_wrm_ne, rd_new_eq, own_new_eq, mp_newm_eq]
  · refine Both.dec (fun hl => ?_) (fun hl => ?_) <;> simp (disch := (first | omega | (simp only [size_new, size_newm, size_wr, size_wrm] <;> omega) | fail)) only [go_sem, Nat.reduceBEq, Nat.reduceAdd, Nat.reduceMul, Nat.reduceLeDiff, ↓reduceIte, rd_new_lt, own_new_lt, mp_new_lt, rd_newm_lt, own_newm_lt, mp_newm_lt, rd_wr_ne, own_wr_ne, mp_wr_ne, rd_wrm_ne, own_wrm_ne, mp_wrm_ne, rd_new_eq, own_new_eq, mp_newm_eq]
    · exact ⟨rfl, f1⟩
    · refine (sift_New_spec d H1).mono ?_
      rintro _ H2 ⟨f2, ⟨hc, rfl⟩ | ⟨hc, r, S, rfl, r2, hS⟩⟩
      · exact absurd hf hc
      simp (disch := (first | omega | (simp only [size_new, size_newm, size_wr, size_wrm] <;> omega) | fail)) only [go_sem, Nat.reduceBEq, Nat.reduceAdd, Nat.reduceMul, Nat.reduceLeDiff, ↓reduceIte, rd_new_lt, own_new_lt, mp_new_lt, rd_newm_lt, own_newm_lt, mp_newm_lt, rd_wr_ne, own_wr_ne, mp_wr_ne, rd_wrm_ne, own_wrm_ne, mp_wrm_ne, rd_new_eq, own_new_eq, mp_newm_eq, Option.isNone_some]
      refine Both.of_true (by decide) ?_
      simp (disch := (first | omega | (simp only [size_new, size_newm, size_wr, size_wrm] <;> omega) | fail)) only [go_sem, Nat.reduceBEq, Nat.reduceAdd, Nat.reduceMul, Nat.reduceLeDiff, ↓reduceIte, rd_new_lt, own_new_lt, mp_new_lt, rd_newm_lt, own_newm_lt, mp_newm_lt, rd_wr_ne, own_wr_ne, mp_wr_ne, rd_wrm_ne, own_wrm_ne, mp_wrm_ne, rd_new_eq, own_new_eq, mp_newm_eq]
      have f3 : Fresh H2 (H2.newm.new 78 [.map (some H2.size), .int .i64 0]) := ((Ext.refl _ _).newm).new _ _
      have ko : KeysAt (H2.newm.new 78 [.map (some H2.size), .int .i64 0]) (H2.size + 1) H2.size (fun _ => none) 0 :=
        ⟨own_new_eq (by simp only [size_newm]), (IMap.new H2).ext ((Ext.refl (fun _ => False) _).new _ _) (fun h => h), by omega⟩
      have r3 := r2.ext f3 (fun _ _ h => h)
      have hd : ∀ x, S x → ¬ (x = H2.size + 1 ∨ x = H2.size) := fun x hx hc => by have := r2.slt x hx; omega
      have fr := (f1.trans f2).trans f3
      have hb : Hh.size ≤ H2.size := Nat.le_trans f1.size f2.size
      have hS1 : ∀ x, S x → Hh.size ≤ x := fun x hx => Nat.le_trans f1.size (hS x hx)
      generalize hH3 : H2.newm.new 78 [.map (some H2.size), .int .i64 0] = H3 at *
      generalize hmb : H2.size = mb at *
      refine LoopV.intro (fun m env H => ∃ (i : Nat) (S' : Nat → Prop) (f : Int → Option Int) (l : List Int) (pl : Int → Option Int) (q : Nat),
        env = [(5, ptr r), (7, ptr (mb + 1)), (37, .slice a n c), (38, i64 n), (39, i64 i)] ∧ m = n - i ∧ i ≤ n ∧ RowAt H r S' d l pl ∧ HeapOk f d l pl ∧ KeysAt H (mb + 1) mb f q ∧
        (∀ z, z ∈ l ↔ 0 ≤ z ∧ z < i) ∧ l.length = i ∧ Fresh Hh H ∧ ∀ x, S' x → Hh.size ≤ x ∧ ¬ (x = mb + 1 ∨ x = mb)) n
        ⟨0, S, fun _ => none, [], fun _ => none, 0, rfl, by omega, by omega, r3, HeapOk.nil _ _, ko, fun z => by simp only [List.not_mem_nil, false_iff]; omega, rfl, fr, fun x hx => ⟨hS1 x hx, hd x hx⟩⟩ ?_
      rintro m env H ⟨i, S', f, l, pl, q, rfl, rfl, hi, rr, hh, kk, hmem, hlen, fh, hS'⟩
      have hS'2 : ∀ x, S' x → ¬ (x = mb + 1 ∨ x = mb) := fun x hx => (hS' x hx).2
      simp (disch := (first | omega | (simp only [size_new, size_newm, size_wr, size_wrm] <;> omega) | fail)) only [go_sem, Nat.reduceBEq, Nat.reduceAdd, Nat.reduceMul, Nat.reduceLeDiff, ↓reduceIte, rd_new_lt, own_new_lt, mp_new_lt, rd_newm_lt, own_newm_lt, mp_newm_lt, rd_wr_ne, own_wr_ne, mp_wr_ne, rd_wrm_ne, own_wrm_ne, mp_wrm_ne, rd_new_eq, own_new_eq, mp_newm_eq]
      refine Both.dec (fun hin => ?_) (fun hin => ?_) <;> simp (disch := (first | omega | (simp only [size_new, size_newm, size_wr, size_wrm] <;> omega) | fail)) only [go_sem, Nat.reduceBEq, Nat.reduceAdd, Nat.reduceMul, Nat.reduceLeDiff, ↓reduceIte, rd_new_lt, own_new_lt, mp_new_lt, rd_newm_lt, own_newm_lt, mp_newm_lt, rd_wr_ne, own_wr_ne, mp_wr_ne, rd_wrm_ne, own_wrm_ne, mp_wrm_ne, rd_new_eq, own_new_eq, mp_newm_eq]
      · obtain ⟨k, hk⟩ : ∃ k, ks[i]? = some k := ⟨_, List.getElem?_eq_getElem (by omega)⟩
        obtain ⟨b, o, c', lb, e1, e2, e3, e4⟩ := RdS.get (hrd.fresh fh) (i := i) (j := 0) (x := i64 k) (by omega) (by simp [hk])
        injection e1 with e1 _ e5
        subst e1; subst e5
        refine ⟨by omega, ?_⟩
        simp (disch := (first | omega | (simp only [size_new, size_newm, size_wr, size_wrm] <;> omega) | fail)) only [go_sem, Nat.reduceBEq, Nat.reduceAdd, Nat.reduceMul, Nat.reduceLeDiff, ↓reduceIte, rd_new_lt, own_new_lt, mp_new_lt, rd_newm_lt, own_newm_lt, mp_newm_lt, rd_wr_ne, own_wr_ne, mp_wr_ne, rd_wrm_ne, own_wrm_ne, mp_wrm_ne, rd_new_eq, own_new_eq, mp_newm_eq, e2, Int.toNat_natCast, show lb[o + i * 1]? = some (i64 k) from e4, rd_of_own kk.1]
        refine kk.2.1.upd fun H4 m4 e4 => ?_
        have k4 := kk.put m4 e4
        have r4 := rr.ext e4 (fun x hx e => hS'2 x hx (.inr e))
        have f4 := fh.then e4 (fun z hz => by omega)
        have h4 : HeapOk (setM f i k) d l pl := hh.congr hf (fun z hz => by
          have := (hmem z).1 hz
          unfold many0 setM
          rw [if_neg (by omega)])
        have hni : pl i = none := by
          cases hx : pl i with
          | none => rfl
          | some p => have := (hmem i).1 ((hh.mem i).2 (by rw [hx]; simp)); omega
        simp (disch := (first | omega | (simp only [size_new, size_newm, size_wr, size_wrm] <;> omega) | fail)) only [go_sem, Nat.reduceBEq, Nat.reduceAdd, Nat.reduceMul, Nat.reduceLeDiff, ↓reduceIte, rd_new_lt, own_new_lt, mp_new_lt, rd_newm_lt, own_newm_lt, mp_newm_lt, rd_wr_ne, own_wr_ne, mp_wr_ne, rd_wrm_ne, own_wrm_ne, mp_wrm_ne, rd_new_eq, own_new_eq, mp_newm_eq]
        refine (sift_Add_spec (keys_ord _ _ _) r4 hS'2 k4 i (by omega)).mono ?_
        rintro _ H5 (⟨hx, _, _⟩ | ⟨hx, rfl, S5, r5, k5, e5, s5⟩)
        · exact absurd hni hx
        obtain ⟨a1, a2, a3, a4⟩ := h4.add hf hni
        have f5 := f4.then e5 (fun z hz => by rcases hz with hz | hz | hz; exact (hS' z hz).1; all_goals omega)
        have hS5 : ∀ x, S5 x → Hh.size ≤ x ∧ ¬ (x = mb + 1 ∨ x = mb) := fun x hx => by
          rcases s5 x hx with h | h
          · exact hS' x h
          · have := own_lt k4.1
            have := f4.size
            exact ⟨by omega, by omega⟩
        have hlt5 : (upM (ltK (setM f i k)) d i l.length (l ++ [(i : Int)]) pl l.length).l.length < 1000000 := by omega
        simp (disch := (first | omega | (simp only [size_new, size_newm, size_wr, size_wrm] <;> omega) | fail)) only [go_sem, Nat.reduceBEq, Nat.reduceAdd, Nat.reduceMul, Nat.reduceLeDiff, ↓reduceIte, rd_new_lt, own_new_lt, mp_new_lt, rd_newm_lt, own_newm_lt, mp_newm_lt, rd_wr_ne, own_wr_ne, mp_wr_ne, rd_wrm_ne, own_wrm_ne, mp_wrm_ne, rd_new_eq, own_new_eq, mp_newm_eq]
        refine (sift_Add_spec (keys_ord _ _ _) r5 (fun x hx => (hS5 x hx).2) k5 i hlt5).mono ?_
        rintro _ _ (⟨hx, rfl, rfl⟩ | ⟨hx, rfl, _⟩)
        · simp (disch := (first | omega | (simp only [size_new, size_newm, size_wr, size_wrm] <;> omega) | fail)) only [go_sem, Nat.reduceBEq, Nat.reduceAdd, Nat.reduceMul, Nat.reduceLeDiff, ↓reduceIte, rd_new_lt, own_new_lt, mp_new_lt, rd_newm_lt, own_newm_lt, mp_newm_lt, rd_wr_ne, own_wr_ne, mp_wr_ne, rd_wrm_ne, own_wrm_ne, mp_wrm_ne, rd_new_eq, own_new_eq, mp_newm_eq]
          rw [wrap64 (by omega) (by omega)]
          exact ⟨n - (i + 1), by omega, i + 1, S5, _, _, _, _, rfl, rfl, by omega, r5, a1, k5, fun z => by rw [a2 z, hmem z]; omega, by omega, f5, hS5⟩
        · have := (a1.mem i).1 ((a2 i).2 (.inl rfl))
          exact absurd hx this
      · refine LoopV.intro (fun m env H => ∃ (last : Int) (S' : Nat → Prop) (l : List Int) (pl : Int → Option Int) (q : Nat),
          env = [(5, ptr r), (7, ptr (mb + 1)), (10, i64 last)] ∧ m = l.length ∧ l.length ≤ 200 ∧ RowAt H r S' d l pl ∧ HeapOk f d l pl ∧ KeysAt H (mb + 1) mb f q ∧
          (∀ z ∈ l, 0 ≤ z ∧ (0 ≤ last → ltK f last z = true)) ∧ Fresh Hh H ∧ ∀ x, S' x → Hh.size ≤ x ∧ ¬ (x = mb + 1 ∨ x = mb)) l.length
          ⟨-1, S', l, pl, q, rfl, rfl, by omega, rr, hh, kk, fun z hz => ⟨((hmem z).1 hz).1, fun h => by omega⟩, fh, hS'⟩ ?_
        rintro m env H6 ⟨last, S6, l6, pl6, q6, rfl, rfl, hl6, r6, h6, k6, hlast, f6, hS6⟩
        have hS62 : ∀ x, S6 x → ¬ (x = mb + 1 ∨ x = mb) := fun x hx => (hS6 x hx).2
        simp (disch := (first | omega | (simp only [size_new, size_newm, size_wr, size_wrm] <;> omega) | fail)) only [go_sem, Nat.reduceBEq, Nat.reduceAdd, Nat.reduceMul, Nat.reduceLeDiff, ↓reduceIte, rd_new_lt, own_new_lt, mp_new_lt, rd_newm_lt, own_newm_lt, mp_newm_lt, rd_wr_ne, own_wr_ne, mp_wr_ne, rd_wrm_ne, own_wrm_ne, mp_wrm_ne, rd_new_eq, own_new_eq, mp_newm_eq]
        refine (sift_Len_spec r6).mono ?_
        rintro _ _ ⟨rfl, rfl⟩
        simp (disch := (first | omega | (simp only [size_new, size_newm, size_wr, size_wrm] <;> omega) | fail)) only [go_sem, Nat.reduceBEq, Nat.reduceAdd, Nat.reduceMul, Nat.reduceLeDiff, ↓reduceIte, rd_new_lt, own_new_lt, mp_new_lt, rd_newm_lt, own_newm_lt, mp_newm_lt, rd_wr_ne, own_wr_ne, mp_wr_ne, rd_wrm_ne, own_wrm_ne, mp_wrm_ne, rd_new_eq, own_new_eq, mp_newm_eq]
        refine Both.dec (fun hp => ?_) (fun hp => ?_) <;> simp (disch := (first | omega | (simp only [size_new, size_newm, size_wr, size_wrm] <;> omega) | fail)) only [go_sem, Nat.reduceBEq, Nat.reduceAdd, Nat.reduceMul, Nat.reduceLeDiff, ↓reduceIte, rd_new_lt, own_new_lt, mp_new_lt, rd_newm_lt, own_newm_lt, mp_newm_lt, rd_wr_ne, own_wr_ne, mp_wr_ne, rd_wrm_ne, own_wrm_ne, mp_wrm_ne, rd_new_eq, own_new_eq, mp_newm_eq]
        · refine (sift_At_spec r6 0).mono ?_
          rintro _ _ ⟨rfl, rfl⟩
          obtain ⟨x, hx⟩ : ∃ x, l6[0]? = some x := ⟨_, List.getElem?_eq_getElem (by omega)⟩
          have hxm : x ∈ l6 := List.mem_of_getElem? hx
          rw [if_pos (by omega), show (0 : Int).toNat = 0 from rfl, hx]
          simp (disch := (first | omega | (simp only [size_new, size_newm, size_wr, size_wrm] <;> omega) | fail)) only [go_sem, Nat.reduceBEq, Nat.reduceAdd, Nat.reduceMul, Nat.reduceLeDiff, ↓reduceIte, rd_new_lt, own_new_lt, mp_new_lt, rd_newm_lt, own_newm_lt, mp_newm_lt, rd_wr_ne, own_wr_ne, mp_wr_ne, rd_wrm_ne, own_wrm_ne, mp_wrm_ne, rd_new_eq, own_new_eq, mp_newm_eq, twoF]
          have hpx : pl6 x = some 0 := (h6.pl x 0).2 ⟨by omega, hx⟩
          have rest : ∀ K : Value → Hp → Prop, (∀ S7 l7 pl7 q7 H7, RowAt H7 r S7 d l7 pl7 → HeapOk f d l7 pl7 → KeysAt H7 (mb + 1) mb f q7 → (∀ z, z ∈ l7 ↔ z ∈ l6 ∧ z ≠ x) → l7.length = l6.length - 1 → Fresh Hh H7 → (∀ x, S7 x → Hh.size ≤ x ∧ ¬ (x = mb + 1 ∨ x = mb)) → K (.bool true) H7) →
              CallH Try.prog n_sift_Row_Remove [ptr r, .iface 75 (ptr (mb + 1)), i64 x] H6 K := by
            intro K hK
            refine (sift_Remove_spec (keys_ord _ _ _) r6 hS62 k6 hf x (by omega) h6.pl).mono ?_
            rintro _ H7 (⟨hn, _, _⟩ | ⟨p, hp, rfl, r7, k7, e7⟩)
            · rw [hpx] at hn; cases hn
            obtain ⟨b1, b2, b3, b4⟩ := h6.remove hf hp
            exact hK _ _ _ _ _ r7 b1 k7 b3 b2 (f6.then e7 (fun z hz => by rcases hz with hz | hz | hz; exact (hS6 z hz).1; all_goals omega)) hS6
          have again : ∀ S7 l7 pl7 q7 H7, RowAt H7 r S7 d l7 pl7 → HeapOk f d l7 pl7 → KeysAt H7 (mb + 1) mb f q7 → (∀ z, z ∈ l7 ↔ z ∈ l6 ∧ z ≠ x) → l7.length = l6.length - 1 → Fresh Hh H7 → (∀ x, S7 x → Hh.size ≤ x ∧ ¬ (x = mb + 1 ∨ x = mb)) →
              CallH Try.prog n_sift_Row_Remove [ptr r, .iface 75 (ptr (mb + 1)), i64 x] H7 fun v H' => v = .bool false ∧ H' = H7 := by
            intro S7 l7 pl7 q7 H7 r7 h7 k7 m7 n7 f7 hS7
            refine (sift_Remove_spec (keys_ord _ _ _) r7 (fun x hx => (hS7 x hx).2) k7 hf x (by omega) h7.pl).mono ?_
            rintro _ H8 (⟨hn, rfl, rfl⟩ | ⟨p, hp, rfl, _⟩)
            · exact ⟨rfl, rfl⟩
            · exact absurd rfl ((m7 x).1 ((h7.mem x).2 (by rw [hp]; simp))).2
          refine Both.dec (fun hge => ?_) (fun hge => ?_) <;> simp (disch := (first | omega | (simp only [size_new, size_newm, size_wr, size_wrm] <;> omega) | fail)) only [go_sem, Nat.reduceBEq, Nat.reduceAdd, Nat.reduceMul, Nat.reduceLeDiff, ↓reduceIte, rd_new_lt, own_new_lt, mp_new_lt, rd_newm_lt, own_newm_lt, mp_newm_lt, rd_wr_ne, own_wr_ne, mp_wr_ne, rd_wrm_ne, own_wrm_ne, mp_wrm_ne, rd_new_eq, own_new_eq, mp_newm_eq]
          · refine (law07_keys_before_spec k6 last x).mono ?_
            rintro _ _ ⟨rfl, rfl⟩
            rw [(hlast x hxm).2 hge]
            simp (disch := (first | omega | (simp only [size_new, size_newm, size_wr, size_wrm] <;> omega) | fail)) only [go_sem, Nat.reduceBEq, Nat.reduceAdd, Nat.reduceMul, Nat.reduceLeDiff, ↓reduceIte, rd_new_lt, own_new_lt, mp_new_lt, rd_newm_lt, own_newm_lt, mp_newm_lt, rd_wr_ne, own_wr_ne, mp_wr_ne, rd_wrm_ne, own_wrm_ne, mp_wrm_ne, rd_new_eq, own_new_eq, mp_newm_eq]
            refine rest _ fun S7 l7 pl7 q7 H7 r7 h7 k7 m7 n7 f7 hS7 => ?_
            simp (disch := (first | omega | (simp only [size_new, size_newm, size_wr, size_wrm] <;> omega) | fail)) only [go_sem, Nat.reduceBEq, Nat.reduceAdd, Nat.reduceMul, Nat.reduceLeDiff, ↓reduceIte, rd_new_lt, own_new_lt, mp_new_lt, rd_newm_lt, own_newm_lt, mp_newm_lt, rd_wr_ne, own_wr_ne, mp_wr_ne, rd_wrm_ne, own_wrm_ne, mp_wrm_ne, rd_new_eq, own_new_eq, mp_newm_eq]
            refine (again S7 l7 pl7 q7 H7 r7 h7 k7 m7 n7 f7 hS7).mono ?_
            rintro _ _ ⟨rfl, rfl⟩
            simp (disch := (first | omega | (simp only [size_new, size_newm, size_wr, size_wrm] <;> omega) | fail)) only [go_sem, Nat.reduceBEq, Nat.reduceAdd, Nat.reduceMul, Nat.reduceLeDiff, ↓reduceIte, rd_new_lt, own_new_lt, mp_new_lt, rd_newm_lt, own_newm_lt, mp_newm_lt, rd_wr_ne, own_wr_ne, mp_wr_ne, rd_wrm_ne, own_wrm_ne, mp_wrm_ne, rd_new_eq, own_new_eq, mp_newm_eq]
            refine ⟨l7.length, by omega, x, S7, l7, pl7, q7, rfl, rfl, by omega, r7, h7, k7, fun z hz => ?_, f7, hS7⟩
            have := (m7 z).1 hz
            exact ⟨(hlast z this.1).1, fun _ => h6.least hf hx z this.1 this.2⟩
          · refine rest _ fun S7 l7 pl7 q7 H7 r7 h7 k7 m7 n7 f7 hS7 => ?_
            simp (disch := (first | omega | (simp only [size_new, size_newm, size_wr, size_wrm] <;> omega) | fail)) only [go_sem, Nat.reduceBEq, Nat.reduceAdd, Nat.reduceMul, Nat.reduceLeDiff, ↓reduceIte, rd_new_lt, own_new_lt, mp_new_lt, rd_newm_lt, own_newm_lt, mp_newm_lt, rd_wr_ne, own_wr_ne, mp_wr_ne, rd_wrm_ne, own_wrm_ne, mp_wrm_ne, rd_new_eq, own_new_eq, mp_newm_eq]
            refine (again S7 l7 pl7 q7 H7 r7 h7 k7 m7 n7 f7 hS7).mono ?_
            rintro _ _ ⟨rfl, rfl⟩
            simp (disch := (first | omega | (simp only [size_new, size_newm, size_wr, size_wrm] <;> omega) | fail)) only [go_sem, Nat.reduceBEq, Nat.reduceAdd, Nat.reduceMul, Nat.reduceLeDiff, ↓reduceIte, rd_new_lt, own_new_lt, mp_new_lt, rd_newm_lt, own_newm_lt, mp_newm_lt, rd_wr_ne, own_wr_ne, mp_wr_ne, rd_wrm_ne, own_wrm_ne, mp_wrm_ne, rd_new_eq, own_new_eq, mp_newm_eq]
            refine ⟨l7.length, by omega, x, S7, l7, pl7, q7, rfl, rfl, by omega, r7, h7, k7, fun z hz => ?_, f7, hS7⟩
            have := (m7 z).1 hz
            exact ⟨(hlast z this.1).1, fun _ => h6.least hf hx z this.1 this.2⟩
        · refine (sift_All_spec r6 (by omega)).mono ?_
          rintro av H7 ⟨f7, fp, g1, g2⟩
          have hl0 : l6.length = 0 := by omega
          have hv : ∃ a c, av = .slice a l6.length c := by
            cases fp with
            | none => obtain ⟨_, e, rfl⟩ := g1; exact ⟨_, _, by rw [e]⟩
            | some b => obtain ⟨_, l', c', rfl, _⟩ := g1; exact ⟨_, _, rfl⟩
          obtain ⟨a, c, rfl⟩ := hv
          simp (disch := (first | omega | (simp only [size_new, size_newm, size_wr, size_wrm] <;> omega) | fail)) only [go_sem, Nat.reduceBEq, Nat.reduceAdd, Nat.reduceMul, Nat.reduceLeDiff, ↓reduceIte, rd_new_lt, own_new_lt, mp_new_lt, rd_newm_lt, own_newm_lt, mp_newm_lt, rd_wr_ne, own_wr_ne, mp_wr_ne, rd_wrm_ne, own_wrm_ne, mp_wrm_ne, rd_new_eq, own_new_eq, mp_newm_eq]
          exact ⟨congrArg Value.bool (decide_eq_true (by omega)), f6.trans f7⟩
  · exact ⟨rfl, f1⟩

end Go.Proofs.Ytkikanlkhkghcaa
