/-
  The document's lists of things: is one among them, all but one; is a row a heap of just those.
-/
import Derived.Test.YtkikanlkhkghcaaSiftSorts
set_option linter.unusedVariables false
set_option linter.unusedSimpArgs false
namespace Go.Proofs.Ytkikanlkhkghcaa
open Go Go.Vc

theorem RdS.val {H : Hp} {size n : Nat} {v : Value} {xs : List Value} (h : RdS H size v n xs) : ∃ a c, v = .slice a n c := by
  obtain ⟨_, ⟨rfl, a, c, rfl⟩ | ⟨b, o, c, l, rfl, _⟩⟩ := h
  · exact ⟨_, _, rfl⟩
  · exact ⟨_, _, rfl⟩

/-- A cell of a slice of numbers, read. -/
theorem RdS.int {H : Hp} {a : Option Addr} {n c : Nat} {xs : List Int} (h : RdS H 1 (.slice a n c) n (xs.map i64)) {i : Nat} {x : Int} (hx : xs[i]? = some x) :
    ∃ b o l, a = some ⟨b, o, none⟩ ∧ H.rd b = some l ∧ l[o + i * 1]? = some (i64 x) := by
  obtain ⟨b, o, c', l, e1, e2, e3, e4⟩ := RdS.get h (i := i) (j := 0) (x := i64 x) (by omega) (by simp [hx])
  injection e1 with e1 _ _
  exact ⟨b, o, l, e1, e2, e4⟩

theorem RdS.len {H : Hp} {v : Value} {n : Nat} {xs : List Int} (h : RdS H 1 v n (xs.map i64)) : xs.length = n := by have := h.1; simpa using this

theorem ref07_Has_spec {H : Hp} {v : Value} {n : Nat} {xs : List Int} (h : RdS H 1 v n (xs.map i64)) (hn : n ≤ 1000000) (x : Int) :
    CallH Try.prog n_ref07_Has [v, i64 x] H fun r H' => Post (r = .bool (decide (x ∈ xs)) ∧ H = H') := by
  obtain ⟨a, c, rfl⟩ := RdS.val h
  have hlen := RdS.len h
  refine c_ref07_Has ⟨rfl, ?_⟩
  simp (disch := (first | omega | (simp only [size_new, size_newm, size_wr, size_wrm] <;> omega) | fail)) only [go_sem, Nat.reduceBEq, Nat.reduceAdd, Nat.reduceMul, Nat.reduceLeDiff, ↓reduceIte, rd_new_lt, own_new_lt, mp_new_lt, rd_newm_lt, own_newm_lt, mp_newm_lt, rd_wr_ne, own_wr_ne, mp_wr_ne, rd_wrm_ne, own_wrm_ne, mp_wrm_ne, rd_new_eq, own_new_eq, mp_newm_eq, s_ref07_Has]
  refine LoopV.intro (fun m env H1 => ∃ k : Nat, env = [(1, i64 x), (7, .slice a n c), (8, i64 n), (9, i64 k)] ∧ H1 = H ∧ k ≤ n ∧ m = n - k ∧ ∀ j, j < k → xs[j]? ≠ some x) n ⟨0, rfl, rfl, by omega, by omega, fun j hj => by omega⟩ ?_
  rintro m env H1 ⟨k, rfl, rfl, hk, rfl, hz⟩
  simp (disch := (first | omega | (simp only [size_new, size_newm, size_wr, size_wrm] <;> omega) | fail)) only [go_sem, Nat.reduceBEq, Nat.reduceAdd, Nat.reduceMul, Nat.reduceLeDiff, ↓reduceIte, rd_new_lt, own_new_lt, mp_new_lt, rd_newm_lt, own_newm_lt, mp_newm_lt, rd_wr_ne, own_wr_ne, mp_wr_ne, rd_wrm_ne, own_wrm_ne, mp_wrm_ne, rd_new_eq, own_new_eq, mp_newm_eq]
  refine Both.dec (fun hkn => ?_) (fun hkn => ?_) <;> simp (disch := (first | omega | (simp only [size_new, size_newm, size_wr, size_wrm] <;> omega) | fail)) only [go_sem, Nat.reduceBEq, Nat.reduceAdd, Nat.reduceMul, Nat.reduceLeDiff, ↓reduceIte, rd_new_lt, own_new_lt, mp_new_lt, rd_newm_lt, own_newm_lt, mp_newm_lt, rd_wr_ne, own_wr_ne, mp_wr_ne, rd_wrm_ne, own_wrm_ne, mp_wrm_ne, rd_new_eq, own_new_eq, mp_newm_eq]
  · obtain ⟨y, hy⟩ : ∃ y, xs[k]? = some y := ⟨_, List.getElem?_eq_getElem (by omega)⟩
    obtain ⟨b, o, l, rfl, e2, e3⟩ := RdS.int h hy
    refine ⟨by omega, ?_⟩
    simp (disch := (first | omega | (simp only [size_new, size_newm, size_wr, size_wrm] <;> omega) | fail)) only [go_sem, Nat.reduceBEq, Nat.reduceAdd, Nat.reduceMul, Nat.reduceLeDiff, ↓reduceIte, rd_new_lt, own_new_lt, mp_new_lt, rd_newm_lt, own_newm_lt, mp_newm_lt, rd_wr_ne, own_wr_ne, mp_wr_ne, rd_wrm_ne, own_wrm_ne, mp_wrm_ne, rd_new_eq, own_new_eq, mp_newm_eq, e2, Int.toNat_natCast, e3]
    refine Both.dec (fun he => ?_) (fun he => ?_) <;> simp (disch := (first | omega | (simp only [size_new, size_newm, size_wr, size_wrm] <;> omega) | fail)) only [go_sem, Nat.reduceBEq, Nat.reduceAdd, Nat.reduceMul, Nat.reduceLeDiff, ↓reduceIte, rd_new_lt, own_new_lt, mp_new_lt, rd_newm_lt, own_newm_lt, mp_newm_lt, rd_wr_ne, own_wr_ne, mp_wr_ne, rd_wrm_ne, own_wrm_ne, mp_wrm_ne, rd_new_eq, own_new_eq, mp_newm_eq]
    · exact ⟨congrArg Value.bool (decide_eq_true (he ▸ List.mem_of_getElem? hy)).symm, rfl⟩
    · rw [wrap64 (by omega) (by omega)]
      exact ⟨n - (k + 1), by omega, k + 1, rfl, trivial, by omega, rfl, fun j hj => by
        rcases Nat.lt_or_ge j k with h' | h'
        · exact hz j h'
        · rw [show j = k by omega, hy]; exact fun e => he (by injection e with e; exact e.symm)⟩
  · refine ⟨congrArg Value.bool (decide_eq_false fun hm => ?_).symm, rfl⟩
    obtain ⟨j, hj⟩ := List.getElem?_of_mem hm
    have := (List.getElem?_eq_some_iff.1 hj).1
    exact hz j (by omega) hj

theorem ref07_Without_spec {H : Hp} {v : Value} {n : Nat} {xs : List Int} (h : RdS H 1 v n (xs.map i64)) (hn : n ≤ 1000000) (x : Int) :
    CallH Try.prog n_ref07_Without [v, i64 x] H fun r H' => Post (Fresh H H' ∧ ∃ m fp, Sl H' 1 r m ((xs.filter (· ≠ x)).map i64) fp ∧ m = (xs.filter (· ≠ x)).length ∧ ∀ b, fp = some b → H.size ≤ b) := by
  obtain ⟨a, c, rfl⟩ := RdS.val h
  have hlen := RdS.len h
  refine c_ref07_Without ⟨rfl, ?_⟩
  simp (disch := (first | omega | (simp only [size_new, size_newm, size_wr, size_wrm] <;> omega) | fail)) only [go_sem, Nat.reduceBEq, Nat.reduceAdd, Nat.reduceMul, Nat.reduceLeDiff, ↓reduceIte, rd_new_lt, own_new_lt, mp_new_lt, rd_newm_lt, own_newm_lt, mp_newm_lt, rd_wr_ne, own_wr_ne, mp_wr_ne, rd_wrm_ne, own_wrm_ne, mp_wrm_ne, rd_new_eq, own_new_eq, mp_newm_eq, s_ref07_Without]
  have f0 : Fresh H (H.new 3 []) := (Ext.refl _ _).new _ _
  refine LoopV.intro (fun m env H1 => ∃ (k m' : Nat) (ov : Value) (fp : Option Nat), env = [(1, i64 x), (5, ov), (9, .slice a n c), (10, i64 n), (11, i64 k)] ∧ Fresh H H1 ∧ k ≤ n ∧ m = n - k ∧
      Sl H1 1 ov m' (((xs.take k).filter (· ≠ x)).map i64) fp ∧ m' ≤ k ∧ ∀ b, fp = some b → H.size ≤ b) n ⟨0, 0, _, some H.size, rfl, f0, by omega, by omega, Sl.lit_at (size := 1) (n := 0) (xs := []) rfl rfl, by omega, fun b e => by injection e with e; omega⟩ ?_
  rintro m env H1 ⟨k, m', ov, fp, rfl, f1, hk, rfl, hs, hm', hfp⟩
  simp (disch := (first | omega | (simp only [size_new, size_newm, size_wr, size_wrm] <;> omega) | fail)) only [go_sem, Nat.reduceBEq, Nat.reduceAdd, Nat.reduceMul, Nat.reduceLeDiff, ↓reduceIte, rd_new_lt, own_new_lt, mp_new_lt, rd_newm_lt, own_newm_lt, mp_newm_lt, rd_wr_ne, own_wr_ne, mp_wr_ne, rd_wrm_ne, own_wrm_ne, mp_wrm_ne, rd_new_eq, own_new_eq, mp_newm_eq]
  refine Both.dec (fun hkn => ?_) (fun hkn => ?_) <;> simp (disch := (first | omega | (simp only [size_new, size_newm, size_wr, size_wrm] <;> omega) | fail)) only [go_sem, Nat.reduceBEq, Nat.reduceAdd, Nat.reduceMul, Nat.reduceLeDiff, ↓reduceIte, rd_new_lt, own_new_lt, mp_new_lt, rd_newm_lt, own_newm_lt, mp_newm_lt, rd_wr_ne, own_wr_ne, mp_wr_ne, rd_wrm_ne, own_wrm_ne, mp_wrm_ne, rd_new_eq, own_new_eq, mp_newm_eq]
  · obtain ⟨y, hy⟩ : ∃ y, xs[k]? = some y := ⟨_, List.getElem?_eq_getElem (by omega)⟩
    obtain ⟨b, o, l, rfl, e2, e3⟩ := RdS.int (h.fresh f1) hy
    have htake : xs.take (k + 1) = xs.take k ++ [y] := by rw [List.take_add_one, hy]; rfl
    refine ⟨by omega, ?_⟩
    simp (disch := (first | omega | (simp only [size_new, size_newm, size_wr, size_wrm] <;> omega) | fail)) only [go_sem, Nat.reduceBEq, Nat.reduceAdd, Nat.reduceMul, Nat.reduceLeDiff, ↓reduceIte, rd_new_lt, own_new_lt, mp_new_lt, rd_newm_lt, own_newm_lt, mp_newm_lt, rd_wr_ne, own_wr_ne, mp_wr_ne, rd_wrm_ne, own_wrm_ne, mp_wrm_ne, rd_new_eq, own_new_eq, mp_newm_eq, e2, Int.toNat_natCast, e3]
    refine Both.dec (fun he => ?_) (fun he => ?_) <;> simp (disch := (first | omega | (simp only [size_new, size_newm, size_wr, size_wrm] <;> omega) | fail)) only [go_sem, Nat.reduceBEq, Nat.reduceAdd, Nat.reduceMul, Nat.reduceLeDiff, ↓reduceIte, rd_new_lt, own_new_lt, mp_new_lt, rd_newm_lt, own_newm_lt, mp_newm_lt, rd_wr_ne, own_wr_ne, mp_wr_ne, rd_wrm_ne, own_wrm_ne, mp_wrm_ne, rd_new_eq, own_new_eq, mp_newm_eq]
    · rw [wrap64 (by omega) (by omega)]
      refine ⟨n - (k + 1), by omega, k + 1, m', ov, fp, rfl, f1, by omega, rfl, ?_, by omega, hfp⟩
      rw [htake, List.filter_append]
      simpa [he] using hs
    · have e0 : Ext (fun _ => False) H1 (H1.new 3 [i64 y]) := (Ext.refl _ H1).new _ [i64 y]
      refine Sl.append (hs.ext e0 (fun _ _ h => h)) (Sl.lit_at (size := 1) (xs := [i64 y]) rfl rfl).rd rfl (allOne_ints [y]) (by omega) ?_
      intro v' H2 fp' hs2 hext hfp'
      simp (disch := (first | omega | (simp only [size_new, size_newm, size_wr, size_wrm] <;> omega) | fail)) only [go_sem, Nat.reduceBEq, Nat.reduceAdd, Nat.reduceMul, Nat.reduceLeDiff, ↓reduceIte, rd_new_lt, own_new_lt, mp_new_lt, rd_newm_lt, own_newm_lt, mp_newm_lt, rd_wr_ne, own_wr_ne, mp_wr_ne, rd_wrm_ne, own_wrm_ne, mp_wrm_ne, rd_new_eq, own_new_eq, mp_newm_eq]
      rw [wrap64 (by omega) (by omega)]
      have hsz := f1.size
      refine ⟨n - (k + 1), by omega, k + 1, m' + 1, v', fp', rfl, (f1.trans e0).then hext (fun z hz => hfp z hz), by omega, rfl, ?_, by omega, fun b hb => ?_⟩
      · have : ((xs.take (k + 1)).filter (· ≠ x)).map i64 = ((xs.take k).filter (· ≠ x)).map i64 ++ [i64 y] := by
          rw [htake, List.filter_append, List.map_append]
          congr 1
          simp [show y ≠ x from fun e => he e.symm]
        rw [this]
        exact hs2
      · rcases hfp' with h | ⟨z, h, h5, h6⟩
        · exact hfp b (by rw [← h]; exact hb)
        · rw [h] at hb; injection hb with hb; subst hb
          rw [size_new] at h5; omega
  · have hk2 : k = n := by omega
    subst hk2
    rw [List.take_of_length_le (by omega)] at hs
    refine ⟨f1, m', fp, hs, ?_, hfp⟩
    have := hs.1
    simpa using this.symm

/-- A thing's key is less than it was. -/
theorem HeapOk.raise {f g : Int → Option Int} {d : Int} (hf : FineD d) {l : List Int} {pl : Int → Option Int} (h : HeapOk f d l pl) {x i : Int} (hx : pl x = some i) (hg : ∀ z, z ≠ x → many0 g z = many0 f z) (hgx : many0 g x ≤ many0 f x) :
    HeapOk g d (upM (ltK g) d x i.toNat l pl i).l (upM (ltK g) d x i.toNat l pl i).pl ∧ (∀ z, z ∈ (upM (ltK g) d x i.toNat l pl i).l ↔ z ∈ l) ∧ (upM (ltK g) d x i.toNat l pl i).l.length = l.length ∧
      (upM (ltK g) d x i.toNat l pl i).asked ≤ upN d ((l.length : Int) - 1) := by
  obtain ⟨i0, hi⟩ := (h.pl x i).1 hx
  have hil : i.toNat < l.length := (List.getElem?_eq_some_iff.1 hi).1
  have hat : ∀ j, j < l.length → j ≠ i.toNat → l.getD j 0 ≠ x := fun j hj hne e => by
    have : l[j]? = some x := by rw [List.getElem?_eq_getElem hj, ← e, List.getD_eq_getElem?_getD, List.getElem?_eq_getElem hj]; rfl
    exact hne (h.pl.uniq this hi)
  have hlt : ∀ a b, a ≠ x → b ≠ x → ltK g a b = ltK f a b := fun a b ha hb => by unfold ltK; rw [hg a ha, hg b hb]
  have hbut := h.heap.but (ltK_strict f) hf i.toNat
  have hO : ¬ Oth l i x := by
    rintro ⟨k, k1, k2⟩
    have := h.pl.uniq k2 hi
    omega
  obtain ⟨p1, p2⟩ := up_places (lt := ltK g) (d := d) x i.toNat l pl i (Nat.le_refl _) i0 (by omega) (h.pl.hole hi i0) hO
  refine ⟨⟨up_heap (ltK_strict g) hf x _ _ _ _ (Nat.le_refl _) i0 (by omega) ⟨fun j h1 h2 h3 h4 => ?_, fun j h1 h2 h3 h4 => ?_⟩ (fun j h1 h2 h3 => ?_), p1⟩, fun z => ?_, up_length _ _ _ _ _ _ _, ?_⟩
  · have := pa_lt hf h1
    rw [hlt _ _ (hat j h2 h3) (hat _ (by omega) h4)]
    exact hbut.1 j h1 h2 h3 h4
  · have := pa_lt hf h1
    have := pa_lt hf h4
    rw [hlt _ _ (hat j h2 (by omega)) (hat _ (by omega) (by omega))]
    exact hbut.2 j h1 h2 h3 h4
  · have hpj := pa_lt hf h1
    have hne := hat j h2 (by omega)
    have := h.heap j h1 h2
    rw [h3, show l.getD i.toNat 0 = x by rw [List.getD_eq_getElem?_getD, hi]; rfl] at this
    simp only [ltK, decide_eq_false_iff_not, hg _ hne] at this ⊢
    omega
  · rw [p2 z]
    constructor
    · rintro (rfl | ⟨k, _, k2⟩)
      · exact List.mem_of_getElem? hi
      · exact List.mem_of_getElem? k2
    · intro hm
      obtain ⟨k, hk⟩ := List.getElem?_of_mem hm
      by_cases e : (k : Int) = i
      · rw [show k = i.toNat by omega, hi] at hk; injection hk with hk; exact .inl hk.symm
      · exact .inr ⟨k, e, hk⟩
  · have e1 := up_asked (ltK g) d x i.toNat l pl i
    have e2 := upN_mono hf ((l.length : Int) - 1).toNat i ((l.length : Int) - 1) (Nat.le_refl _) (by omega)
    unfold upN at e2 ⊢
    omega

set_option maxHeartbeats 1000000 in
theorem law07_heap_spec {H : Hp} {r o mb q n : Nat} {S : Nat → Prop} {d : Int} {l th : List Int} {pl : Int → Option Int} {f : Int → Option Int} {tv : Value} (hr : RowAt H r S d l pl) (hh : HeapOk f d l pl) (hf : FineD d) (hk : KeysAt H o mb f q)
    (ht : RdS H 1 tv n (th.map i64)) (hm : ∀ z, z ∈ l → z ∈ th) (hn : l.length = n) (hn2 : n ≤ 1000000) :
    CallH Try.prog n_law07_heap [ptr r, ptr o, i64 d, tv] H fun v H' => Post (v = .bool true ∧ Fresh H H') := by
  obtain ⟨ta, tc, rfl⟩ := RdS.val ht
  refine c_law07_heap ⟨rfl, ?_⟩
  simp (disch := (first | omega | (simp only [size_new, size_newm, size_wr, size_wrm] <;> omega) | fail)) only [go_sem, Nat.reduceBEq, Nat.reduceAdd, Nat.reduceMul, Nat.reduceLeDiff, ↓reduceIte, rd_new_lt, own_new_lt, mp_new_lt, rd_newm_lt, own_newm_lt, mp_newm_lt, rd_wr_ne, own_wr_ne, mp_wr_ne, rd_wrm_ne, own_wrm_ne, mp_wrm_ne, rd_new_eq, own_new_eq, mp_newm_eq, s_law07_heap]
  refine (sift_All_spec hr (by omega)).mono ?_
  rintro lv H1 ⟨f1, fp, g1, _⟩
  have g2 := g1.rd
  obtain ⟨la, lc, rfl⟩ := RdS.val g2
  have hr1 := hr.ext f1 (fun _ _ h => h)
  have hk1 : KeysAt H1 o mb f q := ⟨f1.own hk.1 (fun h => h), hk.2.1.ext f1 (fun h => h), hk.2.2⟩
  have ht1 := ht.fresh f1
  simp (disch := (first | omega | (simp only [size_new, size_newm, size_wr, size_wrm] <;> omega) | fail)) only [go_sem, Nat.reduceBEq, Nat.reduceAdd, Nat.reduceMul, Nat.reduceLeDiff, ↓reduceIte, rd_new_lt, own_new_lt, mp_new_lt, rd_newm_lt, own_newm_lt, mp_newm_lt, rd_wr_ne, own_wr_ne, mp_wr_ne, rd_wrm_ne, own_wrm_ne, mp_wrm_ne, rd_new_eq, own_new_eq, mp_newm_eq]
  refine Both.of_true (decide_eq_true (by omega)) ?_
  simp (disch := (first | omega | (simp only [size_new, size_newm, size_wr, size_wrm] <;> omega) | fail)) only [go_sem, Nat.reduceBEq, Nat.reduceAdd, Nat.reduceMul, Nat.reduceLeDiff, ↓reduceIte, rd_new_lt, own_new_lt, mp_new_lt, rd_newm_lt, own_newm_lt, mp_newm_lt, rd_wr_ne, own_wr_ne, mp_wr_ne, rd_wrm_ne, own_wrm_ne, mp_wrm_ne, rd_new_eq, own_new_eq, mp_newm_eq]
  refine (sift_Len_spec hr1).mono ?_
  rintro _ _ ⟨rfl, rfl⟩
  simp (disch := (first | omega | (simp only [size_new, size_newm, size_wr, size_wrm] <;> omega) | fail)) only [go_sem, Nat.reduceBEq, Nat.reduceAdd, Nat.reduceMul, Nat.reduceLeDiff, ↓reduceIte, rd_new_lt, own_new_lt, mp_new_lt, rd_newm_lt, own_newm_lt, mp_newm_lt, rd_wr_ne, own_wr_ne, mp_wr_ne, rd_wrm_ne, own_wrm_ne, mp_wrm_ne, rd_new_eq, own_new_eq, mp_newm_eq]
  refine Both.of_true (by simp) ?_
  simp (disch := (first | omega | (simp only [size_new, size_newm, size_wr, size_wrm] <;> omega) | fail)) only [go_sem, Nat.reduceBEq, Nat.reduceAdd, Nat.reduceMul, Nat.reduceLeDiff, ↓reduceIte, rd_new_lt, own_new_lt, mp_new_lt, rd_newm_lt, own_newm_lt, mp_newm_lt, rd_wr_ne, own_wr_ne, mp_wr_ne, rd_wrm_ne, own_wrm_ne, mp_wrm_ne, rd_new_eq, own_new_eq, mp_newm_eq]
  refine LoopV.intro (fun m env H2 => ∃ k : Nat, env = [(0, ptr r), (1, ptr o), (2, i64 d), (3, .slice ta n tc), (9, .slice la l.length lc), (36, .slice la l.length lc), (37, i64 l.length), (38, i64 k)] ∧ H2 = H1 ∧ k ≤ l.length ∧ m = l.length - k) l.length ⟨0, rfl, rfl, by omega, by omega⟩ ?_
  rintro m env H2 ⟨k, rfl, rfl, hk0, rfl⟩
  simp (disch := (first | omega | (simp only [size_new, size_newm, size_wr, size_wrm] <;> omega) | fail)) only [go_sem, Nat.reduceBEq, Nat.reduceAdd, Nat.reduceMul, Nat.reduceLeDiff, ↓reduceIte, rd_new_lt, own_new_lt, mp_new_lt, rd_newm_lt, own_newm_lt, mp_newm_lt, rd_wr_ne, own_wr_ne, mp_wr_ne, rd_wrm_ne, own_wrm_ne, mp_wrm_ne, rd_new_eq, own_new_eq, mp_newm_eq]
  refine Both.dec (fun hkn => ?_) (fun hkn => ?_) <;> simp (disch := (first | omega | (simp only [size_new, size_newm, size_wr, size_wrm] <;> omega) | fail)) only [go_sem, Nat.reduceBEq, Nat.reduceAdd, Nat.reduceMul, Nat.reduceLeDiff, ↓reduceIte, rd_new_lt, own_new_lt, mp_new_lt, rd_newm_lt, own_newm_lt, mp_newm_lt, rd_wr_ne, own_wr_ne, mp_wr_ne, rd_wrm_ne, own_wrm_ne, mp_wrm_ne, rd_new_eq, own_new_eq, mp_newm_eq]
  · obtain ⟨x, hx⟩ : ∃ x, l[k]? = some x := ⟨_, List.getElem?_eq_getElem (by omega)⟩
    obtain ⟨b, ob, lb, rfl, e2, e3⟩ := RdS.int g2 hx
    refine ⟨by omega, ?_⟩
    simp (disch := (first | omega | (simp only [size_new, size_newm, size_wr, size_wrm] <;> omega) | fail)) only [go_sem, Nat.reduceBEq, Nat.reduceAdd, Nat.reduceMul, Nat.reduceLeDiff, ↓reduceIte, rd_new_lt, own_new_lt, mp_new_lt, rd_newm_lt, own_newm_lt, mp_newm_lt, rd_wr_ne, own_wr_ne, mp_wr_ne, rd_wrm_ne, own_wrm_ne, mp_wrm_ne, rd_new_eq, own_new_eq, mp_newm_eq, e2, Int.toNat_natCast, e3]
    refine (sift_At_spec hr1 k).mono ?_
    rintro _ _ ⟨rfl, rfl⟩
    rw [if_pos (by omega), Int.toNat_natCast, hx]
    simp (disch := (first | omega | (simp only [size_new, size_newm, size_wr, size_wrm] <;> omega) | fail)) only [go_sem, Nat.reduceBEq, Nat.reduceAdd, Nat.reduceMul, Nat.reduceLeDiff, ↓reduceIte, rd_new_lt, own_new_lt, mp_new_lt, rd_newm_lt, own_newm_lt, mp_newm_lt, rd_wr_ne, own_wr_ne, mp_wr_ne, rd_wrm_ne, own_wrm_ne, mp_wrm_ne, rd_new_eq, own_new_eq, mp_newm_eq, twoF]
    refine (sift_Place_spec hr1 x).mono ?_
    rintro _ _ ⟨rfl, rfl⟩
    rw [(hh.pl x k).2 ⟨by omega, by simpa using hx⟩]
    simp (disch := (first | omega | (simp only [size_new, size_newm, size_wr, size_wrm] <;> omega) | fail)) only [go_sem, Nat.reduceBEq, Nat.reduceAdd, Nat.reduceMul, Nat.reduceLeDiff, ↓reduceIte, rd_new_lt, own_new_lt, mp_new_lt, rd_newm_lt, own_newm_lt, mp_newm_lt, rd_wr_ne, own_wr_ne, mp_wr_ne, rd_wrm_ne, own_wrm_ne, mp_wrm_ne, rd_new_eq, own_new_eq, mp_newm_eq, twoF]
    refine Both.of_true (by simp) ?_
    simp (disch := (first | omega | (simp only [size_new, size_newm, size_wr, size_wrm] <;> omega) | fail)) only [go_sem, Nat.reduceBEq, Nat.reduceAdd, Nat.reduceMul, Nat.reduceLeDiff, ↓reduceIte, rd_new_lt, own_new_lt, mp_new_lt, rd_newm_lt, own_newm_lt, mp_newm_lt, rd_wr_ne, own_wr_ne, mp_wr_ne, rd_wrm_ne, own_wrm_ne, mp_wrm_ne, rd_new_eq, own_new_eq, mp_newm_eq]
    refine Both.of_true (by simp) ?_
    simp (disch := (first | omega | (simp only [size_new, size_newm, size_wr, size_wrm] <;> omega) | fail)) only [go_sem, Nat.reduceBEq, Nat.reduceAdd, Nat.reduceMul, Nat.reduceLeDiff, ↓reduceIte, rd_new_lt, own_new_lt, mp_new_lt, rd_newm_lt, own_newm_lt, mp_newm_lt, rd_wr_ne, own_wr_ne, mp_wr_ne, rd_wrm_ne, own_wrm_ne, mp_wrm_ne, rd_new_eq, own_new_eq, mp_newm_eq]
    refine (ref07_Has_spec ht1 hn2 x).mono ?_
    rintro _ _ ⟨rfl, rfl⟩
    rw [decide_eq_true (hm x (List.mem_of_getElem? hx))]
    simp (disch := (first | omega | (simp only [size_new, size_newm, size_wr, size_wrm] <;> omega) | fail)) only [go_sem, Nat.reduceBEq, Nat.reduceAdd, Nat.reduceMul, Nat.reduceLeDiff, ↓reduceIte, rd_new_lt, own_new_lt, mp_new_lt, rd_newm_lt, own_newm_lt, mp_newm_lt, rd_wr_ne, own_wr_ne, mp_wr_ne, rd_wrm_ne, own_wrm_ne, mp_wrm_ne, rd_new_eq, own_new_eq, mp_newm_eq]
    refine (ref07_Parent_spec d k (by omega) H2).mono ?_
    rintro _ _ ⟨rfl, rfl⟩
    rw [twoF_eq]
    cases hp : parentF d k with
    | none =>
      simp (disch := (first | omega | (simp only [size_new, size_newm, size_wr, size_wrm] <;> omega) | fail)) only [go_sem, Nat.reduceBEq, Nat.reduceAdd, Nat.reduceMul, Nat.reduceLeDiff, ↓reduceIte, rd_new_lt, own_new_lt, mp_new_lt, rd_newm_lt, own_newm_lt, mp_newm_lt, rd_wr_ne, own_wr_ne, mp_wr_ne, rd_wrm_ne, own_wrm_ne, mp_wrm_ne, rd_new_eq, own_new_eq, mp_newm_eq, Option.isSome_none, Option.getD_none]
      rw [wrap64 (by omega) (by omega)]
      exact ⟨l.length - (k + 1), by omega, k + 1, rfl, trivial, by omega, rfl⟩
    | some p =>
      have hpb := parentF_lt hp
      have hk1' : (1 : Int) ≤ k := by omega
      obtain ⟨p', hp', hpa, _, _⟩ := parentF_pa hf hk1'
      rw [hp] at hp'
      injection hp' with hp'
      subst hp'
      simp only [Int.toNat_natCast] at hpa
      obtain ⟨y, hy⟩ : ∃ y, l[p.toNat]? = some y := ⟨_, List.getElem?_eq_getElem (by omega)⟩
      obtain ⟨b2, o2, l2, ee, e4, e5⟩ := RdS.int g2 hy
      injection ee with ee
      injection ee with eb eo _
      subst eb; subst eo
      rw [e2] at e4
      injection e4 with e4
      subst e4
      have hheap := hh.heap k (by omega) (by omega)
      rw [← hpa, List.getD_eq_getElem?_getD, List.getD_eq_getElem?_getD, hx, hy] at hheap
      simp (disch := (first | omega | (simp only [size_new, size_newm, size_wr, size_wrm] <;> omega) | fail)) only [go_sem, Nat.reduceBEq, Nat.reduceAdd, Nat.reduceMul, Nat.reduceLeDiff, ↓reduceIte, rd_new_lt, own_new_lt, mp_new_lt, rd_newm_lt, own_newm_lt, mp_newm_lt, rd_wr_ne, own_wr_ne, mp_wr_ne, rd_wrm_ne, own_wrm_ne, mp_wrm_ne, rd_new_eq, own_new_eq, mp_newm_eq, Option.isSome_some, Option.getD_some]
      refine ⟨by omega, ?_⟩
      simp (disch := (first | omega | (simp only [size_new, size_newm, size_wr, size_wrm] <;> omega) | fail)) only [go_sem, Nat.reduceBEq, Nat.reduceAdd, Nat.reduceMul, Nat.reduceLeDiff, ↓reduceIte, rd_new_lt, own_new_lt, mp_new_lt, rd_newm_lt, own_newm_lt, mp_newm_lt, rd_wr_ne, own_wr_ne, mp_wr_ne, rd_wrm_ne, own_wrm_ne, mp_wrm_ne, rd_new_eq, own_new_eq, mp_newm_eq, e2, e5]
      refine (law07_keys_before_spec hk1 x y).mono ?_
      rintro _ _ ⟨rfl, rfl⟩
      rw [show ltK f x y = false from hheap]
      simp (disch := (first | omega | (simp only [size_new, size_newm, size_wr, size_wrm] <;> omega) | fail)) only [go_sem, Nat.reduceBEq, Nat.reduceAdd, Nat.reduceMul, Nat.reduceLeDiff, ↓reduceIte, rd_new_lt, own_new_lt, mp_new_lt, rd_newm_lt, own_newm_lt, mp_newm_lt, rd_wr_ne, own_wr_ne, mp_wr_ne, rd_wrm_ne, own_wrm_ne, mp_wrm_ne, rd_new_eq, own_new_eq, mp_newm_eq]
      rw [wrap64 (by omega) (by omega)]
      exact ⟨l.length - (k + 1), by omega, k + 1, rfl, trivial, by omega, rfl⟩
  · refine (sift_At_spec hr1 (-1)).mono ?_
    rintro _ _ ⟨rfl, rfl⟩
    rw [if_neg (by omega)]
    simp (disch := (first | omega | (simp only [size_new, size_newm, size_wr, size_wrm] <;> omega) | fail)) only [go_sem, Nat.reduceBEq, Nat.reduceAdd, Nat.reduceMul, Nat.reduceLeDiff, ↓reduceIte, rd_new_lt, own_new_lt, mp_new_lt, rd_newm_lt, own_newm_lt, mp_newm_lt, rd_wr_ne, own_wr_ne, mp_wr_ne, rd_wrm_ne, own_wrm_ne, mp_wrm_ne, rd_new_eq, own_new_eq, mp_newm_eq, twoF]
    refine (sift_At_spec hr1 l.length).mono ?_
    rintro _ _ ⟨rfl, rfl⟩
    rw [if_pos (by omega), Int.toNat_natCast, List.getElem?_eq_none (by omega)]
    simp (disch := (first | omega | (simp only [size_new, size_newm, size_wr, size_wrm] <;> omega) | fail)) only [go_sem, Nat.reduceBEq, Nat.reduceAdd, Nat.reduceMul, Nat.reduceLeDiff, ↓reduceIte, rd_new_lt, own_new_lt, mp_new_lt, rd_newm_lt, own_newm_lt, mp_newm_lt, rd_wr_ne, own_wr_ne, mp_wr_ne, rd_wrm_ne, own_wrm_ne, mp_wrm_ne, rd_new_eq, own_new_eq, mp_newm_eq, twoF]
    exact ⟨rfl, f1⟩

end Go.Proofs.Ytkikanlkhkghcaa
