/-
  The law DaryNew answers true.
-/
import Derived.Test.YteicchpglnamcaaDary
import Derived.Test.YteicchpglnamcaaArgs
set_option linter.unusedVariables false
set_option linter.unusedSimpArgs false
namespace Go.Proofs.Yteicchpglnamcaa
open Go Go.Vc

theorem DaryAt.opened {H : Hp} {n : Nat} {S : Nat → Prop} {d st : Int} {w : Nw} (h : DaryAt H n S d st w) : ∃ c C r1 r2, H.own n = some [ptr c, r1, r2] ∧ CellsN H c C st w := by
  obtain ⟨c, C, rv, fp, rs, m, l, hS⟩ := h
  exact ⟨c, C, _, _, m.own, m.cells⟩

theorem ref08_Right_spec (cap d : Int) (H : Hp) : CallH Try.prog n_ref08_Right [i64 cap, i64 d] H fun v H' => Post (v = i64 (if 0 ≤ cap ∧ cap ≤ 65536 then (if FineD d then 0 else 22) else 31) ∧ H = H') := by
  refine c_ref08_Right ⟨rfl, ?_⟩
  simp (disch := (first | omega | (simp only [size_new, size_newm, size_wr, size_wrm] <;> omega) | fail)) only [go_sem, Nat.reduceBEq, Nat.reduceAdd, Nat.reduceMul, Nat.reduceLeDiff, ↓reduceIte, rd_new_lt, own_new_lt, mp_new_lt, rd_newm_lt, own_newm_lt, mp_newm_lt, rd_wr_ne, own_wr_ne, mp_wr_ne, rd_wrm_ne, own_wrm_ne, mp_wrm_ne, rd_new_eq, own_new_eq, mp_newm_eq, s_ref08_Right]
  refine Both.dec (fun h1 => ?_) (fun h1 => ?_) <;> simp (disch := (first | omega | (simp only [size_new, size_newm, size_wr, size_wrm] <;> omega) | fail)) only [go_sem, Nat.reduceBEq, Nat.reduceAdd, Nat.reduceMul, Nat.reduceLeDiff, ↓reduceIte, rd_new_lt, own_new_lt, mp_new_lt, rd_newm_lt, own_newm_lt, mp_newm_lt, rd_wr_ne, own_wr_ne, mp_wr_ne, rd_wrm_ne, own_wrm_ne, mp_wrm_ne, rd_new_eq, own_new_eq, mp_newm_eq]
  · rw [if_neg (by omega)]; exact ⟨rfl, rfl⟩
  · refine Both.dec (fun h2 => ?_) (fun h2 => ?_) <;> simp (disch := (first | omega | (simp only [size_new, size_newm, size_wr, size_wrm] <;> omega) | fail)) only [go_sem, Nat.reduceBEq, Nat.reduceAdd, Nat.reduceMul, Nat.reduceLeDiff, ↓reduceIte, rd_new_lt, own_new_lt, mp_new_lt, rd_newm_lt, own_newm_lt, mp_newm_lt, rd_wr_ne, own_wr_ne, mp_wr_ne, rd_wrm_ne, own_wrm_ne, mp_wrm_ne, rd_new_eq, own_new_eq, mp_newm_eq]
    · rw [if_neg (by omega)]; exact ⟨rfl, rfl⟩
    · rw [if_pos (by omega)]
      refine Both.dec (fun h3 => ?_) (fun h3 => ?_) <;> simp (disch := (first | omega | (simp only [size_new, size_newm, size_wr, size_wrm] <;> omega) | fail)) only [go_sem, Nat.reduceBEq, Nat.reduceAdd, Nat.reduceMul, Nat.reduceLeDiff, ↓reduceIte, rd_new_lt, own_new_lt, mp_new_lt, rd_newm_lt, own_newm_lt, mp_newm_lt, rd_wr_ne, own_wr_ne, mp_wr_ne, rd_wrm_ne, own_wrm_ne, mp_wrm_ne, rd_new_eq, own_new_eq, mp_newm_eq]
      · rw [if_neg (fun hf : FineD d => by have := hf.1; omega)]; exact ⟨rfl, rfl⟩
      · refine Both.dec (fun h4 => ?_) (fun h4 => ?_) <;> simp (disch := (first | omega | (simp only [size_new, size_newm, size_wr, size_wrm] <;> omega) | fail)) only [go_sem, Nat.reduceBEq, Nat.reduceAdd, Nat.reduceMul, Nat.reduceLeDiff, ↓reduceIte, rd_new_lt, own_new_lt, mp_new_lt, rd_newm_lt, own_newm_lt, mp_newm_lt, rd_wr_ne, own_wr_ne, mp_wr_ne, rd_wrm_ne, own_wrm_ne, mp_wrm_ne, rd_new_eq, own_new_eq, mp_newm_eq]
        · rw [if_neg (fun hf : FineD d => by have := hf.2; omega)]; exact ⟨rfl, rfl⟩
        · rw [if_pos (show FineD d from ⟨by omega, by omega⟩)]; exact ⟨rfl, rfl⟩

/-- The cells of the chapter's example, when i slots have come in. -/
def aliveC (i : Nat) : List Ce := (List.range i).map (fun (j : Nat) => ((1 : Int), (-(j : Int)), (0 : Int))) ++ List.replicate (7 - i) (0, 0, 0)
def aliveW (i : Nat) : Nw := ⟨[false, true], aliveC i⟩

theorem aliveC_put : ∀ i : Nat, i < 7 → (aliveC i).set i (1, -(i : Int), 0) = aliveC (i + 1) := by decide
theorem aliveW_len : ∀ i : Nat, i < 8 → (aliveW i).len 1 = i := by decide
theorem aliveC_not : ∀ i : Nat, i < 7 → (aliveC i)[i]? = some (0, 0, 0) ∧ (aliveC i).length = 7 := by decide
theorem alive_least : ∀ x : Nat, x < 6 → ltW (aliveW 7) x 6 = false := by decide
theorem alive_depth : depthF 3 7 = 2 := by decide

theorem law08_daryAlive_spec (H : Hp) : CallH Try.prog n_law08_daryAlive [] H fun v H' => Post (v = .bool true ∧ Fresh H H') := by
  refine c_law08_daryAlive ⟨rfl, ?_⟩
  simp (disch := (first | omega | (simp only [size_new, size_newm, size_wr, size_wrm] <;> omega) | fail)) only [go_sem, Nat.reduceBEq, Nat.reduceAdd, Nat.reduceMul, Nat.reduceLeDiff, ↓reduceIte, rd_new_lt, own_new_lt, mp_new_lt, rd_newm_lt, own_newm_lt, mp_newm_lt, rd_wr_ne, own_wr_ne, mp_wr_ne, rd_wrm_ne, own_wrm_ne, mp_wrm_ne, rd_new_eq, own_new_eq, mp_newm_eq, s_law08_daryAlive]
  refine (dary_New_spec 7 3 H).mono ?_
  rintro _ H1 ⟨f1, ⟨hb, _⟩ | ⟨_, hb, _⟩ | ⟨_, _, n, S, rfl, d1, hS⟩⟩
  · omega
  · exact absurd (by unfold FineD; omega) hb
  simp (disch := (first | omega | (simp only [size_new, size_newm, size_wr, size_wrm] <;> omega) | fail)) only [go_sem, Nat.reduceBEq, Nat.reduceAdd, Nat.reduceMul, Nat.reduceLeDiff, ↓reduceIte, rd_new_lt, own_new_lt, mp_new_lt, rd_newm_lt, own_newm_lt, mp_newm_lt, rd_wr_ne, own_wr_ne, mp_wr_ne, rd_wrm_ne, own_wrm_ne, mp_wrm_ne, rd_new_eq, own_new_eq, mp_newm_eq, Option.isNone_some, decide_true]
  refine (dary_Make_spec d1).mono ?_
  rintro _ H2 (⟨hb, _⟩ | ⟨_, rfl, S2, d2, e2, hS2⟩)
  · simp at hb
  have f2 : Fresh H H2 := f1.then e2 hS
  have d2 : DaryAt H2 n S2 3 0 (aliveW 0) := d2
  have hS2' : ∀ x, S2 x → H.size ≤ x := fun x hx => by
    rcases hS2 x hx with h | h
    · exact hS x h
    · have := f1.size; omega
  simp (disch := (first | omega | (simp only [size_new, size_newm, size_wr, size_wrm] <;> omega) | fail)) only [go_sem, Nat.reduceBEq, Nat.reduceAdd, Nat.reduceMul, Nat.reduceLeDiff, ↓reduceIte, rd_new_lt, own_new_lt, mp_new_lt, rd_newm_lt, own_newm_lt, mp_newm_lt, rd_wr_ne, own_wr_ne, mp_wr_ne, rd_wrm_ne, own_wrm_ne, mp_wrm_ne, rd_new_eq, own_new_eq, mp_newm_eq]
  refine Both.of_true (by decide) ?_
  simp (disch := (first | omega | (simp only [size_new, size_newm, size_wr, size_wrm] <;> omega) | fail)) only [go_sem, Nat.reduceBEq, Nat.reduceAdd, Nat.reduceMul, Nat.reduceLeDiff, ↓reduceIte, rd_new_lt, own_new_lt, mp_new_lt, rd_newm_lt, own_newm_lt, mp_newm_lt, rd_wr_ne, own_wr_ne, mp_wr_ne, rd_wrm_ne, own_wrm_ne, mp_wrm_ne, rd_new_eq, own_new_eq, mp_newm_eq]
  refine LoopV.intro (fun m env H' => ∃ (i : Nat) (S' : Nat → Prop) (st : Int), env = [(1, ptr n), (3, i64 i)] ∧ m = 7 - i ∧ i ≤ 7 ∧ DaryAt H' n S' 3 st (aliveW i) ∧ (2 ≤ i → 1 ≤ st) ∧ Fresh H H' ∧ ∀ x, S' x → H.size ≤ x) 7
    ⟨0, S2, 0, rfl, rfl, by omega, d2, by omega, f2, hS2'⟩ ?_
  rintro m env H3 ⟨i, S3, st, rfl, rfl, hi, d3, hst, f3, hS3⟩
  simp (disch := (first | omega | (simp only [size_new, size_newm, size_wr, size_wrm] <;> omega) | fail)) only [go_sem, Nat.reduceBEq, Nat.reduceAdd, Nat.reduceMul, Nat.reduceLeDiff, ↓reduceIte, rd_new_lt, own_new_lt, mp_new_lt, rd_newm_lt, own_newm_lt, mp_newm_lt, rd_wr_ne, own_wr_ne, mp_wr_ne, rd_wrm_ne, own_wrm_ne, mp_wrm_ne, rd_new_eq, own_new_eq, mp_newm_eq]
  refine Both.dec (fun hin => ?_) (fun hin => ?_) <;> simp (disch := (first | omega | (simp only [size_new, size_newm, size_wr, size_wrm] <;> omega) | fail)) only [go_sem, Nat.reduceBEq, Nat.reduceAdd, Nat.reduceMul, Nat.reduceLeDiff, ↓reduceIte, rd_new_lt, own_new_lt, mp_new_lt, rd_newm_lt, own_newm_lt, mp_newm_lt, rd_wr_ne, own_wr_ne, mp_wr_ne, rd_wrm_ne, own_wrm_ne, mp_wrm_ne, rd_new_eq, own_new_eq, mp_newm_eq]
  · have hw : IntKind.i64.wrap (0 - (i : Int)) = -(i : Int) := by rw [wrap64 (by omega) (by omega)]; omega
    rw [hw]
    refine (dary_Insert_spec d3 1 i (-(i : Int)) 0).mono ?_
    have hl := aliveW_len i (by omega)
    have hn := aliveC_not i (by omega)
    rintro _ H4 (⟨hno, _, _⟩ | ⟨_, rfl, S4, q, hq1, hq2, d4, e4, hS4⟩)
    · refine absurd ⟨⟨by omega, rfl⟩, ⟨by omega, ?_⟩, ?_⟩ hno
      · show (i : Int) < (aliveC i).length
        rw [hn.2]; omega
      · rintro ⟨_, c, hc, h0⟩
        rw [Int.toNat_natCast, show (aliveW i).cs = aliveC i from rfl, hn.1] at hc
        injection hc with hc
        subst hc
        exact absurd h0 (by decide)
    have hput : (aliveW i).put i (1, -(i : Int), 0) = aliveW (i + 1) := by
      unfold Nw.put aliveW
      simp only [Int.toNat_natCast]
      rw [aliveC_put i (by omega)]
    rw [hput] at d4
    have hst0 : 0 ≤ st := by
      obtain ⟨_, _, _, _, _, c3⟩ := d3.opened
      exact c3.st.1
    simp (disch := (first | omega | (simp only [size_new, size_newm, size_wr, size_wrm] <;> omega) | fail)) only [go_sem, Nat.reduceBEq, Nat.reduceAdd, Nat.reduceMul, Nat.reduceLeDiff, ↓reduceIte, rd_new_lt, own_new_lt, mp_new_lt, rd_newm_lt, own_newm_lt, mp_newm_lt, rd_wr_ne, own_wr_ne, mp_wr_ne, rd_wrm_ne, own_wrm_ne, mp_wrm_ne, rd_new_eq, own_new_eq, mp_newm_eq]
    rw [wrap64 (n := (i : Int) + 1) (by omega) (by omega)]
    refine ⟨7 - (i + 1), by omega, i + 1, S4, _, rfl, rfl, by omega, d4, fun h => ?_, f3.then e4 hS3, fun x hx => ?_⟩
    · have := hq2 (by rw [hl]; omega)
      omega
    · rcases hS4 x hx with h | h
      · exact hS3 x h
      · have := f3.size; omega
  · obtain rfl : i = 7 := by omega
    have hl := aliveW_len 7 (by omega)
    refine (dary_Min_spec d3 1).mono ?_
    rintro _ _ ⟨⟨hno, _⟩ | ⟨_, h0, _⟩ | ⟨_, x, hx, ⟨e, he⟩, rfl, hleast⟩, rfl⟩
    · exact absurd ⟨by omega, rfl⟩ hno
    · rw [hl] at h0; cases h0
    have hx6 : x = 6 := by
      have h1 := hx.1
      have h2 := (List.getElem?_eq_some_iff.1 he).1
      have h3 : (aliveW 7).cs.length = 7 := by decide
      rw [h3] at h2
      rcases Nat.lt_or_ge x.toNat 6 with h4 | h4
      · have h5 := hleast 6 (by omega) ⟨(-6, 0), by decide⟩ (by omega)
        have h6 := alive_least x.toNat h4
        rw [show ((x.toNat : Nat) : Int) = x by omega, h5] at h6
        cases h6
      · omega
    subst hx6
    simp (disch := (first | omega | (simp only [size_new, size_newm, size_wr, size_wrm] <;> omega) | fail)) only [go_sem, Nat.reduceBEq, Nat.reduceAdd, Nat.reduceMul, Nat.reduceLeDiff, ↓reduceIte, rd_new_lt, own_new_lt, mp_new_lt, rd_newm_lt, own_newm_lt, mp_newm_lt, rd_wr_ne, own_wr_ne, mp_wr_ne, rd_wrm_ne, own_wrm_ne, mp_wrm_ne, rd_new_eq, own_new_eq, mp_newm_eq]
    refine (dary_Depth_spec d3 1).mono ?_
    rintro _ _ ⟨rfl, rfl⟩
    rw [hl, show ((7 : Nat) : Int) = 7 from rfl, alive_depth]
    obtain ⟨c, C, r1, r2, o3, c3⟩ := d3.opened
    simp (disch := (first | omega | (simp only [size_new, size_newm, size_wr, size_wrm] <;> omega) | fail)) only [go_sem, Nat.reduceBEq, Nat.reduceAdd, Nat.reduceMul, Nat.reduceLeDiff, ↓reduceIte, rd_new_lt, own_new_lt, mp_new_lt, rd_newm_lt, own_newm_lt, mp_newm_lt, rd_wr_ne, own_wr_ne, mp_wr_ne, rd_wrm_ne, own_wrm_ne, mp_wrm_ne, rd_new_eq, own_new_eq, mp_newm_eq, rd_of_own o3, decide_true]
    refine (cellsN_Steps_spec c3).mono ?_
    rintro _ _ ⟨rfl, rfl⟩
    have := hst (by omega)
    simp (disch := (first | omega | (simp only [size_new, size_newm, size_wr, size_wrm] <;> omega) | fail)) only [go_sem, Nat.reduceBEq, Nat.reduceAdd, Nat.reduceMul, Nat.reduceLeDiff, ↓reduceIte, rd_new_lt, own_new_lt, mp_new_lt, rd_newm_lt, own_newm_lt, mp_newm_lt, rd_wr_ne, own_wr_ne, mp_wr_ne, rd_wrm_ne, own_wrm_ne, mp_wrm_ne, rd_new_eq, own_new_eq, mp_newm_eq]
    exact ⟨congrArg Value.bool (decide_eq_true (by omega)), f3⟩

theorem law08_DaryNew_args {Hh : Hp} {v0 v1 : Value} (h0 : fitA Hh (false, [.k (.i .i64)]) v0) (h1 : fitA Hh (false, [.k (.i .i64)]) v1) :
    CallH Try.prog n_law08_DaryNew [v0, v1] Hh fun v H' => Post (v = .bool true ∧ Fresh Hh H') := by
  obtain ⟨cap, rfl, hc0, hc1⟩ := fitA_i64 h0
  obtain ⟨d, rfl, hd0, hd1⟩ := fitA_i64 h1
  refine c_law08_DaryNew ⟨rfl, ?_⟩
  simp (disch := (first | omega | (simp only [size_new, size_newm, size_wr, size_wrm] <;> omega) | fail)) only [go_sem, Nat.reduceBEq, Nat.reduceAdd, Nat.reduceMul, Nat.reduceLeDiff, ↓reduceIte, rd_new_lt, own_new_lt, mp_new_lt, rd_newm_lt, own_newm_lt, mp_newm_lt, rd_wr_ne, own_wr_ne, mp_wr_ne, rd_wrm_ne, own_wrm_ne, mp_wrm_ne, rd_new_eq, own_new_eq, mp_newm_eq, s_law08_DaryNew]
  refine (law08_daryAlive_spec Hh).mono ?_
  rintro _ H1 ⟨rfl, f1⟩
  simp (disch := (first | omega | (simp only [size_new, size_newm, size_wr, size_wrm] <;> omega) | fail)) only [go_sem, Nat.reduceBEq, Nat.reduceAdd, Nat.reduceMul, Nat.reduceLeDiff, ↓reduceIte, rd_new_lt, own_new_lt, mp_new_lt, rd_newm_lt, own_newm_lt, mp_newm_lt, rd_wr_ne, own_wr_ne, mp_wr_ne, rd_wrm_ne, own_wrm_ne, mp_wrm_ne, rd_new_eq, own_new_eq, mp_newm_eq]
  refine (dary_New_spec cap d H1).mono ?_
  rintro _ H2 ⟨f2, ⟨hb, rfl⟩ | ⟨hb, hf, rfl⟩ | ⟨hb, hf, n, S, rfl, d2, hS⟩⟩
  · simp (disch := (first | omega | (simp only [size_new, size_newm, size_wr, size_wrm] <;> omega) | fail)) only [go_sem, Nat.reduceBEq, Nat.reduceAdd, Nat.reduceMul, Nat.reduceLeDiff, ↓reduceIte, rd_new_lt, own_new_lt, mp_new_lt, rd_newm_lt, own_newm_lt, mp_newm_lt, rd_wr_ne, own_wr_ne, mp_wr_ne, rd_wrm_ne, own_wrm_ne, mp_wrm_ne, rd_new_eq, own_new_eq, mp_newm_eq]
    refine (ref08_Right_spec cap d H2).mono ?_
    rintro _ _ ⟨rfl, rfl⟩
    rw [if_neg hb]
    simp (disch := (first | omega | (simp only [size_new, size_newm, size_wr, size_wrm] <;> omega) | fail)) only [go_sem, Nat.reduceBEq, Nat.reduceAdd, Nat.reduceMul, Nat.reduceLeDiff, ↓reduceIte, rd_new_lt, own_new_lt, mp_new_lt, rd_newm_lt, own_newm_lt, mp_newm_lt, rd_wr_ne, own_wr_ne, mp_wr_ne, rd_wrm_ne, own_wrm_ne, mp_wrm_ne, rd_new_eq, own_new_eq, mp_newm_eq, Option.isNone_none, decide_true]
    exact ⟨rfl, f1.trans f2⟩
  · simp (disch := (first | omega | (simp only [size_new, size_newm, size_wr, size_wrm] <;> omega) | fail)) only [go_sem, Nat.reduceBEq, Nat.reduceAdd, Nat.reduceMul, Nat.reduceLeDiff, ↓reduceIte, rd_new_lt, own_new_lt, mp_new_lt, rd_newm_lt, own_newm_lt, mp_newm_lt, rd_wr_ne, own_wr_ne, mp_wr_ne, rd_wrm_ne, own_wrm_ne, mp_wrm_ne, rd_new_eq, own_new_eq, mp_newm_eq]
    refine (ref08_Right_spec cap d H2).mono ?_
    rintro _ _ ⟨rfl, rfl⟩
    rw [if_pos hb, if_neg hf]
    simp (disch := (first | omega | (simp only [size_new, size_newm, size_wr, size_wrm] <;> omega) | fail)) only [go_sem, Nat.reduceBEq, Nat.reduceAdd, Nat.reduceMul, Nat.reduceLeDiff, ↓reduceIte, rd_new_lt, own_new_lt, mp_new_lt, rd_newm_lt, own_newm_lt, mp_newm_lt, rd_wr_ne, own_wr_ne, mp_wr_ne, rd_wrm_ne, own_wrm_ne, mp_wrm_ne, rd_new_eq, own_new_eq, mp_newm_eq, Option.isNone_none, decide_true]
    exact ⟨rfl, f1.trans f2⟩
  · simp (disch := (first | omega | (simp only [size_new, size_newm, size_wr, size_wrm] <;> omega) | fail)) only [go_sem, Nat.reduceBEq, Nat.reduceAdd, Nat.reduceMul, Nat.reduceLeDiff, ↓reduceIte, rd_new_lt, own_new_lt, mp_new_lt, rd_newm_lt, own_newm_lt, mp_newm_lt, rd_wr_ne, own_wr_ne, mp_wr_ne, rd_wrm_ne, own_wrm_ne, mp_wrm_ne, rd_new_eq, own_new_eq, mp_newm_eq]
    refine (ref08_Right_spec cap d H2).mono ?_
    rintro _ _ ⟨rfl, rfl⟩
    rw [if_pos hb, if_pos hf]
    obtain ⟨c, C, r1, r2, o2, c2⟩ := d2.opened
    simp (disch := (first | omega | (simp only [size_new, size_newm, size_wr, size_wrm] <;> omega) | fail)) only [go_sem, Nat.reduceBEq, Nat.reduceAdd, Nat.reduceMul, Nat.reduceLeDiff, ↓reduceIte, rd_new_lt, own_new_lt, mp_new_lt, rd_newm_lt, own_newm_lt, mp_newm_lt, rd_wr_ne, own_wr_ne, mp_wr_ne, rd_wrm_ne, own_wrm_ne, mp_wrm_ne, rd_new_eq, own_new_eq, mp_newm_eq, Option.isNone_some, decide_true, rd_of_own o2]
    refine (cellsN_Capacity_spec c2).mono ?_
    rintro _ _ ⟨rfl, rfl⟩
    have hcl : ((List.replicate cap.toNat ((0 : Int), (0 : Int), (0 : Int))).length : Int) = cap := by rw [List.length_replicate]; omega
    rw [hcl]
    simp (disch := (first | omega | (simp only [size_new, size_newm, size_wr, size_wrm] <;> omega) | fail)) only [go_sem, Nat.reduceBEq, Nat.reduceAdd, Nat.reduceMul, Nat.reduceLeDiff, ↓reduceIte, rd_new_lt, own_new_lt, mp_new_lt, rd_newm_lt, own_newm_lt, mp_newm_lt, rd_wr_ne, own_wr_ne, mp_wr_ne, rd_wrm_ne, own_wrm_ne, mp_wrm_ne, rd_new_eq, own_new_eq, mp_newm_eq, decide_true]
    refine (dary_Degree_spec d2).mono ?_
    rintro _ _ ⟨rfl, rfl⟩
    simp (disch := (first | omega | (simp only [size_new, size_newm, size_wr, size_wrm] <;> omega) | fail)) only [go_sem, Nat.reduceBEq, Nat.reduceAdd, Nat.reduceMul, Nat.reduceLeDiff, ↓reduceIte, rd_new_lt, own_new_lt, mp_new_lt, rd_newm_lt, own_newm_lt, mp_newm_lt, rd_wr_ne, own_wr_ne, mp_wr_ne, rd_wrm_ne, own_wrm_ne, mp_wrm_ne, rd_new_eq, own_new_eq, mp_newm_eq, decide_true]
    refine (dary_Depth_spec d2 1).mono ?_
    rintro _ _ ⟨rfl, rfl⟩
    have hlen : (⟨[false], List.replicate cap.toNat (0, 0, 0)⟩ : Nw).len 1 = 0 := by
      simp [Nw.len, List.countP_replicate]
    have hdep : depthF d 0 = 0 := by simp [depthF, upF]
    rw [hlen, hdep]
    simp (disch := (first | omega | (simp only [size_new, size_newm, size_wr, size_wrm] <;> omega) | fail)) only [go_sem, Nat.reduceBEq, Nat.reduceAdd, Nat.reduceMul, Nat.reduceLeDiff, ↓reduceIte, rd_new_lt, own_new_lt, mp_new_lt, rd_newm_lt, own_newm_lt, mp_newm_lt, rd_wr_ne, own_wr_ne, mp_wr_ne, rd_wrm_ne, own_wrm_ne, mp_wrm_ne, rd_new_eq, own_new_eq, mp_newm_eq, decide_true, rd_of_own o2]
    refine (cellsN_Steps_spec c2).mono ?_
    rintro _ _ ⟨rfl, rfl⟩
    simp (disch := (first | omega | (simp only [size_new, size_newm, size_wr, size_wrm] <;> omega) | fail)) only [go_sem, Nat.reduceBEq, Nat.reduceAdd, Nat.reduceMul, Nat.reduceLeDiff, ↓reduceIte, rd_new_lt, own_new_lt, mp_new_lt, rd_newm_lt, own_newm_lt, mp_newm_lt, rd_wr_ne, own_wr_ne, mp_wr_ne, rd_wrm_ne, own_wrm_ne, mp_wrm_ne, rd_new_eq, own_new_eq, mp_newm_eq, decide_true]
    exact ⟨rfl, f1.trans f2⟩

end Go.Proofs.Yteicchpglnamcaa
