/-
  The law CellsRuns answers true.
-/
import Derived.Test.YtkikanlkhkghcaaNest
import Derived.Test.YtkikanlkhkghcaaLooks
import Derived.Test.YtkikanlkhkghcaaCellsAlive
import Derived.Test.YtkikanlkhkghcaaArgs
set_option linter.unusedVariables false
set_option linter.unusedSimpArgs false
namespace Go.Proofs.Ytkikanlkhkghcaa
open Go Go.Vc

theorem cells_teller (c : Nat) (S : Nat → Prop) (st : Int) (w : Nw) : TellerS (.iface 23 (ptr c)) (fun H => CellsN H c S st w) S w where
  entry H i h := ⟨_, _, n_cells_Cells_Entry, ptr c, rfl, methR0 (by kernel_rfl), (cellsN_Entry_spec h i).mono fun v H' hp => ⟨hp.1, hp.2.1.mono fun _ _ h => h.elim, hp.2.2⟩⟩
  home H i h := ⟨_, _, n_cells_Cells_Home, ptr c, rfl, methR0 (by kernel_rfl), (cellsN_Home_spec h i).mono fun v H' hp => by
    rcases hp with ⟨h1, h2, rfl⟩ | ⟨h1, x, hx, h2, h3, h4⟩
    · exact ⟨h, Ext.refl _ _, .inl ⟨h1, h2⟩⟩
    · exact ⟨h3, h4, .inr ⟨h1, x, hx, h2⟩⟩⟩
  has H i h := ⟨_, _, n_cells_Cells_Has, ptr c, rfl, methR0 (by kernel_rfl), (cellsN_Has_spec h i).mono fun v H' hp => hp⟩
  len H i h := ⟨_, _, n_cells_Cells_Len, ptr c, rfl, methR0 (by kernel_rfl), (cellsN_Len_spec h i).mono fun v H' hp => hp⟩
  keep H H' V h e hd := h.ext e hd
  ult H h := h.slt

/-- Where a run stands: cells that hold w, the document's nest that holds w'. -/
structure RunC (Hh H : Hp) (c nb : Nat) (S A : Nat → Prop) (st : Int) (w w' : Nw) : Prop where
  cells : CellsN H c S st w
  nest : ∃ ha hc ca cc, H.own nb = some [.slice ha w'.hs.length hc, .slice ca w'.cs.length cc] ∧ NestR H (.agg [.slice ha w'.hs.length hc, .slice ca w'.cs.length cc].toArray) w' A
  fr : Fresh Hh H
  sb : ∀ x, S x → Hh.size ≤ x ∧ x ≠ nb ∧ ¬ A x
  ab : ∀ x, A x → x < H.size ∧ x ≠ nb
  nbb : Hh.size ≤ nb

theorem RunC.fresh {Hh H H' : Hp} {c nb : Nat} {S A : Nat → Prop} {st : Int} {w w' : Nw} (h : RunC Hh H c nb S A st w w') (e : Fresh H H') : RunC Hh H' c nb S A st w w' := by
  obtain ⟨ha, hc, ca, cc, h1, h2⟩ := h.nest
  exact ⟨h.cells.fresh e, ⟨ha, hc, ca, cc, e.own h1 (fun h => h), h2.fresh e⟩, h.fr.trans e, h.sb, fun x hx => ⟨Nat.lt_of_lt_of_le (h.ab x hx).1 e.size, (h.ab x hx).2⟩, h.nbb⟩

theorem RunC.put {Hh H H' : Hp} {c nb : Nat} {S A : Nat → Prop} {st : Int} {w w' w'' : Nw} (h : RunC Hh H c nb S A st w w') (f : Fresh H H') {ha hc ca cc} (n : NestR H' (.agg [.slice ha w''.hs.length hc, .slice ca w''.cs.length cc].toArray) w'' (Grow A H H')) :
    RunC Hh (H'.wr nb [.slice ha w''.hs.length hc, .slice ca w''.cs.length cc]) c nb S (Grow A H H') st w w'' ∧ Ext (fun z => z = nb) H (H'.wr nb [.slice ha w''.hs.length hc, .slice ca w''.cs.length cc]) := by
  obtain ⟨ha', hc', ca', cc', h1, h2⟩ := h.nest
  have h1' := f.own h1 (fun h => h)
  have hlt := own_lt h1
  have e : Ext (fun z => z = nb) H' (H'.wr nb [.slice ha w''.hs.length hc, .slice ca w''.cs.length cc]) := (Ext.refl (fun z => z = nb) _).wr (fun _ => rfl) _
  have hg : ∀ x, Grow A H H' x → x < H'.size ∧ x ≠ nb := fun x hx => by
    rcases hx with hx | hx
    · have := h.ab x hx; have := f.size; omega
    · omega
  refine ⟨⟨(h.cells.fresh f).ext e (fun x hx hz => (h.sb x hx).2.1 hz), ⟨ha, hc, ca, cc, own_wr_same h1', NestR.ext n e (fun b hb hz => (hg b hb).2 hz)⟩, (h.fr.trans f).then e (fun z hz => by rw [hz]; exact h.nbb), fun x hx => ?_, fun x hx => ⟨?_, (hg x hx).2⟩, h.nbb⟩, (f.mono fun _ _ h => h.elim).trans e⟩
  · refine ⟨(h.sb x hx).1, (h.sb x hx).2.1, fun hc => ?_⟩
    rcases hc with hc | hc
    · exact (h.sb x hx).2.2 hc
    · have := h.cells.slt x hx; omega
  · rw [size_wr]; exact (hg x hx).1

theorem RunC.op {Hh H H' : Hp} {c nb : Nat} {S S' A : Nat → Prop} {st st' : Int} {w w' w'' : Nw} (h : RunC Hh H c nb S A st w w') (k : CellsN H' c S' st' w'') (e : Ext S H H') (hS : ∀ x, S' x → S x ∨ H.size ≤ x) : RunC Hh H' c nb S' A st' w'' w' := by
  obtain ⟨ha, hc, ca, cc, h1, h2⟩ := h.nest
  have hlt := own_lt h1
  refine ⟨k, ⟨ha, hc, ca, cc, e.own h1 (fun hs => (h.sb nb hs).2.1 rfl), h2.ext e (fun b hb hs => (h.sb b hs).2.2 hb)⟩, h.fr.then e (fun z hz => (h.sb z hz).1), fun x hx => ?_, fun x hx => ⟨Nat.lt_of_lt_of_le (h.ab x hx).1 e.size, (h.ab x hx).2⟩, h.nbb⟩
  rcases hS x hx with hs | hs
  · exact h.sb x hs
  · have := h.fr.size
    exact ⟨by omega, by omega, fun ha => by have := (h.ab x ha).1; omega⟩

set_option maxHeartbeats 4000000 in
theorem law05_CellsRuns_args {Hh : Hp} {v0 v1 : Value} (h0 : fitA Hh (false, [.k (.i .u8)]) v0) (h1 : fitA Hh (false, [.sl [.i .i64, .i .i64, .i .i64, .i .i64, .i .u64]]) v1) :
    CallH Try.prog n_law05_CellsRuns [v0, v1] Hh fun v H' => Post (v = .bool true ∧ Fresh Hh H') := by
  obtain ⟨cap, rfl, hd0, hd1⟩ := fitA_u8 h0
  obtain ⟨rows, hrd, hrows, hmax⟩ := fitA_sl h1
  have hrlen : ∀ r ∈ rows, r.length = 5 := fun r hr => fitL_length (hrows r hr)
  generalize hn : rows.length = n at *
  have hrd : RdS Hh 5 v1 n rows.flatten := hrd
  obtain ⟨a, c, rfl⟩ : ∃ a c, v1 = .slice a n c := by
    obtain ⟨_, ⟨rfl, a, c, rfl⟩ | ⟨b, o, c, l, rfl, _⟩⟩ := hrd
    · exact ⟨_, _, rfl⟩
    · exact ⟨_, _, rfl⟩
  refine c_law05_CellsRuns ⟨rfl, ?_⟩
  simp (disch := (first | omega | (simp only [size_new, size_newm, size_wr, size_wrm] <;> omega) | fail)) only [go_sem, Nat.reduceBEq, Nat.reduceAdd, Nat.reduceMul, Nat.reduceLeDiff, ↓reduceIte, rd_new_lt, own_new_lt, mp_new_lt, rd_newm_lt, own_newm_lt, mp_newm_lt, rd_wr_ne, own_wr_ne, mp_wr_ne, rd_wrm_ne, own_wrm_ne, mp_wrm_ne, rd_new_eq, own_new_eq, mp_newm_eq, s_law05_CellsRuns]
  refine (law05_cellsAlive_spec Hh).mono ?_
  rintro _ H1 ⟨rfl, f1⟩
  simp (disch := (first | omega | (simp only [size_new, size_newm, size_wr, size_wrm] <;> omega) | fail)) only [go_sem, Nat.reduceBEq, Nat.reduceAdd, Nat.reduceMul, Nat.reduceLeDiff, ↓reduceIte, rd_new_lt, own_new_lt, mp_new_lt, rd_newm_lt, own_newm_lt, mp_newm_lt, rd_wr_ne, own_wr_ne, mp_wr_ne, rd_wrm_ne, own_wrm_ne, mp_wrm_ne, rd_new_eq, own_new_eq, mp_newm_eq]
  have hwc : IntKind.i64.wrap cap = cap := wrap64 (by omega) (by omega)
  have hkr : cap.tmod 30 = cap % 30 := Int.tmod_eq_emod_of_nonneg hd0
  have hk : 0 ≤ cap % 30 ∧ cap % 30 ≤ 29 := by omega
  simp (disch := (first | omega | (simp only [size_new, size_newm, size_wr, size_wrm] <;> omega) | fail)) only [go_sem, Nat.reduceBEq, Nat.reduceAdd, Nat.reduceMul, Nat.reduceLeDiff, ↓reduceIte, rd_new_lt, own_new_lt, mp_new_lt, rd_newm_lt, own_newm_lt, mp_newm_lt, rd_wr_ne, own_wr_ne, mp_wr_ne, rd_wrm_ne, own_wrm_ne, mp_wrm_ne, rd_new_eq, own_new_eq, mp_newm_eq, hwc, hkr, if_neg (show ¬ ((30 : Int) = 0) by decide)]
  generalize cap % 30 = k at *
  refine Both.dec (fun hl => ?_) (fun hl => ?_) <;> simp (disch := (first | omega | (simp only [size_new, size_newm, size_wr, size_wrm] <;> omega) | fail)) only [go_sem, Nat.reduceBEq, Nat.reduceAdd, Nat.reduceMul, Nat.reduceLeDiff, ↓reduceIte, rd_new_lt, own_new_lt, mp_new_lt, rd_newm_lt, own_newm_lt, mp_newm_lt, rd_wr_ne, own_wr_ne, mp_wr_ne, rd_wrm_ne, own_wrm_ne, mp_wrm_ne, rd_new_eq, own_new_eq, mp_newm_eq]
  · exact ⟨rfl, f1⟩
  refine (cellsN_New_spec k H1).mono ?_
  rintro nv H2 ⟨f2, ⟨hb, _⟩ | ⟨_, cb, S, rfl, c2, hS⟩⟩
  · exact absurd ⟨by omega, by omega⟩ hb
  simp (disch := (first | omega | (simp only [size_new, size_newm, size_wr, size_wrm] <;> omega) | fail)) only [go_sem, Nat.reduceBEq, Nat.reduceAdd, Nat.reduceMul, Nat.reduceLeDiff, ↓reduceIte, rd_new_lt, own_new_lt, mp_new_lt, rd_newm_lt, own_newm_lt, mp_newm_lt, rd_wr_ne, own_wr_ne, mp_wr_ne, rd_wrm_ne, own_wrm_ne, mp_wrm_ne, rd_new_eq, own_new_eq, mp_newm_eq]
  refine (ref05_New_spec k H2 (by omega)).mono ?_
  rintro wv H3 ⟨n3, f3⟩
  generalize (⟨[false], List.replicate k.toNat (0, 0, 0)⟩ : Nw) = w0 at *
  obtain ⟨ha, hc, ca, cc, rfl, g1, g2, g3, g4, a1, a2⟩ := id n3
  simp (disch := (first | omega | (simp only [size_new, size_newm, size_wr, size_wrm] <;> omega) | fail)) only [go_sem, Nat.reduceBEq, Nat.reduceAdd, Nat.reduceMul, Nat.reduceLeDiff, ↓reduceIte, rd_new_lt, own_new_lt, mp_new_lt, rd_newm_lt, own_newm_lt, mp_newm_lt, rd_wr_ne, own_wr_ne, mp_wr_ne, rd_wrm_ne, own_wrm_ne, mp_wrm_ne, rd_new_eq, own_new_eq, mp_newm_eq, Option.isNone_some, decide_true]
  have f4 : Fresh H3 ((H3.new 59 [.slice none 0 0, .slice none 0 0]).wr H3.size [.slice ha w0.hs.length hc, .slice ca w0.cs.length cc]) := ((Ext.refl _ _).new _ _).wr (fun h => absurd h (Nat.lt_irrefl _)) _
  have o4 : ((H3.new 59 [.slice none 0 0, .slice none 0 0]).wr H3.size [.slice ha w0.hs.length hc, .slice ca w0.cs.length cc]).own H3.size = some [.slice ha w0.hs.length hc, .slice ca w0.cs.length cc] := own_wr_same (own_new _ _ _)
  have z1 := f1.size
  have z2 := f2.size
  have z3 := f3.size
  have z4 := f4.size
  have st4 : RunC Hh ((H3.new 59 [.slice none 0 0, .slice none 0 0]).wr H3.size [.slice ha w0.hs.length hc, .slice ca w0.cs.length cc]) cb H3.size S (Grow (fun _ => False) H2 H3) 0 w0 w0 := by
    refine ⟨(c2.fresh f3).fresh f4, ⟨ha, hc, ca, cc, o4, n3.fresh f4⟩, ((f1.trans f2).trans f3).trans f4, fun x hx => ?_, fun x hx => ?_, by omega⟩
    · have h1 := hS x hx
      have h2 := c2.slt x hx
      refine ⟨by omega, by omega, fun hc => ?_⟩
      rcases hc with hc | hc
      · exact hc
      · omega
    · rcases hx with hx | hx
      · exact hx.elim
      · omega
  generalize (H3.new 59 [.slice none 0 0, .slice none 0 0]).wr H3.size [.slice ha w0.hs.length hc, .slice ca w0.cs.length cc] = H4 at *
  generalize H3.size = nb at *
  generalize Grow (fun _ => False) H2 H3 = A0 at *
  refine LoopV.intro (fun m env H => ∃ (i : Nat) (S A : Nat → Prop) (st : Int) (w : Nw),
    env = [(6, ptr cb), (8, ptr nb), (9, i64 st), (37, .slice a n c), (38, i64 n), (39, i64 i)] ∧ m = n - i ∧ i ≤ n ∧ RunC Hh H cb nb S A st w w ∧ 0 ≤ st ∧ st ≤ i) n
    ⟨0, S, A0, 0, w0, rfl, by omega, by omega, st4, by omega, by omega⟩ ?_
  clear st4 o4 f4
  rintro m env H ⟨i, S, A, t, w, rfl, rfl, hi, st, ht0, ht1⟩
  simp (disch := (first | omega | (simp only [size_new, size_newm, size_wr, size_wrm] <;> omega) | fail)) only [go_sem, Nat.reduceBEq, Nat.reduceAdd, Nat.reduceMul, Nat.reduceLeDiff, ↓reduceIte, rd_new_lt, own_new_lt, mp_new_lt, rd_newm_lt, own_newm_lt, mp_newm_lt, rd_wr_ne, own_wr_ne, mp_wr_ne, rd_wrm_ne, own_wrm_ne, mp_wrm_ne, rd_new_eq, own_new_eq, mp_newm_eq]
  refine Both.dec (fun hin => ?_) (fun hin => ?_) <;> simp (disch := (first | omega | (simp only [size_new, size_newm, size_wr, size_wrm] <;> omega) | fail)) only [go_sem, Nat.reduceBEq, Nat.reduceAdd, Nat.reduceMul, Nat.reduceLeDiff, ↓reduceIte, rd_new_lt, own_new_lt, mp_new_lt, rd_newm_lt, own_newm_lt, mp_newm_lt, rd_wr_ne, own_wr_ne, mp_wr_ne, rd_wrm_ne, own_wrm_ne, mp_wrm_ne, rd_new_eq, own_new_eq, mp_newm_eq]
  · obtain ⟨row, hrow⟩ : ∃ row, rows[i]? = some row := ⟨_, List.getElem?_eq_getElem (by omega)⟩
    obtain ⟨_, _, rfl, ⟨kind, rfl, hk1⟩, _, _, rfl, ⟨h, rfl, hh1⟩, _, _, rfl, ⟨x, rfl, hx1⟩, _, _, rfl, ⟨key, rfl, hkey1⟩, _, _, rfl, ⟨sq, rfl, hsq1⟩, rfl⟩ := hrows row (List.mem_of_getElem? hrow)
    obtain ⟨ab, ao, al, rfl, ar1, ar2, ar3, ar4⟩ := RdS.row (hrd.fresh st.fr) (by omega) hrlen hrow
    refine ⟨by omega, ?_⟩
    simp (disch := (first | omega | (simp only [size_new, size_newm, size_wr, size_wrm] <;> omega) | fail)) only [go_sem, Nat.reduceBEq, Nat.reduceAdd, Nat.reduceMul, Nat.reduceLeDiff, ↓reduceIte, rd_new_lt, own_new_lt, mp_new_lt, rd_newm_lt, own_newm_lt, mp_newm_lt, rd_wr_ne, own_wr_ne, mp_wr_ne, rd_wrm_ne, own_wrm_ne, mp_wrm_ne, rd_new_eq, own_new_eq, mp_newm_eq, ar1, Int.toNat_natCast]
    refine ⟨by omega, ?_⟩
    simp (disch := (first | omega | (simp only [size_new, size_newm, size_wr, size_wrm] <;> omega) | fail)) only [go_sem, Nat.reduceBEq, Nat.reduceAdd, Nat.reduceMul, Nat.reduceLeDiff, ↓reduceIte, rd_new_lt, own_new_lt, mp_new_lt, rd_newm_lt, own_newm_lt, mp_newm_lt, rd_wr_ne, own_wr_ne, mp_wr_ne, rd_wrm_ne, own_wrm_ne, mp_wrm_ne, rd_new_eq, own_new_eq, mp_newm_eq, ar4]
    have e5 : Fresh H ((H.new 62 [.int .i64 0, .int .i64 0, .int .i64 0, .int .i64 0, .int .u64 0]).wr H.size [i64 kind, i64 h, i64 x, i64 key, u64 sq]) := ((Ext.refl _ _).new _ _).wr (fun h => absurd h (Nat.lt_irrefl _)) _
    have st5 := st.fresh e5
    have bx : ((H.new 62 [.int .i64 0, .int .i64 0, .int .i64 0, .int .i64 0, .int .u64 0]).wr H.size [i64 kind, i64 h, i64 x, i64 key, u64 sq]).own H.size = some [i64 kind, i64 h, i64 x, i64 key, u64 sq] := own_wr_same (own_new _ _ _)
    have hSx : ∀ z, S z → z < H.size := st.cells.slt
    have hnx : nb < H.size := by obtain ⟨_, _, _, _, o, _⟩ := st.nest; exact own_lt o
    generalize (H.new 62 [.int .i64 0, .int .i64 0, .int .i64 0, .int .i64 0, .int .u64 0]).wr H.size [i64 kind, i64 h, i64 x, i64 key, u64 sq] = H5 at *
    generalize H.size = ab1 at *
    have hne : ab1 ≠ nb := by omega
    have hnS : ¬ S ab1 := fun h => by have := hSx _ h; omega
    have fin : ∀ {H6 H7 : Hp} {A6 S7 : Nat → Prop} {t7 : Int} {w6 w7 : Nw}, RunC Hh H6 cb nb S A6 t w w6 → H6.own ab1 = some [i64 kind, i64 h, i64 x, i64 key, u64 sq] → CellsN H7 cb S7 t7 w7 → Ext S H6 H7 → (∀ x, S7 x → S x ∨ H6.size ≤ x) →
        RunC Hh H7 cb nb S7 A6 t7 w7 w6 ∧ H7.own ab1 = some [i64 kind, i64 h, i64 x, i64 key, u64 sq] := fun s6 b6 c7 e7 hs => ⟨s6.op c7 e7 hs, e7.own b6 hnS⟩
    obtain ⟨ha5, hc5, ca5, cc5, o5, n5⟩ := st5.nest
    refine vc_cut (fun e H' => e.find 6 = some (ptr cb) ∧ e.find 8 = some (ptr nb) ∧ e.find 11 = some (ptr ab1) ∧ e.find 37 = some (.slice (some ⟨ab, ao, none⟩) n c) ∧ e.find 38 = some (i64 n) ∧ e.find 39 = some (i64 i) ∧
      ∃ (S' A' : Nat → Prop) (t' : Int) (w' : Nw) (b : Bool), e.find 9 = some (i64 t') ∧ e.find 12 = some (.bool b) ∧ e.find 13 = some (.bool b) ∧ RunC Hh H' cb nb S' A' t' w' w' ∧ H'.own ab1 = some [i64 kind, i64 h, i64 x, i64 key, u64 sq] ∧ 0 ≤ t' ∧ t' ≤ i + 1) ?_ ?_
    · simp (disch := (first | omega | (simp only [size_new, size_newm, size_wr, size_wrm] <;> omega) | fail)) only [go_sem, Nat.reduceBEq, Nat.reduceAdd, Nat.reduceMul, Nat.reduceLeDiff, ↓reduceIte, rd_new_lt, own_new_lt, mp_new_lt, rd_newm_lt, own_newm_lt, mp_newm_lt, rd_wr_ne, own_wr_ne, mp_wr_ne, rd_wrm_ne, own_wrm_ne, mp_wrm_ne, rd_new_eq, own_new_eq, mp_newm_eq, rd_of_own bx]
      refine Both.dec (fun hk0 => ?_) (fun hk0 => ?_) <;> simp (disch := (first | omega | (simp only [size_new, size_newm, size_wr, size_wrm] <;> omega) | fail)) only [go_sem, Nat.reduceBEq, Nat.reduceAdd, Nat.reduceMul, Nat.reduceLeDiff, ↓reduceIte, rd_new_lt, own_new_lt, mp_new_lt, rd_newm_lt, own_newm_lt, mp_newm_lt, rd_wr_ne, own_wr_ne, mp_wr_ne, rd_wrm_ne, own_wrm_ne, mp_wrm_ne, rd_new_eq, own_new_eq, mp_newm_eq, rd_of_own o5]
      · refine (ref05_Make_spec n5 (fun b hb => (st5.ab b hb).1)).mono ?_
        rintro _ H6 ⟨f6, hm⟩
        have o6 := f6.own o5 (fun h => h)
        rcases hm with ⟨hm, v', rfl, n6⟩ | ⟨hm, v', rfl, n6⟩
        · obtain ⟨ha6, hc6, ca6, cc6, rfl, -⟩ := id n6
          simp (disch := (first | omega | (simp only [size_new, size_newm, size_wr, size_wrm] <;> omega) | fail)) only [go_sem, Nat.reduceBEq, Nat.reduceAdd, Nat.reduceMul, Nat.reduceLeDiff, ↓reduceIte, rd_new_lt, own_new_lt, mp_new_lt, rd_newm_lt, own_newm_lt, mp_newm_lt, rd_wr_ne, own_wr_ne, mp_wr_ne, rd_wrm_ne, own_wrm_ne, mp_wrm_ne, rd_new_eq, own_new_eq, mp_newm_eq]
          have f7 : Fresh H6 ((H6.new 59 [.slice none 0 0, .slice none 0 0]).wr H6.size [.slice ha6 w.hs.length hc6, .slice ca6 w.cs.length cc6]) := ((Ext.refl _ _).new _ _).wr (fun h => absurd h (Nat.lt_irrefl _)) _
          have b7 : ((H6.new 59 [.slice none 0 0, .slice none 0 0]).wr H6.size [.slice ha6 w.hs.length hc6, .slice ca6 w.cs.length cc6]).own H6.size = some [.slice ha6 w.hs.length hc6, .slice ca6 w.cs.length cc6] := own_wr_same (own_new _ _ _)
          have o7 := f7.own o6 (fun h => h)
          have z7 := f7.size
          have n7 := (n6.fresh f7).mono (B := Grow A H5 ((H6.new 59 [.slice none 0 0, .slice none 0 0]).wr H6.size [.slice ha6 w.hs.length hc6, .slice ca6 w.cs.length cc6])) (fun b hb => by
            rcases hb with hb | hb
            · exact .inl hb
            · exact .inr ⟨hb.1, by omega⟩)
          simp (disch := (first | omega | (simp only [size_new, size_newm, size_wr, size_wrm] <;> omega) | fail)) only [go_sem, Nat.reduceBEq, Nat.reduceAdd, Nat.reduceMul, Nat.reduceLeDiff, ↓reduceIte, rd_new_lt, own_new_lt, mp_new_lt, rd_newm_lt, own_newm_lt, mp_newm_lt, rd_wr_ne, own_wr_ne, mp_wr_ne, rd_wrm_ne, own_wrm_ne, mp_wrm_ne, rd_new_eq, own_new_eq, mp_newm_eq, rd_of_own b7, o7]
          obtain ⟨st7, e7⟩ := st5.put (f6.trans f7) n7
          have b8 := e7.own bx hne
          refine (cellsN_Make_spec st7.cells).mono ?_
          rintro _ H9 (⟨h9, rfl, rfl⟩ | ⟨h9, _⟩)
          · simp (disch := (first | omega | (simp only [size_new, size_newm, size_wr, size_wrm] <;> omega) | fail)) only [go_sem, Nat.reduceBEq, Nat.reduceAdd, Nat.reduceMul, Nat.reduceLeDiff, ↓reduceIte, rd_new_lt, own_new_lt, mp_new_lt, rd_newm_lt, own_newm_lt, mp_newm_lt, rd_wr_ne, own_wr_ne, mp_wr_ne, rd_wrm_ne, own_wrm_ne, mp_wrm_ne, rd_new_eq, own_new_eq, mp_newm_eq]
            have hfin := fin st7 b8 st7.cells (Ext.refl _ _) (fun _ h => .inl h)
            exact ⟨trivial, trivial, trivial, trivial, trivial, trivial, _, _, _, _, true, rfl, congrArg (fun b => some (Value.bool b)) (decide_eq_true trivial), rfl, hfin.1, by first | exact hfin.2 | exact (f6.trans f7).own bx (fun h => h), by omega, by omega⟩
          · exact absurd hm h9
        · obtain ⟨ha6, hc6, ca6, cc6, rfl, -⟩ := id n6
          simp (disch := (first | omega | (simp only [size_new, size_newm, size_wr, size_wrm] <;> omega) | fail)) only [go_sem, Nat.reduceBEq, Nat.reduceAdd, Nat.reduceMul, Nat.reduceLeDiff, ↓reduceIte, rd_new_lt, own_new_lt, mp_new_lt, rd_newm_lt, own_newm_lt, mp_newm_lt, rd_wr_ne, own_wr_ne, mp_wr_ne, rd_wrm_ne, own_wrm_ne, mp_wrm_ne, rd_new_eq, own_new_eq, mp_newm_eq]
          have f7 : Fresh H6 ((H6.new 59 [.slice none 0 0, .slice none 0 0]).wr H6.size [.slice ha6 w.make.hs.length hc6, .slice ca6 w.make.cs.length cc6]) := ((Ext.refl _ _).new _ _).wr (fun h => absurd h (Nat.lt_irrefl _)) _
          have b7 : ((H6.new 59 [.slice none 0 0, .slice none 0 0]).wr H6.size [.slice ha6 w.make.hs.length hc6, .slice ca6 w.make.cs.length cc6]).own H6.size = some [.slice ha6 w.make.hs.length hc6, .slice ca6 w.make.cs.length cc6] := own_wr_same (own_new _ _ _)
          have o7 := f7.own o6 (fun h => h)
          have z7 := f7.size
          have n7 := (n6.fresh f7).mono (B := Grow A H5 ((H6.new 59 [.slice none 0 0, .slice none 0 0]).wr H6.size [.slice ha6 w.make.hs.length hc6, .slice ca6 w.make.cs.length cc6])) (fun b hb => by
            rcases hb with hb | hb
            · exact .inl hb
            · exact .inr ⟨hb.1, by omega⟩)
          simp (disch := (first | omega | (simp only [size_new, size_newm, size_wr, size_wrm] <;> omega) | fail)) only [go_sem, Nat.reduceBEq, Nat.reduceAdd, Nat.reduceMul, Nat.reduceLeDiff, ↓reduceIte, rd_new_lt, own_new_lt, mp_new_lt, rd_newm_lt, own_newm_lt, mp_newm_lt, rd_wr_ne, own_wr_ne, mp_wr_ne, rd_wrm_ne, own_wrm_ne, mp_wrm_ne, rd_new_eq, own_new_eq, mp_newm_eq, rd_of_own b7, o7]
          obtain ⟨st7, e7⟩ := st5.put (f6.trans f7) n7
          have b8 := e7.own bx hne
          refine (cellsN_Make_spec st7.cells).mono ?_
          rintro _ H9 (⟨h9, rfl, rfl⟩ | ⟨h9, rfl, S9, c9, e9, hs9⟩)
          · exact absurd h9 hm
          · simp (disch := (first | omega | (simp only [size_new, size_newm, size_wr, size_wrm] <;> omega) | fail)) only [go_sem, Nat.reduceBEq, Nat.reduceAdd, Nat.reduceMul, Nat.reduceLeDiff, ↓reduceIte, rd_new_lt, own_new_lt, mp_new_lt, rd_newm_lt, own_newm_lt, mp_newm_lt, rd_wr_ne, own_wr_ne, mp_wr_ne, rd_wrm_ne, own_wrm_ne, mp_wrm_ne, rd_new_eq, own_new_eq, mp_newm_eq]
            have hfin := fin st7 b8 c9 e9 hs9
            exact ⟨trivial, trivial, trivial, trivial, trivial, trivial, _, _, _, _, true, rfl, congrArg (fun b => some (Value.bool b)) (decide_eq_true trivial), rfl, hfin.1, by first | exact hfin.2 | exact (f6.trans f7).own bx (fun h => h), by omega, by omega⟩
      · refine vc_cut (fun e H' => e = [(6, ptr cb), (8, ptr nb), (9, i64 t), (11, ptr ab1), (37, .slice (some ⟨ab, ao, none⟩) n c), (38, i64 n), (39, i64 i), (44, i64 kind), (81, .bool (decide (kind = 1 ∨ kind = 2)))] ∧ H' = H5) ?_ ?_
        · simp (disch := (first | omega | (simp only [size_new, size_newm, size_wr, size_wrm] <;> omega) | fail)) only [go_sem, Nat.reduceBEq, Nat.reduceAdd, Nat.reduceMul, Nat.reduceLeDiff, ↓reduceIte, rd_new_lt, own_new_lt, mp_new_lt, rd_newm_lt, own_newm_lt, mp_newm_lt, rd_wr_ne, own_wr_ne, mp_wr_ne, rd_wrm_ne, own_wrm_ne, mp_wrm_ne, rd_new_eq, own_new_eq, mp_newm_eq]
          refine Both.dec (fun hka => ?_) (fun hka => ?_) <;> simp (disch := (first | omega | (simp only [size_new, size_newm, size_wr, size_wrm] <;> omega) | fail)) only [go_sem, Nat.reduceBEq, Nat.reduceAdd, Nat.reduceMul, Nat.reduceLeDiff, ↓reduceIte, rd_new_lt, own_new_lt, mp_new_lt, rd_newm_lt, own_newm_lt, mp_newm_lt, rd_wr_ne, own_wr_ne, mp_wr_ne, rd_wrm_ne, own_wrm_ne, mp_wrm_ne, rd_new_eq, own_new_eq, mp_newm_eq]
          · simp [hka]
          · simp [hka]
        rintro _ H' ⟨rfl, hH⟩
        obtain rfl := hH.symm
        simp (disch := (first | omega | (simp only [size_new, size_newm, size_wr, size_wrm] <;> omega) | fail)) only [go_sem, Nat.reduceBEq, Nat.reduceAdd, Nat.reduceMul, Nat.reduceLeDiff, ↓reduceIte, rd_new_lt, own_new_lt, mp_new_lt, rd_newm_lt, own_newm_lt, mp_newm_lt, rd_wr_ne, own_wr_ne, mp_wr_ne, rd_wrm_ne, own_wrm_ne, mp_wrm_ne, rd_new_eq, own_new_eq, mp_newm_eq]
        refine Both.dec (fun hk1 => ?_) (fun hk1 => ?_)
        · simp (disch := (first | omega | (simp only [size_new, size_newm, size_wr, size_wrm] <;> omega) | fail)) only [go_sem, Nat.reduceBEq, Nat.reduceAdd, Nat.reduceMul, Nat.reduceLeDiff, ↓reduceIte, rd_new_lt, own_new_lt, mp_new_lt, rd_newm_lt, own_newm_lt, mp_newm_lt, rd_wr_ne, own_wr_ne, mp_wr_ne, rd_wrm_ne, own_wrm_ne, mp_wrm_ne, rd_new_eq, own_new_eq, mp_newm_eq, rd_of_own o5, rd_of_own bx]
          refine (ref05_Put_spec n5 (fun b hb => (st5.ab b hb).1) h x key sq).mono ?_
          rintro _ H6 ⟨f6, hm⟩
          have o6 := f6.own o5 (fun h => h)
          have b6 := f6.own bx (fun h => h)
          rcases hm with ⟨hm, v', rfl, n6⟩ | ⟨hm, v', rfl, n6⟩
          · obtain ⟨ha6, hc6, ca6, cc6, rfl, -⟩ := id n6
            simp (disch := (first | omega | (simp only [size_new, size_newm, size_wr, size_wrm] <;> omega) | fail)) only [go_sem, Nat.reduceBEq, Nat.reduceAdd, Nat.reduceMul, Nat.reduceLeDiff, ↓reduceIte, rd_new_lt, own_new_lt, mp_new_lt, rd_newm_lt, own_newm_lt, mp_newm_lt, rd_wr_ne, own_wr_ne, mp_wr_ne, rd_wrm_ne, own_wrm_ne, mp_wrm_ne, rd_new_eq, own_new_eq, mp_newm_eq, o6, rd_of_own b6]
            obtain ⟨st7, e7⟩ := st5.put f6 n6
            have b8 := e7.own bx hne
            refine (cellsN_Put_spec st7.cells h x key sq).mono ?_
            rintro _ H9 (⟨h9, rfl, c9, e9⟩ | ⟨h9, rfl, c9, e9⟩)
            · simp (disch := (first | omega | (simp only [size_new, size_newm, size_wr, size_wrm] <;> omega) | fail)) only [go_sem, Nat.reduceBEq, Nat.reduceAdd, Nat.reduceMul, Nat.reduceLeDiff, ↓reduceIte, rd_new_lt, own_new_lt, mp_new_lt, rd_newm_lt, own_newm_lt, mp_newm_lt, rd_wr_ne, own_wr_ne, mp_wr_ne, rd_wrm_ne, own_wrm_ne, mp_wrm_ne, rd_new_eq, own_new_eq, mp_newm_eq]
              have hfin := fin st7 b8 c9 e9 (fun _ h => .inl h)
              exact ⟨trivial, trivial, trivial, trivial, trivial, trivial, _, _, _, _, false, rfl, rfl, rfl, hfin.1, by first | exact hfin.2 | exact b6, by omega, by omega⟩
            · exact absurd h9 hm
          · obtain ⟨ha6, hc6, ca6, cc6, rfl, -⟩ := id n6
            simp (disch := (first | omega | (simp only [size_new, size_newm, size_wr, size_wrm] <;> omega) | fail)) only [go_sem, Nat.reduceBEq, Nat.reduceAdd, Nat.reduceMul, Nat.reduceLeDiff, ↓reduceIte, rd_new_lt, own_new_lt, mp_new_lt, rd_newm_lt, own_newm_lt, mp_newm_lt, rd_wr_ne, own_wr_ne, mp_wr_ne, rd_wrm_ne, own_wrm_ne, mp_wrm_ne, rd_new_eq, own_new_eq, mp_newm_eq, o6, rd_of_own b6]
            obtain ⟨st7, e7⟩ := st5.put f6 n6
            have b8 := e7.own bx hne
            refine (cellsN_Put_spec st7.cells h x key sq).mono ?_
            rintro _ H9 (⟨h9, rfl, c9, e9⟩ | ⟨h9, rfl, c9, e9⟩)
            · exact absurd hm h9
            · simp (disch := (first | omega | (simp only [size_new, size_newm, size_wr, size_wrm] <;> omega) | fail)) only [go_sem, Nat.reduceBEq, Nat.reduceAdd, Nat.reduceMul, Nat.reduceLeDiff, ↓reduceIte, rd_new_lt, own_new_lt, mp_new_lt, rd_newm_lt, own_newm_lt, mp_newm_lt, rd_wr_ne, own_wr_ne, mp_wr_ne, rd_wrm_ne, own_wrm_ne, mp_wrm_ne, rd_new_eq, own_new_eq, mp_newm_eq]
              have hfin := fin st7 b8 c9 e9 (fun _ h => .inl h)
              exact ⟨trivial, trivial, trivial, trivial, trivial, trivial, _, _, _, _, true, rfl, rfl, rfl, hfin.1, by first | exact hfin.2 | exact b6, by omega, by omega⟩
        simp (disch := (first | omega | (simp only [size_new, size_newm, size_wr, size_wrm] <;> omega) | fail)) only [go_sem, Nat.reduceBEq, Nat.reduceAdd, Nat.reduceMul, Nat.reduceLeDiff, ↓reduceIte, rd_new_lt, own_new_lt, mp_new_lt, rd_newm_lt, own_newm_lt, mp_newm_lt, rd_wr_ne, own_wr_ne, mp_wr_ne, rd_wrm_ne, own_wrm_ne, mp_wrm_ne, rd_new_eq, own_new_eq, mp_newm_eq]
        refine vc_cut (fun e H' => e = [(6, ptr cb), (8, ptr nb), (9, i64 t), (11, ptr ab1), (37, .slice (some ⟨ab, ao, none⟩) n c), (38, i64 n), (39, i64 i), (44, i64 kind), (103, .bool (decide (kind = 3 ∨ kind = 4)))] ∧ H' = H5) ?_ ?_
        · simp (disch := (first | omega | (simp only [size_new, size_newm, size_wr, size_wrm] <;> omega) | fail)) only [go_sem, Nat.reduceBEq, Nat.reduceAdd, Nat.reduceMul, Nat.reduceLeDiff, ↓reduceIte, rd_new_lt, own_new_lt, mp_new_lt, rd_newm_lt, own_newm_lt, mp_newm_lt, rd_wr_ne, own_wr_ne, mp_wr_ne, rd_wrm_ne, own_wrm_ne, mp_wrm_ne, rd_new_eq, own_new_eq, mp_newm_eq]
          refine Both.dec (fun hka => ?_) (fun hka => ?_) <;> simp (disch := (first | omega | (simp only [size_new, size_newm, size_wr, size_wrm] <;> omega) | fail)) only [go_sem, Nat.reduceBEq, Nat.reduceAdd, Nat.reduceMul, Nat.reduceLeDiff, ↓reduceIte, rd_new_lt, own_new_lt, mp_new_lt, rd_newm_lt, own_newm_lt, mp_newm_lt, rd_wr_ne, own_wr_ne, mp_wr_ne, rd_wrm_ne, own_wrm_ne, mp_wrm_ne, rd_new_eq, own_new_eq, mp_newm_eq]
          · simp [hka]
          · simp [hka]
        rintro _ H' ⟨rfl, hH⟩
        obtain rfl := hH.symm
        simp (disch := (first | omega | (simp only [size_new, size_newm, size_wr, size_wrm] <;> omega) | fail)) only [go_sem, Nat.reduceBEq, Nat.reduceAdd, Nat.reduceMul, Nat.reduceLeDiff, ↓reduceIte, rd_new_lt, own_new_lt, mp_new_lt, rd_newm_lt, own_newm_lt, mp_newm_lt, rd_wr_ne, own_wr_ne, mp_wr_ne, rd_wrm_ne, own_wrm_ne, mp_wrm_ne, rd_new_eq, own_new_eq, mp_newm_eq]
        refine Both.dec (fun hk2 => ?_) (fun hk2 => ?_)
        · simp (disch := (first | omega | (simp only [size_new, size_newm, size_wr, size_wrm] <;> omega) | fail)) only [go_sem, Nat.reduceBEq, Nat.reduceAdd, Nat.reduceMul, Nat.reduceLeDiff, ↓reduceIte, rd_new_lt, own_new_lt, mp_new_lt, rd_newm_lt, own_newm_lt, mp_newm_lt, rd_wr_ne, own_wr_ne, mp_wr_ne, rd_wrm_ne, own_wrm_ne, mp_wrm_ne, rd_new_eq, own_new_eq, mp_newm_eq, rd_of_own o5, rd_of_own bx]
          refine (ref05_Lower_spec n5 (fun b hb => (st5.ab b hb).1) x key sq).mono ?_
          rintro _ H6 ⟨f6, hm⟩
          have o6 := f6.own o5 (fun h => h)
          have b6 := f6.own bx (fun h => h)
          rcases hm with ⟨hm, v', rfl, n6⟩ | ⟨hm, y0, hy0, hl0, v', rfl, n6⟩
          · obtain ⟨ha6, hc6, ca6, cc6, rfl, -⟩ := id n6
            simp (disch := (first | omega | (simp only [size_new, size_newm, size_wr, size_wrm] <;> omega) | fail)) only [go_sem, Nat.reduceBEq, Nat.reduceAdd, Nat.reduceMul, Nat.reduceLeDiff, ↓reduceIte, rd_new_lt, own_new_lt, mp_new_lt, rd_newm_lt, own_newm_lt, mp_newm_lt, rd_wr_ne, own_wr_ne, mp_wr_ne, rd_wrm_ne, own_wrm_ne, mp_wrm_ne, rd_new_eq, own_new_eq, mp_newm_eq, o6, rd_of_own b6]
            obtain ⟨st7, e7⟩ := st5.put f6 n6
            have b8 := e7.own bx hne
            refine (cellsN_Lower_spec st7.cells x key sq).mono ?_
            rintro _ H9 (⟨h9, rfl, c9, e9⟩ | ⟨h9, rfl, y, hy, hl9, c9, e9⟩)
            · simp (disch := (first | omega | (simp only [size_new, size_newm, size_wr, size_wrm] <;> omega) | fail)) only [go_sem, Nat.reduceBEq, Nat.reduceAdd, Nat.reduceMul, Nat.reduceLeDiff, ↓reduceIte, rd_new_lt, own_new_lt, mp_new_lt, rd_newm_lt, own_newm_lt, mp_newm_lt, rd_wr_ne, own_wr_ne, mp_wr_ne, rd_wrm_ne, own_wrm_ne, mp_wrm_ne, rd_new_eq, own_new_eq, mp_newm_eq]
              have hfin := fin st7 b8 c9 (e9.mono fun _ _ h => h.elim) (fun _ h => .inl h)
              exact ⟨trivial, trivial, trivial, trivial, trivial, trivial, _, _, _, _, false, rfl, rfl, rfl, hfin.1, by first | exact hfin.2 | exact b6, by omega, by omega⟩
            · exact absurd ⟨h9, fun z hz => by rw [hy] at hz; injection hz with hz; rw [← hz]; exact hl9⟩ hm
          · obtain ⟨ha6, hc6, ca6, cc6, rfl, -⟩ := id n6
            simp (disch := (first | omega | (simp only [size_new, size_newm, size_wr, size_wrm] <;> omega) | fail)) only [go_sem, Nat.reduceBEq, Nat.reduceAdd, Nat.reduceMul, Nat.reduceLeDiff, ↓reduceIte, rd_new_lt, own_new_lt, mp_new_lt, rd_newm_lt, own_newm_lt, mp_newm_lt, rd_wr_ne, own_wr_ne, mp_wr_ne, rd_wrm_ne, own_wrm_ne, mp_wrm_ne, rd_new_eq, own_new_eq, mp_newm_eq, o6, rd_of_own b6]
            obtain ⟨st7, e7⟩ := st5.put f6 n6
            have b8 := e7.own bx hne
            refine (cellsN_Lower_spec st7.cells x key sq).mono ?_
            rintro _ H9 (⟨h9, rfl, c9, e9⟩ | ⟨h9, rfl, y, hy, hl9, c9, e9⟩)
            · exact absurd ⟨hm, fun z hz => by rw [hy0] at hz; injection hz with hz; rw [← hz]; exact hl0⟩ h9
            · rw [hy0] at hy
              injection hy with hy
              subst hy
              simp (disch := (first | omega | (simp only [size_new, size_newm, size_wr, size_wrm] <;> omega) | fail)) only [go_sem, Nat.reduceBEq, Nat.reduceAdd, Nat.reduceMul, Nat.reduceLeDiff, ↓reduceIte, rd_new_lt, own_new_lt, mp_new_lt, rd_newm_lt, own_newm_lt, mp_newm_lt, rd_wr_ne, own_wr_ne, mp_wr_ne, rd_wrm_ne, own_wrm_ne, mp_wrm_ne, rd_new_eq, own_new_eq, mp_newm_eq]
              have hfin := fin st7 b8 c9 e9 (fun _ h => .inl h)
              exact ⟨trivial, trivial, trivial, trivial, trivial, trivial, _, _, _, _, true, rfl, rfl, rfl, hfin.1, by first | exact hfin.2 | exact b6, by omega, by omega⟩
        simp (disch := (first | omega | (simp only [size_new, size_newm, size_wr, size_wrm] <;> omega) | fail)) only [go_sem, Nat.reduceBEq, Nat.reduceAdd, Nat.reduceMul, Nat.reduceLeDiff, ↓reduceIte, rd_new_lt, own_new_lt, mp_new_lt, rd_newm_lt, own_newm_lt, mp_newm_lt, rd_wr_ne, own_wr_ne, mp_wr_ne, rd_wrm_ne, own_wrm_ne, mp_wrm_ne, rd_new_eq, own_new_eq, mp_newm_eq]
        refine Both.dec (fun hk3 => ?_) (fun hk3 => ?_)
        · simp (disch := (first | omega | (simp only [size_new, size_newm, size_wr, size_wrm] <;> omega) | fail)) only [go_sem, Nat.reduceBEq, Nat.reduceAdd, Nat.reduceMul, Nat.reduceLeDiff, ↓reduceIte, rd_new_lt, own_new_lt, mp_new_lt, rd_newm_lt, own_newm_lt, mp_newm_lt, rd_wr_ne, own_wr_ne, mp_wr_ne, rd_wrm_ne, own_wrm_ne, mp_wrm_ne, rd_new_eq, own_new_eq, mp_newm_eq, rd_of_own o5, rd_of_own bx]
          refine (ref05_Drop_spec n5 (fun b hb => (st5.ab b hb).1) x).mono ?_
          rintro _ H6 ⟨f6, hm⟩
          have o6 := f6.own o5 (fun h => h)
          have b6 := f6.own bx (fun h => h)
          rcases hm with ⟨hm, v', rfl, n6⟩ | ⟨hm, v', rfl, n6⟩
          · obtain ⟨ha6, hc6, ca6, cc6, rfl, -⟩ := id n6
            simp (disch := (first | omega | (simp only [size_new, size_newm, size_wr, size_wrm] <;> omega) | fail)) only [go_sem, Nat.reduceBEq, Nat.reduceAdd, Nat.reduceMul, Nat.reduceLeDiff, ↓reduceIte, rd_new_lt, own_new_lt, mp_new_lt, rd_newm_lt, own_newm_lt, mp_newm_lt, rd_wr_ne, own_wr_ne, mp_wr_ne, rd_wrm_ne, own_wrm_ne, mp_wrm_ne, rd_new_eq, own_new_eq, mp_newm_eq, o6, rd_of_own b6]
            obtain ⟨st7, e7⟩ := st5.put f6 n6
            have b8 := e7.own bx hne
            refine (cellsN_Drop_spec st7.cells x).mono ?_
            rintro _ H9 (⟨h9, rfl, rfl⟩ | ⟨h9, rfl, c9, e9⟩)
            · simp (disch := (first | omega | (simp only [size_new, size_newm, size_wr, size_wrm] <;> omega) | fail)) only [go_sem, Nat.reduceBEq, Nat.reduceAdd, Nat.reduceMul, Nat.reduceLeDiff, ↓reduceIte, rd_new_lt, own_new_lt, mp_new_lt, rd_newm_lt, own_newm_lt, mp_newm_lt, rd_wr_ne, own_wr_ne, mp_wr_ne, rd_wrm_ne, own_wrm_ne, mp_wrm_ne, rd_new_eq, own_new_eq, mp_newm_eq]
              have hfin := fin st7 b8 st7.cells (Ext.refl _ _) (fun _ h => .inl h)
              exact ⟨trivial, trivial, trivial, trivial, trivial, trivial, _, _, _, _, false, rfl, rfl, rfl, hfin.1, by first | exact hfin.2 | exact b6, by omega, by omega⟩
            · exact absurd h9 hm
          · obtain ⟨ha6, hc6, ca6, cc6, rfl, -⟩ := id n6
            simp (disch := (first | omega | (simp only [size_new, size_newm, size_wr, size_wrm] <;> omega) | fail)) only [go_sem, Nat.reduceBEq, Nat.reduceAdd, Nat.reduceMul, Nat.reduceLeDiff, ↓reduceIte, rd_new_lt, own_new_lt, mp_new_lt, rd_newm_lt, own_newm_lt, mp_newm_lt, rd_wr_ne, own_wr_ne, mp_wr_ne, rd_wrm_ne, own_wrm_ne, mp_wrm_ne, rd_new_eq, own_new_eq, mp_newm_eq, o6, rd_of_own b6]
            obtain ⟨st7, e7⟩ := st5.put f6 n6
            have b8 := e7.own bx hne
            refine (cellsN_Drop_spec st7.cells x).mono ?_
            rintro _ H9 (⟨h9, rfl, rfl⟩ | ⟨h9, rfl, c9, e9⟩)
            · exact absurd hm h9
            · simp (disch := (first | omega | (simp only [size_new, size_newm, size_wr, size_wrm] <;> omega) | fail)) only [go_sem, Nat.reduceBEq, Nat.reduceAdd, Nat.reduceMul, Nat.reduceLeDiff, ↓reduceIte, rd_new_lt, own_new_lt, mp_new_lt, rd_newm_lt, own_newm_lt, mp_newm_lt, rd_wr_ne, own_wr_ne, mp_wr_ne, rd_wrm_ne, own_wrm_ne, mp_wrm_ne, rd_new_eq, own_new_eq, mp_newm_eq]
              have hfin := fin st7 b8 c9 e9 (fun _ h => .inl h)
              exact ⟨trivial, trivial, trivial, trivial, trivial, trivial, _, _, _, _, true, rfl, rfl, rfl, hfin.1, by first | exact hfin.2 | exact b6, by omega, by omega⟩
        simp (disch := (first | omega | (simp only [size_new, size_newm, size_wr, size_wrm] <;> omega) | fail)) only [go_sem, Nat.reduceBEq, Nat.reduceAdd, Nat.reduceMul, Nat.reduceLeDiff, ↓reduceIte, rd_new_lt, own_new_lt, mp_new_lt, rd_newm_lt, own_newm_lt, mp_newm_lt, rd_wr_ne, own_wr_ne, mp_wr_ne, rd_wrm_ne, own_wrm_ne, mp_wrm_ne, rd_new_eq, own_new_eq, mp_newm_eq]
        refine Both.dec (fun hk4 => ?_) (fun hk4 => ?_)
        · simp (disch := (first | omega | (simp only [size_new, size_newm, size_wr, size_wrm] <;> omega) | fail)) only [go_sem, Nat.reduceBEq, Nat.reduceAdd, Nat.reduceMul, Nat.reduceLeDiff, ↓reduceIte, rd_new_lt, own_new_lt, mp_new_lt, rd_newm_lt, own_newm_lt, mp_newm_lt, rd_wr_ne, own_wr_ne, mp_wr_ne, rd_wrm_ne, own_wrm_ne, mp_wrm_ne, rd_new_eq, own_new_eq, mp_newm_eq, rd_of_own o5, rd_of_own bx]
          refine (ref05_Join_spec n5 (fun b hb => (st5.ab b hb).1) h x).mono ?_
          rintro _ H6 ⟨f6, hm⟩
          have o6 := f6.own o5 (fun h => h)
          have b6 := f6.own bx (fun h => h)
          rcases hm with ⟨hm, v', rfl, n6⟩ | ⟨hm, v', rfl, n6⟩
          · obtain ⟨ha6, hc6, ca6, cc6, rfl, -⟩ := id n6
            simp (disch := (first | omega | (simp only [size_new, size_newm, size_wr, size_wrm] <;> omega) | fail)) only [go_sem, Nat.reduceBEq, Nat.reduceAdd, Nat.reduceMul, Nat.reduceLeDiff, ↓reduceIte, rd_new_lt, own_new_lt, mp_new_lt, rd_newm_lt, own_newm_lt, mp_newm_lt, rd_wr_ne, own_wr_ne, mp_wr_ne, rd_wrm_ne, own_wrm_ne, mp_wrm_ne, rd_new_eq, own_new_eq, mp_newm_eq, o6, rd_of_own b6]
            obtain ⟨st7, e7⟩ := st5.put f6 n6
            have b8 := e7.own bx hne
            refine (cellsN_Join_spec st7.cells h x).mono ?_
            rintro _ H9 (⟨h9, rfl, rfl⟩ | ⟨h9, rfl, c9, e9⟩)
            · simp (disch := (first | omega | (simp only [size_new, size_newm, size_wr, size_wrm] <;> omega) | fail)) only [go_sem, Nat.reduceBEq, Nat.reduceAdd, Nat.reduceMul, Nat.reduceLeDiff, ↓reduceIte, rd_new_lt, own_new_lt, mp_new_lt, rd_newm_lt, own_newm_lt, mp_newm_lt, rd_wr_ne, own_wr_ne, mp_wr_ne, rd_wrm_ne, own_wrm_ne, mp_wrm_ne, rd_new_eq, own_new_eq, mp_newm_eq]
              have hfin := fin st7 b8 st7.cells (Ext.refl _ _) (fun _ h => .inl h)
              exact ⟨trivial, trivial, trivial, trivial, trivial, trivial, _, _, _, _, false, rfl, rfl, rfl, hfin.1, by first | exact hfin.2 | exact b6, by omega, by omega⟩
            · exact absurd h9 hm
          · obtain ⟨ha6, hc6, ca6, cc6, rfl, -⟩ := id n6
            simp (disch := (first | omega | (simp only [size_new, size_newm, size_wr, size_wrm] <;> omega) | fail)) only [go_sem, Nat.reduceBEq, Nat.reduceAdd, Nat.reduceMul, Nat.reduceLeDiff, ↓reduceIte, rd_new_lt, own_new_lt, mp_new_lt, rd_newm_lt, own_newm_lt, mp_newm_lt, rd_wr_ne, own_wr_ne, mp_wr_ne, rd_wrm_ne, own_wrm_ne, mp_wrm_ne, rd_new_eq, own_new_eq, mp_newm_eq, o6, rd_of_own b6]
            obtain ⟨st7, e7⟩ := st5.put f6 n6
            have b8 := e7.own bx hne
            refine (cellsN_Join_spec st7.cells h x).mono ?_
            rintro _ H9 (⟨h9, rfl, rfl⟩ | ⟨h9, rfl, c9, e9⟩)
            · exact absurd hm h9
            · simp (disch := (first | omega | (simp only [size_new, size_newm, size_wr, size_wrm] <;> omega) | fail)) only [go_sem, Nat.reduceBEq, Nat.reduceAdd, Nat.reduceMul, Nat.reduceLeDiff, ↓reduceIte, rd_new_lt, own_new_lt, mp_new_lt, rd_newm_lt, own_newm_lt, mp_newm_lt, rd_wr_ne, own_wr_ne, mp_wr_ne, rd_wrm_ne, own_wrm_ne, mp_wrm_ne, rd_new_eq, own_new_eq, mp_newm_eq]
              have hfin := fin st7 b8 c9 e9 (fun _ h => .inl h)
              exact ⟨trivial, trivial, trivial, trivial, trivial, trivial, _, _, _, _, true, rfl, rfl, rfl, hfin.1, by first | exact hfin.2 | exact b6, by omega, by omega⟩
        simp (disch := (first | omega | (simp only [size_new, size_newm, size_wr, size_wrm] <;> omega) | fail)) only [go_sem, Nat.reduceBEq, Nat.reduceAdd, Nat.reduceMul, Nat.reduceLeDiff, ↓reduceIte, rd_new_lt, own_new_lt, mp_new_lt, rd_newm_lt, own_newm_lt, mp_newm_lt, rd_wr_ne, own_wr_ne, mp_wr_ne, rd_wrm_ne, own_wrm_ne, mp_wrm_ne, rd_new_eq, own_new_eq, mp_newm_eq, rd_of_own o5, rd_of_own bx]
        refine (ref05_Ahead_spec n5 h x).mono ?_
        rintro _ H6 ⟨rfl, f6⟩
        have st6 := st5.fresh f6
        have b6 := f6.own bx (fun h => h)
        simp (disch := (first | omega | (simp only [size_new, size_newm, size_wr, size_wrm] <;> omega) | fail)) only [go_sem, Nat.reduceBEq, Nat.reduceAdd, Nat.reduceMul, Nat.reduceLeDiff, ↓reduceIte, rd_new_lt, own_new_lt, mp_new_lt, rd_newm_lt, own_newm_lt, mp_newm_lt, rd_wr_ne, own_wr_ne, mp_wr_ne, rd_wrm_ne, own_wrm_ne, mp_wrm_ne, rd_new_eq, own_new_eq, mp_newm_eq, rd_of_own b6]
        refine (cellsN_Ahead_spec st6.cells h x).mono ?_
        rintro _ H7 ⟨rfl, c7, e7⟩
        obtain ⟨st7, b7⟩ := fin st6 b6 c7 e7 (fun _ h => .inl h)
        obtain ⟨ha7, hc7, ca7, cc7, o7, n7⟩ := st7.nest
        have hst : (if InC w.cs h ∧ InC w.cs x then stepsI t 1 else t) = if InC w.cs h ∧ InC w.cs x then t + 1 else t := by
          have : stepsI t 1 = t + 1 := by
            unfold stepsI
            rw [if_neg (by omega), if_neg (by omega)]
          rw [this]
        rw [hst] at st7
        simp (disch := (first | omega | (simp only [size_new, size_newm, size_wr, size_wrm] <;> omega) | fail)) only [go_sem, Nat.reduceBEq, Nat.reduceAdd, Nat.reduceMul, Nat.reduceLeDiff, ↓reduceIte, rd_new_lt, own_new_lt, mp_new_lt, rd_newm_lt, own_newm_lt, mp_newm_lt, rd_wr_ne, own_wr_ne, mp_wr_ne, rd_wrm_ne, own_wrm_ne, mp_wrm_ne, rd_new_eq, own_new_eq, mp_newm_eq, rd_of_own o7, rd_of_own b7]
        refine (ref05_In_spec n7 h).mono ?_
        rintro _ H8 ⟨rfl, f8⟩
        have st8 := st7.fresh f8
        have b8 := f8.own b7 (fun h => h)
        have o8 := f8.own o7 (fun h => h)
        have n8 := n7.fresh f8
        simp (disch := (first | omega | (simp only [size_new, size_newm, size_wr, size_wrm] <;> omega) | fail)) only [go_sem, Nat.reduceBEq, Nat.reduceAdd, Nat.reduceMul, Nat.reduceLeDiff, ↓reduceIte, rd_new_lt, own_new_lt, mp_new_lt, rd_newm_lt, own_newm_lt, mp_newm_lt, rd_wr_ne, own_wr_ne, mp_wr_ne, rd_wrm_ne, own_wrm_ne, mp_wrm_ne, rd_new_eq, own_new_eq, mp_newm_eq]
        refine Both.dec (fun hi1 => ?_) (fun hi1 => ?_)
        · simp (disch := (first | omega | (simp only [size_new, size_newm, size_wr, size_wrm] <;> omega) | fail)) only [go_sem, Nat.reduceBEq, Nat.reduceAdd, Nat.reduceMul, Nat.reduceLeDiff, ↓reduceIte, rd_new_lt, own_new_lt, mp_new_lt, rd_newm_lt, own_newm_lt, mp_newm_lt, rd_wr_ne, own_wr_ne, mp_wr_ne, rd_wrm_ne, own_wrm_ne, mp_wrm_ne, rd_new_eq, own_new_eq, mp_newm_eq, rd_of_own o8, rd_of_own b8]
          refine (ref05_In_spec n8 x).mono ?_
          rintro _ H9 ⟨rfl, f9⟩
          have st9 := st8.fresh f9
          have b9 := f9.own b8 (fun h => h)
          simp (disch := (first | omega | (simp only [size_new, size_newm, size_wr, size_wrm] <;> omega) | fail)) only [go_sem, Nat.reduceBEq, Nat.reduceAdd, Nat.reduceMul, Nat.reduceLeDiff, ↓reduceIte, rd_new_lt, own_new_lt, mp_new_lt, rd_newm_lt, own_newm_lt, mp_newm_lt, rd_wr_ne, own_wr_ne, mp_wr_ne, rd_wrm_ne, own_wrm_ne, mp_wrm_ne, rd_new_eq, own_new_eq, mp_newm_eq]
          refine Both.dec (fun hi2 => ?_) (fun hi2 => ?_)
          · simp (disch := (first | omega | (simp only [size_new, size_newm, size_wr, size_wrm] <;> omega) | fail)) only [go_sem, Nat.reduceBEq, Nat.reduceAdd, Nat.reduceMul, Nat.reduceLeDiff, ↓reduceIte, rd_new_lt, own_new_lt, mp_new_lt, rd_newm_lt, own_newm_lt, mp_newm_lt, rd_wr_ne, own_wr_ne, mp_wr_ne, rd_wrm_ne, own_wrm_ne, mp_wrm_ne, rd_new_eq, own_new_eq, mp_newm_eq]
            rw [wrap64 (n := t + 1) (by omega) (by omega)]
            rw [if_pos ⟨hi1, hi2⟩] at st9
            exact ⟨trivial, trivial, trivial, trivial, trivial, trivial, _, _, _, _, _, rfl, rfl, rfl, st9, b9, by omega, by omega⟩
          · simp (disch := (first | omega | (simp only [size_new, size_newm, size_wr, size_wrm] <;> omega) | fail)) only [go_sem, Nat.reduceBEq, Nat.reduceAdd, Nat.reduceMul, Nat.reduceLeDiff, ↓reduceIte, rd_new_lt, own_new_lt, mp_new_lt, rd_newm_lt, own_newm_lt, mp_newm_lt, rd_wr_ne, own_wr_ne, mp_wr_ne, rd_wrm_ne, own_wrm_ne, mp_wrm_ne, rd_new_eq, own_new_eq, mp_newm_eq]
            rw [if_neg (fun h => hi2 h.2)] at st9
            exact ⟨trivial, trivial, trivial, trivial, trivial, trivial, _, _, _, _, _, rfl, rfl, rfl, st9, b9, by omega, by omega⟩
        · simp (disch := (first | omega | (simp only [size_new, size_newm, size_wr, size_wrm] <;> omega) | fail)) only [go_sem, Nat.reduceBEq, Nat.reduceAdd, Nat.reduceMul, Nat.reduceLeDiff, ↓reduceIte, rd_new_lt, own_new_lt, mp_new_lt, rd_newm_lt, own_newm_lt, mp_newm_lt, rd_wr_ne, own_wr_ne, mp_wr_ne, rd_wrm_ne, own_wrm_ne, mp_wrm_ne, rd_new_eq, own_new_eq, mp_newm_eq]
          rw [if_neg (fun h => hi1 h.1)] at st8
          exact ⟨trivial, trivial, trivial, trivial, trivial, trivial, _, _, _, _, _, rfl, rfl, rfl, st8, b8, by omega, by omega⟩
    · rintro e H6 ⟨e0, e1, e2, e3, e4, e5', S6, A6, t6, w6, b, e6, e7, e8, st6, b6, ht0', ht1'⟩
      simp (disch := (first | omega | (simp only [size_new, size_newm, size_wr, size_wrm] <;> omega) | fail)) only [go_sem, Nat.reduceBEq, Nat.reduceAdd, Nat.reduceMul, Nat.reduceLeDiff, ↓reduceIte, rd_new_lt, own_new_lt, mp_new_lt, rd_newm_lt, own_newm_lt, mp_newm_lt, rd_wr_ne, own_wr_ne, mp_wr_ne, rd_wrm_ne, own_wrm_ne, mp_wrm_ne, rd_new_eq, own_new_eq, mp_newm_eq, e0, e1, e2, e3, e4, e5', e6, e7, e8, beq_self_eq_true]
      refine (cellsN_Steps_spec st6.cells).mono ?_
      rintro _ _ ⟨rfl, rfl⟩
      obtain ⟨ha6, hc6, ca6, cc6, o6, n6⟩ := st6.nest
      simp (disch := (first | omega | (simp only [size_new, size_newm, size_wr, size_wrm] <;> omega) | fail)) only [go_sem, Nat.reduceBEq, Nat.reduceAdd, Nat.reduceMul, Nat.reduceLeDiff, ↓reduceIte, rd_new_lt, own_new_lt, mp_new_lt, rd_newm_lt, own_newm_lt, mp_newm_lt, rd_wr_ne, own_wr_ne, mp_wr_ne, rd_wrm_ne, own_wrm_ne, mp_wrm_ne, rd_new_eq, own_new_eq, mp_newm_eq, e0, e1, e2, e3, e4, e5', e6, e7, e8, decide_true, rd_of_own o6, rd_of_own b6]
      refine (law05_looks_spec (cells_teller cb S6 t6 w6) st6.cells n6 (fun b hb hs => (st6.sb b hs).2.2 hb) kind h x key sq).mono ?_
      rintro _ H7 ⟨rfl, c7, x7⟩
      have st7 := st6.op c7 x7 (fun _ h => .inl h)
      simp (disch := (first | omega | (simp only [size_new, size_newm, size_wr, size_wrm] <;> omega) | fail)) only [go_sem, Nat.reduceBEq, Nat.reduceAdd, Nat.reduceMul, Nat.reduceLeDiff, ↓reduceIte, rd_new_lt, own_new_lt, mp_new_lt, rd_newm_lt, own_newm_lt, mp_newm_lt, rd_wr_ne, own_wr_ne, mp_wr_ne, rd_wrm_ne, own_wrm_ne, mp_wrm_ne, rd_new_eq, own_new_eq, mp_newm_eq, e0, e1, e2, e3, e4, e5', e6, e7, e8]
      rw [wrap64 (n := (i : Int) + 1) (by omega) (by omega)]
      exact ⟨n - (i + 1), by omega, i + 1, S6, A6, t6, w6, rfl, rfl, by omega, st7, by omega, by omega⟩
  · exact ⟨rfl, st.fr⟩

end Go.Proofs.Ytkikanlkhkghcaa
