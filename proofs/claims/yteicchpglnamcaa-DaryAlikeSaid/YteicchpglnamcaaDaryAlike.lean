/-
  The law DaryAlike answers true.
-/
import Derived.Test.YteicchpglnamcaaDaryNest
import Derived.Test.YteicchpglnamcaaDaryNew
set_option linter.unusedVariables false
set_option linter.unusedSimpArgs false
namespace Go.Proofs.Yteicchpglnamcaa
open Go Go.Vc

theorem InvH.call {P : Program} {T : TypeId} {v rv : Value} {name : String} {f : FuncId} {args : List Value} {H : Hp} {K : Value → Hp → Prop} (h : InvH P (.iface T v) name args H K) (hm : MethR P H T v name f rv) : CallH P f (rv :: args) H K := by
  obtain ⟨T', v', f', rv', e, hm', hc⟩ := h
  injection e with e1 e2
  subst e1 e2
  obtain ⟨w, hw⟩ := exists_world H
  have h1 := hm.2 w hw
  rw [hm'.2 w hw] at h1
  injection h1 with h1 _
  injection h1 with h1 h2
  subst h1 h2
  exact hc

/-- Two nests side by side, and an act. -/
structure TwoD (Hh H : Hp) (n1 n2 : Nat) (d1 d2 : Int) (S1 S2 : Nat → Prop) (st1 st2 : Int) (w1 w2 : Nw) (ab : Nat) (L : List Value) : Prop where
  a : DaryAt H n1 S1 d1 st1 w1
  b : DaryAt H n2 S2 d2 st2 w2
  fr : Fresh Hh H
  sa : ∀ z, S1 z → Hh.size ≤ z
  sb : ∀ z, S2 z → Hh.size ≤ z
  dj : ∀ z, S1 z → ¬ S2 z
  act : H.own ab = some L
  ha : ¬ S1 ab
  hb : ¬ S2 ab

theorem TwoD.opA {Hh H H' : Hp} {n1 n2 : Nat} {d1 d2 : Int} {S1 S2 : Nat → Prop} {st1 st2 : Int} {w1 w2 w' : Nw} {ab : Nat} {L : List Value} {m : Int} (r : TwoD Hh H n1 n2 d1 d2 S1 S2 st1 st2 w1 w2 ab L) (n : Nx (fun H S st w => DaryAt H n1 S d1 st w) S1 st1 H H' w' m) :
    ∃ S1' st1', TwoD Hh H' n1 n2 d1 d2 S1' S2 st1' st2 w' w2 ab L := by
  obtain ⟨q, S', _, i, e, hS⟩ := n
  have hlt := r.b.slt
  have hab := own_lt r.act
  have hz := r.fr.size
  refine ⟨S', _, i, r.b.ext e (fun z hz h => r.dj z h hz), r.fr.then e r.sa, fun z hz => ?_, r.sb, fun z hz h => ?_, e.own r.act r.ha, fun h => ?_, r.hb⟩
  · rcases hS z hz with h | h
    · exact r.sa z h
    · omega
  · rcases hS z hz with h1 | h1
    · exact r.dj z h1 h
    · have := hlt z h; omega
  · rcases hS ab h with h1 | h1
    · exact r.ha h1
    · omega

theorem TwoD.opB {Hh H H' : Hp} {n1 n2 : Nat} {d1 d2 : Int} {S1 S2 : Nat → Prop} {st1 st2 : Int} {w1 w2 w' : Nw} {ab : Nat} {L : List Value} {m : Int} (r : TwoD Hh H n1 n2 d1 d2 S1 S2 st1 st2 w1 w2 ab L) (n : Nx (fun H S st w => DaryAt H n2 S d2 st w) S2 st2 H H' w' m) :
    ∃ S2' st2', TwoD Hh H' n1 n2 d1 d2 S1 S2' st1 st2' w1 w' ab L := by
  obtain ⟨q, S', _, i, e, hS⟩ := n
  have hlt := r.a.slt
  have hab := own_lt r.act
  have hz := r.fr.size
  refine ⟨S', _, r.a.ext e (fun z hz h => r.dj z hz h), i, r.fr.then e r.sb, r.sa, fun z hz => ?_, fun z hz h => ?_, e.own r.act r.hb, r.ha, fun h => ?_⟩
  · rcases hS z hz with h | h
    · exact r.sb z h
    · omega
  · rcases hS z h with h1 | h1
    · exact r.dj z hz h1
    · have := hlt z hz; omega
  · rcases hS ab h with h1 | h1
    · exact r.hb h1
    · omega

theorem TwoD.opH {Hh H H' : Hp} {n1 n2 : Nat} {d1 d2 : Int} {S1 S2 : Nat → Prop} {st1 st2 : Int} {w1 w2 : Nw} {ab : Nat} {L : List Value} (r : TwoD Hh H n1 n2 d1 d2 S1 S2 st1 st2 w1 w2 ab L) (e : Fresh H H') {ab' : Nat} {L' : List Value} (o : H'.own ab' = some L') (h : H.size ≤ ab') :
    TwoD Hh H' n1 n2 d1 d2 S1 S2 st1 st2 w1 w2 ab' L' :=
  ⟨r.a.fresh e, r.b.fresh e, r.fr.trans e, r.sa, r.sb, r.dj, o, fun hs => by have := r.a.slt _ hs; omega, fun hs => by have := r.b.slt _ hs; omega⟩

set_option maxHeartbeats 4000000 in
theorem law08_DaryAlike_args {Hh : Hp} {v0 v1 v2 : Value} (h0 : fitA Hh (true, [.k (.i .i64), .k (.i .i64)]) v0) (h1 : fitA Hh (false, [.k (.i .u8)]) v1) (h2 : fitA Hh (false, [.sl [.i .i64, .i .i64, .i .i64, .i .i64, .i .u64]]) v2) :
    CallH Try.prog n_law08_DaryAlike [v0, v1, v2] Hh fun v H' => Post (v = .bool true ∧ Fresh Hh H') := by
  obtain ⟨cs, rfl, _, _, rfl, ⟨d1, rfl, _⟩, _, _, rfl, ⟨d2, rfl, _⟩, rfl⟩ := h0
  obtain ⟨cap, rfl, hc0, hc1⟩ := fitA_u8 h1
  obtain ⟨rows, hrd, hrows, hmax⟩ := fitA_sl h2
  have hrlen : ∀ r ∈ rows, r.length = 5 := fun r hr => fitL_length (hrows r hr)
  generalize hn : rows.length = n at *
  have hrd : RdS Hh 5 v2 n rows.flatten := hrd
  obtain ⟨a, c, rfl⟩ := RdS.val2 hrd
  refine c_law08_DaryAlike ⟨rfl, ?_⟩
  simp (disch := (first | omega | (simp only [size_new, size_newm, size_wr, size_wrm] <;> omega) | fail)) only [go_sem, Nat.reduceBEq, Nat.reduceAdd, Nat.reduceMul, Nat.reduceLeDiff, ↓reduceIte, rd_new_lt, own_new_lt, mp_new_lt, rd_newm_lt, own_newm_lt, mp_newm_lt, rd_wr_ne, own_wr_ne, mp_wr_ne, rd_wrm_ne, own_wrm_ne, mp_wrm_ne, rd_new_eq, own_new_eq, mp_newm_eq, s_law08_DaryAlike]
  have f0 : Fresh Hh (Hh.new 65 [i64 d1, i64 d2]) := (Ext.refl _ _).new _ _
  have o0 : (Hh.new 65 [i64 d1, i64 d2]).own Hh.size = some [i64 d1, i64 d2] := own_new _ _ _
  generalize Hh.new 65 [i64 d1, i64 d2] = H0 at *
  refine (law08_daryAlive_spec H0).mono ?_
  rintro _ H1 ⟨rfl, f1⟩
  have o1 := f1.own o0 (fun h => h)
  simp (disch := (first | omega | (simp only [size_new, size_newm, size_wr, size_wrm] <;> omega) | fail)) only [go_sem, Nat.reduceBEq, Nat.reduceAdd, Nat.reduceMul, Nat.reduceLeDiff, ↓reduceIte, rd_new_lt, own_new_lt, mp_new_lt, rd_newm_lt, own_newm_lt, mp_newm_lt, rd_wr_ne, own_wr_ne, mp_wr_ne, rd_wrm_ne, own_wrm_ne, mp_wrm_ne, rd_new_eq, own_new_eq, mp_newm_eq]
  have hwc : IntKind.i64.wrap cap = cap := wrap64 (by omega) (by omega)
  have hkr : cap.tmod 30 = cap % 30 := Int.tmod_eq_emod_of_nonneg hc0
  have hk : 0 ≤ cap % 30 ∧ cap % 30 ≤ 29 := by omega
  simp (disch := (first | omega | (simp only [size_new, size_newm, size_wr, size_wrm] <;> omega) | fail)) only [go_sem, Nat.reduceBEq, Nat.reduceAdd, Nat.reduceMul, Nat.reduceLeDiff, ↓reduceIte, rd_new_lt, own_new_lt, mp_new_lt, rd_newm_lt, own_newm_lt, mp_newm_lt, rd_wr_ne, own_wr_ne, mp_wr_ne, rd_wrm_ne, own_wrm_ne, mp_wrm_ne, rd_new_eq, own_new_eq, mp_newm_eq, hwc, hkr, if_neg (show ¬ ((30 : Int) = 0) by decide)]
  generalize cap % 30 = k at *
  refine Both.dec (fun hl => ?_) (fun hl => ?_) <;> simp (disch := (first | omega | (simp only [size_new, size_newm, size_wr, size_wrm] <;> omega) | fail)) only [go_sem, Nat.reduceBEq, Nat.reduceAdd, Nat.reduceMul, Nat.reduceLeDiff, ↓reduceIte, rd_new_lt, own_new_lt, mp_new_lt, rd_newm_lt, own_newm_lt, mp_newm_lt, rd_wr_ne, own_wr_ne, mp_wr_ne, rd_wrm_ne, own_wrm_ne, mp_wrm_ne, rd_new_eq, own_new_eq, mp_newm_eq, rd_of_own o1]
  · exact ⟨rfl, f0.trans f1⟩
  -- BOTH
  refine ⟨by omega, ?_⟩
  simp (disch := (first | omega | (simp only [size_new, size_newm, size_wr, size_wrm] <;> omega) | fail)) only [go_sem, Nat.reduceBEq, Nat.reduceAdd, Nat.reduceMul, Nat.reduceLeDiff, ↓reduceIte, rd_new_lt, own_new_lt, mp_new_lt, rd_newm_lt, own_newm_lt, mp_newm_lt, rd_wr_ne, own_wr_ne, mp_wr_ne, rd_wrm_ne, own_wrm_ne, mp_wrm_ne, rd_new_eq, own_new_eq, mp_newm_eq, rd_of_own o1]
  refine (ref08_Right_spec _ d1 H1).mono ?_
  rintro _ _ ⟨rfl, rfl⟩
  rw [if_pos ⟨by omega, by omega⟩]
  by_cases hd1 : ¬ FineD d1
  · rw [if_neg hd1]
    simp (disch := (first | omega | (simp only [size_new, size_newm, size_wr, size_wrm] <;> omega) | fail)) only [go_sem, Nat.reduceBEq, Nat.reduceAdd, Nat.reduceMul, Nat.reduceLeDiff, ↓reduceIte, rd_new_lt, own_new_lt, mp_new_lt, rd_newm_lt, own_newm_lt, mp_newm_lt, rd_wr_ne, own_wr_ne, mp_wr_ne, rd_wrm_ne, own_wrm_ne, mp_wrm_ne, rd_new_eq, own_new_eq, mp_newm_eq]
    exact ⟨rfl, f0.trans f1⟩
  have hd1 := Decidable.not_not.1 hd1
  rw [if_pos hd1]
  simp (disch := (first | omega | (simp only [size_new, size_newm, size_wr, size_wrm] <;> omega) | fail)) only [go_sem, Nat.reduceBEq, Nat.reduceAdd, Nat.reduceMul, Nat.reduceLeDiff, ↓reduceIte, rd_new_lt, own_new_lt, mp_new_lt, rd_newm_lt, own_newm_lt, mp_newm_lt, rd_wr_ne, own_wr_ne, mp_wr_ne, rd_wrm_ne, own_wrm_ne, mp_wrm_ne, rd_new_eq, own_new_eq, mp_newm_eq, decide_true]
  refine ⟨by omega, ?_⟩
  simp (disch := (first | omega | (simp only [size_new, size_newm, size_wr, size_wrm] <;> omega) | fail)) only [go_sem, Nat.reduceBEq, Nat.reduceAdd, Nat.reduceMul, Nat.reduceLeDiff, ↓reduceIte, rd_new_lt, own_new_lt, mp_new_lt, rd_newm_lt, own_newm_lt, mp_newm_lt, rd_wr_ne, own_wr_ne, mp_wr_ne, rd_wrm_ne, own_wrm_ne, mp_wrm_ne, rd_new_eq, own_new_eq, mp_newm_eq, rd_of_own o1]
  refine (ref08_Right_spec _ d2 H1).mono ?_
  rintro _ _ ⟨rfl, rfl⟩
  rw [if_pos ⟨by omega, by omega⟩]
  by_cases hd2 : ¬ FineD d2
  · rw [if_neg hd2]
    simp (disch := (first | omega | (simp only [size_new, size_newm, size_wr, size_wrm] <;> omega) | fail)) only [go_sem, Nat.reduceBEq, Nat.reduceAdd, Nat.reduceMul, Nat.reduceLeDiff, ↓reduceIte, rd_new_lt, own_new_lt, mp_new_lt, rd_newm_lt, own_newm_lt, mp_newm_lt, rd_wr_ne, own_wr_ne, mp_wr_ne, rd_wrm_ne, own_wrm_ne, mp_wrm_ne, rd_new_eq, own_new_eq, mp_newm_eq]
    exact ⟨rfl, f0.trans f1⟩
  have hd2 := Decidable.not_not.1 hd2
  rw [if_pos hd2]
  simp (disch := (first | omega | (simp only [size_new, size_newm, size_wr, size_wrm] <;> omega) | fail)) only [go_sem, Nat.reduceBEq, Nat.reduceAdd, Nat.reduceMul, Nat.reduceLeDiff, ↓reduceIte, rd_new_lt, own_new_lt, mp_new_lt, rd_newm_lt, own_newm_lt, mp_newm_lt, rd_wr_ne, own_wr_ne, mp_wr_ne, rd_wrm_ne, own_wrm_ne, mp_wrm_ne, rd_new_eq, own_new_eq, mp_newm_eq, decide_true]
  refine ⟨by omega, ?_⟩
  simp (disch := (first | omega | (simp only [size_new, size_newm, size_wr, size_wrm] <;> omega) | fail)) only [go_sem, Nat.reduceBEq, Nat.reduceAdd, Nat.reduceMul, Nat.reduceLeDiff, ↓reduceIte, rd_new_lt, own_new_lt, mp_new_lt, rd_newm_lt, own_newm_lt, mp_newm_lt, rd_wr_ne, own_wr_ne, mp_wr_ne, rd_wrm_ne, own_wrm_ne, mp_wrm_ne, rd_new_eq, own_new_eq, mp_newm_eq, rd_of_own o1]
  refine (law08_open_spec ⟨by omega, by omega⟩ hd1 H1).mono ?_
  rintro _ H2 ⟨n1, S1, rfl, da, f2, hS1⟩
  have o2 := f2.own o1 (fun h => h)
  simp (disch := (first | omega | (simp only [size_new, size_newm, size_wr, size_wrm] <;> omega) | fail)) only [go_sem, Nat.reduceBEq, Nat.reduceAdd, Nat.reduceMul, Nat.reduceLeDiff, ↓reduceIte, rd_new_lt, own_new_lt, mp_new_lt, rd_newm_lt, own_newm_lt, mp_newm_lt, rd_wr_ne, own_wr_ne, mp_wr_ne, rd_wrm_ne, own_wrm_ne, mp_wrm_ne, rd_new_eq, own_new_eq, mp_newm_eq]
  refine ⟨by omega, ?_⟩
  simp (disch := (first | omega | (simp only [size_new, size_newm, size_wr, size_wrm] <;> omega) | fail)) only [go_sem, Nat.reduceBEq, Nat.reduceAdd, Nat.reduceMul, Nat.reduceLeDiff, ↓reduceIte, rd_new_lt, own_new_lt, mp_new_lt, rd_newm_lt, own_newm_lt, mp_newm_lt, rd_wr_ne, own_wr_ne, mp_wr_ne, rd_wrm_ne, own_wrm_ne, mp_wrm_ne, rd_new_eq, own_new_eq, mp_newm_eq, rd_of_own o2]
  refine (law08_open_spec ⟨by omega, by omega⟩ hd2 H2).mono ?_
  rintro _ H3 ⟨n2, S2, rfl, db, f3, hS2⟩
  have o3 := f3.own o2 (fun h => h)
  simp (disch := (first | omega | (simp only [size_new, size_newm, size_wr, size_wrm] <;> omega) | fail)) only [go_sem, Nat.reduceBEq, Nat.reduceAdd, Nat.reduceMul, Nat.reduceLeDiff, ↓reduceIte, rd_new_lt, own_new_lt, mp_new_lt, rd_newm_lt, own_newm_lt, mp_newm_lt, rd_wr_ne, own_wr_ne, mp_wr_ne, rd_wrm_ne, own_wrm_ne, mp_wrm_ne, rd_new_eq, own_new_eq, mp_newm_eq]
  have hS1l := da.slt
  have z0 := f0.size
  have z1 := f1.size
  have z2 := f2.size
  have r0 : TwoD Hh H3 n1 n2 d1 d2 S1 S2 0 0 _ _ Hh.size [i64 d1, i64 d2] := ⟨da.fresh f3, db, ((f0.trans f1).trans f2).trans f3, fun z hz => by have := hS1 z hz; omega, fun z hz => by have := hS2 z hz; omega,
    fun z hz h => by have := hS1l z hz; have := hS2 z h; omega, o3, fun h => by have := hS1 _ h; have := own_lt o0; omega, fun h => by have := hS2 _ h; have := own_lt o0; omega⟩
  generalize (⟨[false], List.replicate k.toNat (0, 0, 0)⟩ : Nw) = w0 at *
  refine LoopV.intro (fun m env H' => ∃ (i : Nat) (S1 S2 : Nat → Prop) (st1 st2 : Int) (w : Nw) (ab : Nat) (L : List Value), env = [(8, ptr n1), (10, ptr n2), (60, .slice a n c), (61, i64 n), (62, i64 i)] ∧ m = n - i ∧ i ≤ n ∧ TwoD Hh H' n1 n2 d1 d2 S1 S2 st1 st2 w w ab L) n
    ⟨0, S1, S2, 0, 0, w0, _, _, rfl, by omega, by omega, r0⟩ ?_
  clear r0 da db hS1 hS2 hS1l o0 o1 o2 o3
  rintro m env H4 ⟨i, S1, S2, st1, st2, w, ab0, L0, rfl, rfl, hi, r4⟩
  simp (disch := (first | omega | (simp only [size_new, size_newm, size_wr, size_wrm] <;> omega) | fail)) only [go_sem, Nat.reduceBEq, Nat.reduceAdd, Nat.reduceMul, Nat.reduceLeDiff, ↓reduceIte, rd_new_lt, own_new_lt, mp_new_lt, rd_newm_lt, own_newm_lt, mp_newm_lt, rd_wr_ne, own_wr_ne, mp_wr_ne, rd_wrm_ne, own_wrm_ne, mp_wrm_ne, rd_new_eq, own_new_eq, mp_newm_eq]
  refine Both.dec (fun hin => ?_) (fun hin => ?_) <;> simp (disch := (first | omega | (simp only [size_new, size_newm, size_wr, size_wrm] <;> omega) | fail)) only [go_sem, Nat.reduceBEq, Nat.reduceAdd, Nat.reduceMul, Nat.reduceLeDiff, ↓reduceIte, rd_new_lt, own_new_lt, mp_new_lt, rd_newm_lt, own_newm_lt, mp_newm_lt, rd_wr_ne, own_wr_ne, mp_wr_ne, rd_wrm_ne, own_wrm_ne, mp_wrm_ne, rd_new_eq, own_new_eq, mp_newm_eq]
  · obtain ⟨row, hrow⟩ : ∃ row, rows[i]? = some row := ⟨_, List.getElem?_eq_getElem (by omega)⟩
    obtain ⟨_, _, rfl, ⟨kind, rfl, hk1⟩, _, _, rfl, ⟨h, rfl, hh1⟩, _, _, rfl, ⟨x, rfl, hx1⟩, _, _, rfl, ⟨key, rfl, hkey1⟩, _, _, rfl, ⟨sq, rfl, hsq1⟩, rfl⟩ := hrows row (List.mem_of_getElem? hrow)
    obtain ⟨ab, ao, al, rfl, ar1, ar2, ar3, ar4⟩ := RdS.row (hrd.fresh r4.fr) (by omega) hrlen hrow
    refine ⟨by omega, ?_⟩
    simp (disch := (first | omega | (simp only [size_new, size_newm, size_wr, size_wrm] <;> omega) | fail)) only [go_sem, Nat.reduceBEq, Nat.reduceAdd, Nat.reduceMul, Nat.reduceLeDiff, ↓reduceIte, rd_new_lt, own_new_lt, mp_new_lt, rd_newm_lt, own_newm_lt, mp_newm_lt, rd_wr_ne, own_wr_ne, mp_wr_ne, rd_wrm_ne, own_wrm_ne, mp_wrm_ne, rd_new_eq, own_new_eq, mp_newm_eq, ar1, Int.toNat_natCast]
    refine ⟨by omega, ?_⟩
    simp (disch := (first | omega | (simp only [size_new, size_newm, size_wr, size_wrm] <;> omega) | fail)) only [go_sem, Nat.reduceBEq, Nat.reduceAdd, Nat.reduceMul, Nat.reduceLeDiff, ↓reduceIte, rd_new_lt, own_new_lt, mp_new_lt, rd_newm_lt, own_newm_lt, mp_newm_lt, rd_wr_ne, own_wr_ne, mp_wr_ne, rd_wrm_ne, own_wrm_ne, mp_wrm_ne, rd_new_eq, own_new_eq, mp_newm_eq, ar4]
    have e5 : Fresh H4 ((H4.new 72 [.int .i64 0, .int .i64 0, .int .i64 0, .int .i64 0, .int .u64 0]).wr H4.size [i64 kind, i64 h, i64 x, i64 key, u64 sq]) := ((Ext.refl _ _).new _ _).wr (fun h => absurd h (Nat.lt_irrefl _)) _
    have bx : ((H4.new 72 [.int .i64 0, .int .i64 0, .int .i64 0, .int .i64 0, .int .u64 0]).wr H4.size [i64 kind, i64 h, i64 x, i64 key, u64 sq]).own H4.size = some [i64 kind, i64 h, i64 x, i64 key, u64 sq] := own_wr_same (own_new _ _ _)
    have r := r4.opH e5 bx (Nat.le_refl _)
    generalize (H4.new 72 [.int .i64 0, .int .i64 0, .int .i64 0, .int .i64 0, .int .u64 0]).wr H4.size [i64 kind, i64 h, i64 x, i64 key, u64 sq] = H5 at *
    generalize hab : H4.size = bb at *
    clear r4 bx e5
    rename_i abk
    refine vc_cut (fun e H' => e.find 8 = some (ptr n1) ∧ e.find 10 = some (ptr n2) ∧ e.find 13 = some (ptr bb) ∧ e.find 60 = some (.slice (some ⟨ab, ao, none⟩) n c) ∧ e.find 61 = some (i64 n) ∧ e.find 62 = some (i64 i) ∧
      ∃ (s : Int) (t : Bool) (S1 S2 : Nat → Prop) (st1 st2 : Int) (w : Nw), e.find 14 = some (i64 s) ∧ e.find 15 = some (.bool t) ∧ e.find 16 = some (i64 s) ∧ e.find 17 = some (.bool t) ∧ TwoD Hh H' n1 n2 d1 d2 S1 S2 st1 st2 w w bb [i64 kind, i64 h, i64 x, i64 key, u64 sq]) ?_ ?_
    · simp (disch := (first | omega | (simp only [size_new, size_newm, size_wr, size_wrm] <;> omega) | fail)) only [go_sem, Nat.reduceBEq, Nat.reduceAdd, Nat.reduceMul, Nat.reduceLeDiff, ↓reduceIte, rd_new_lt, own_new_lt, mp_new_lt, rd_newm_lt, own_newm_lt, mp_newm_lt, rd_wr_ne, own_wr_ne, mp_wr_ne, rd_wrm_ne, own_wrm_ne, mp_wrm_ne, rd_new_eq, own_new_eq, mp_newm_eq, rd_of_own r.act]
      refine Both.dec (fun hk0 => ?_) (fun hk0 => ?_)
      · simp (disch := (first | omega | (simp only [size_new, size_newm, size_wr, size_wrm] <;> omega) | fail)) only [go_sem, Nat.reduceBEq, Nat.reduceAdd, Nat.reduceMul, Nat.reduceLeDiff, ↓reduceIte, rd_new_lt, own_new_lt, mp_new_lt, rd_newm_lt, own_newm_lt, mp_newm_lt, rd_wr_ne, own_wr_ne, mp_wr_ne, rd_wrm_ne, own_wrm_ne, mp_wrm_ne, rd_new_eq, own_new_eq, mp_newm_eq]
        refine (InvH.call ((dary_nest n1 hd1).make r.a) (methR0 (f := n_dary_Nest_Make) (by kernel_rfl))).mono ?_
        rintro va HA hva
        obtain ⟨wn, ma, hna, hans⟩ : ∃ (wn : Nw) (ma : Int), Nx (fun H S st w => DaryAt H n1 S d1 st w) S1 st1 H5 HA wn ma ∧ ((w.hs.length = 65537 ∧ va = i64 0 ∧ wn = w) ∨ (w.hs.length ≠ 65537 ∧ va = i64 w.hs.length ∧ wn = w.make)) := by
          rcases hva with ⟨e1, e2, nx⟩ | ⟨e1, e2, nx⟩
          · exact ⟨_, _, nx, .inl ⟨e1, e2, rfl⟩⟩
          · exact ⟨_, _, nx, .inr ⟨e1, e2, rfl⟩⟩
        obtain ⟨S1', st1', r1⟩ := r.opA hna
        obtain ⟨sv, rfl⟩ : ∃ sv : Int, va = i64 sv := by rcases hans with ⟨_, rfl, _⟩ | ⟨_, rfl, _⟩ <;> exact ⟨_, rfl⟩
        simp (disch := (first | omega | (simp only [size_new, size_newm, size_wr, size_wrm] <;> omega) | fail)) only [go_sem, Nat.reduceBEq, Nat.reduceAdd, Nat.reduceMul, Nat.reduceLeDiff, ↓reduceIte, rd_new_lt, own_new_lt, mp_new_lt, rd_newm_lt, own_newm_lt, mp_newm_lt, rd_wr_ne, own_wr_ne, mp_wr_ne, rd_wrm_ne, own_wrm_ne, mp_wrm_ne, rd_new_eq, own_new_eq, mp_newm_eq]
        refine (InvH.call ((dary_nest n2 hd2).make r1.b) (methR0 (f := n_dary_Nest_Make) (by kernel_rfl))).mono ?_
        rintro vb HB hvb
        obtain ⟨rfl, mb, hnb⟩ : vb = i64 sv ∧ ∃ mb, Nx (fun H S st w => DaryAt H n2 S d2 st w) S2 st2 HA HB wn mb := by
          rcases hans with ⟨e1, e2, rfl⟩ | ⟨e1, e2, rfl⟩ <;> rcases hvb with ⟨g1, g2, nx⟩ | ⟨g1, g2, nx⟩
          · exact ⟨g2.trans e2.symm, _, nx⟩
          · first | exact absurd g1 e1 | exact absurd e1 g1
          · first | exact absurd g1 e1 | exact absurd e1 g1
          · exact ⟨g2.trans e2.symm, _, nx⟩
        obtain ⟨S2', st2', r2⟩ := r1.opB hnb
        simp (disch := (first | omega | (simp only [size_new, size_newm, size_wr, size_wrm] <;> omega) | fail)) only [go_sem, Nat.reduceBEq, Nat.reduceAdd, Nat.reduceMul, Nat.reduceLeDiff, ↓reduceIte, rd_new_lt, own_new_lt, mp_new_lt, rd_newm_lt, own_newm_lt, mp_newm_lt, rd_wr_ne, own_wr_ne, mp_wr_ne, rd_wrm_ne, own_wrm_ne, mp_wrm_ne, rd_new_eq, own_new_eq, mp_newm_eq]
        exact ⟨trivial, trivial, trivial, trivial, trivial, trivial, sv, false, _, _, _, _, _, (by first | rfl | trivial), (by first | rfl | trivial), (by first | rfl | trivial), (by first | rfl | trivial), r2⟩
      simp (disch := (first | omega | (simp only [size_new, size_newm, size_wr, size_wrm] <;> omega) | fail)) only [go_sem, Nat.reduceBEq, Nat.reduceAdd, Nat.reduceMul, Nat.reduceLeDiff, ↓reduceIte, rd_new_lt, own_new_lt, mp_new_lt, rd_newm_lt, own_newm_lt, mp_newm_lt, rd_wr_ne, own_wr_ne, mp_wr_ne, rd_wrm_ne, own_wrm_ne, mp_wrm_ne, rd_new_eq, own_new_eq, mp_newm_eq]
      refine Both.dec (fun hk1 => ?_) (fun hk1 => ?_)
      · simp (disch := (first | omega | (simp only [size_new, size_newm, size_wr, size_wrm] <;> omega) | fail)) only [go_sem, Nat.reduceBEq, Nat.reduceAdd, Nat.reduceMul, Nat.reduceLeDiff, ↓reduceIte, rd_new_lt, own_new_lt, mp_new_lt, rd_newm_lt, own_newm_lt, mp_newm_lt, rd_wr_ne, own_wr_ne, mp_wr_ne, rd_wrm_ne, own_wrm_ne, mp_wrm_ne, rd_new_eq, own_new_eq, mp_newm_eq]
        refine InvV.intro (fun H' => H'.own bb = some [i64 kind, i64 h, i64 x, i64 key, u64 sq]) r.act ?_
        simp (disch := (first | omega | (simp only [size_new, size_newm, size_wr, size_wrm] <;> omega) | fail)) only [go_sem, Nat.reduceBEq, Nat.reduceAdd, Nat.reduceMul, Nat.reduceLeDiff, ↓reduceIte, rd_new_lt, own_new_lt, mp_new_lt, rd_newm_lt, own_newm_lt, mp_newm_lt, rd_wr_ne, own_wr_ne, mp_wr_ne, rd_wrm_ne, own_wrm_ne, mp_wrm_ne, rd_new_eq, own_new_eq, mp_newm_eq]
        refine StbV.intro (i64 h) (fun H' hI => ?_) ?_
        · simp (disch := (first | omega | (simp only [size_new, size_newm, size_wr, size_wrm] <;> omega) | fail)) only [go_sem, Nat.reduceBEq, Nat.reduceAdd, Nat.reduceMul, Nat.reduceLeDiff, ↓reduceIte, rd_new_lt, own_new_lt, mp_new_lt, rd_newm_lt, own_newm_lt, mp_newm_lt, rd_wr_ne, own_wr_ne, mp_wr_ne, rd_wrm_ne, own_wrm_ne, mp_wrm_ne, rd_new_eq, own_new_eq, mp_newm_eq, rd_of_own hI]
          exact ⟨trivial, trivial⟩
        simp (disch := (first | omega | (simp only [size_new, size_newm, size_wr, size_wrm] <;> omega) | fail)) only [go_sem, Nat.reduceBEq, Nat.reduceAdd, Nat.reduceMul, Nat.reduceLeDiff, ↓reduceIte, rd_new_lt, own_new_lt, mp_new_lt, rd_newm_lt, own_newm_lt, mp_newm_lt, rd_wr_ne, own_wr_ne, mp_wr_ne, rd_wrm_ne, own_wrm_ne, mp_wrm_ne, rd_new_eq, own_new_eq, mp_newm_eq]
        refine StbV.intro (i64 x) (fun H' hI => ?_) ?_
        · simp (disch := (first | omega | (simp only [size_new, size_newm, size_wr, size_wrm] <;> omega) | fail)) only [go_sem, Nat.reduceBEq, Nat.reduceAdd, Nat.reduceMul, Nat.reduceLeDiff, ↓reduceIte, rd_new_lt, own_new_lt, mp_new_lt, rd_newm_lt, own_newm_lt, mp_newm_lt, rd_wr_ne, own_wr_ne, mp_wr_ne, rd_wrm_ne, own_wrm_ne, mp_wrm_ne, rd_new_eq, own_new_eq, mp_newm_eq, rd_of_own hI]
          exact ⟨trivial, trivial⟩
        simp (disch := (first | omega | (simp only [size_new, size_newm, size_wr, size_wrm] <;> omega) | fail)) only [go_sem, Nat.reduceBEq, Nat.reduceAdd, Nat.reduceMul, Nat.reduceLeDiff, ↓reduceIte, rd_new_lt, own_new_lt, mp_new_lt, rd_newm_lt, own_newm_lt, mp_newm_lt, rd_wr_ne, own_wr_ne, mp_wr_ne, rd_wrm_ne, own_wrm_ne, mp_wrm_ne, rd_new_eq, own_new_eq, mp_newm_eq]
        refine StbV.intro (ent key sq) (fun H' hI => ?_) ?_
        · simp (disch := (first | omega | (simp only [size_new, size_newm, size_wr, size_wrm] <;> omega) | fail)) only [go_sem, Nat.reduceBEq, Nat.reduceAdd, Nat.reduceMul, Nat.reduceLeDiff, ↓reduceIte, rd_new_lt, own_new_lt, mp_new_lt, rd_newm_lt, own_newm_lt, mp_newm_lt, rd_wr_ne, own_wr_ne, mp_wr_ne, rd_wrm_ne, own_wrm_ne, mp_wrm_ne, rd_new_eq, own_new_eq, mp_newm_eq, rd_of_own hI]
          exact ⟨trivial, trivial⟩
        simp (disch := (first | omega | (simp only [size_new, size_newm, size_wr, size_wrm] <;> omega) | fail)) only [go_sem, Nat.reduceBEq, Nat.reduceAdd, Nat.reduceMul, Nat.reduceLeDiff, ↓reduceIte, rd_new_lt, own_new_lt, mp_new_lt, rd_newm_lt, own_newm_lt, mp_newm_lt, rd_wr_ne, own_wr_ne, mp_wr_ne, rd_wrm_ne, own_wrm_ne, mp_wrm_ne, rd_new_eq, own_new_eq, mp_newm_eq]
        refine StbV.intro (i64 h) (fun H' hI => ?_) ?_
        · simp (disch := (first | omega | (simp only [size_new, size_newm, size_wr, size_wrm] <;> omega) | fail)) only [go_sem, Nat.reduceBEq, Nat.reduceAdd, Nat.reduceMul, Nat.reduceLeDiff, ↓reduceIte, rd_new_lt, own_new_lt, mp_new_lt, rd_newm_lt, own_newm_lt, mp_newm_lt, rd_wr_ne, own_wr_ne, mp_wr_ne, rd_wrm_ne, own_wrm_ne, mp_wrm_ne, rd_new_eq, own_new_eq, mp_newm_eq, rd_of_own hI]
          exact ⟨trivial, trivial⟩
        simp (disch := (first | omega | (simp only [size_new, size_newm, size_wr, size_wrm] <;> omega) | fail)) only [go_sem, Nat.reduceBEq, Nat.reduceAdd, Nat.reduceMul, Nat.reduceLeDiff, ↓reduceIte, rd_new_lt, own_new_lt, mp_new_lt, rd_newm_lt, own_newm_lt, mp_newm_lt, rd_wr_ne, own_wr_ne, mp_wr_ne, rd_wrm_ne, own_wrm_ne, mp_wrm_ne, rd_new_eq, own_new_eq, mp_newm_eq]
        refine StbV.intro (i64 x) (fun H' hI => ?_) ?_
        · simp (disch := (first | omega | (simp only [size_new, size_newm, size_wr, size_wrm] <;> omega) | fail)) only [go_sem, Nat.reduceBEq, Nat.reduceAdd, Nat.reduceMul, Nat.reduceLeDiff, ↓reduceIte, rd_new_lt, own_new_lt, mp_new_lt, rd_newm_lt, own_newm_lt, mp_newm_lt, rd_wr_ne, own_wr_ne, mp_wr_ne, rd_wrm_ne, own_wrm_ne, mp_wrm_ne, rd_new_eq, own_new_eq, mp_newm_eq, rd_of_own hI]
          exact ⟨trivial, trivial⟩
        simp (disch := (first | omega | (simp only [size_new, size_newm, size_wr, size_wrm] <;> omega) | fail)) only [go_sem, Nat.reduceBEq, Nat.reduceAdd, Nat.reduceMul, Nat.reduceLeDiff, ↓reduceIte, rd_new_lt, own_new_lt, mp_new_lt, rd_newm_lt, own_newm_lt, mp_newm_lt, rd_wr_ne, own_wr_ne, mp_wr_ne, rd_wrm_ne, own_wrm_ne, mp_wrm_ne, rd_new_eq, own_new_eq, mp_newm_eq]
        refine StbV.intro (ent key sq) (fun H' hI => ?_) ?_
        · simp (disch := (first | omega | (simp only [size_new, size_newm, size_wr, size_wrm] <;> omega) | fail)) only [go_sem, Nat.reduceBEq, Nat.reduceAdd, Nat.reduceMul, Nat.reduceLeDiff, ↓reduceIte, rd_new_lt, own_new_lt, mp_new_lt, rd_newm_lt, own_newm_lt, mp_newm_lt, rd_wr_ne, own_wr_ne, mp_wr_ne, rd_wrm_ne, own_wrm_ne, mp_wrm_ne, rd_new_eq, own_new_eq, mp_newm_eq, rd_of_own hI]
          exact ⟨trivial, trivial⟩
        simp (disch := (first | omega | (simp only [size_new, size_newm, size_wr, size_wrm] <;> omega) | fail)) only [go_sem, Nat.reduceBEq, Nat.reduceAdd, Nat.reduceMul, Nat.reduceLeDiff, ↓reduceIte, rd_new_lt, own_new_lt, mp_new_lt, rd_newm_lt, own_newm_lt, mp_newm_lt, rd_wr_ne, own_wr_ne, mp_wr_ne, rd_wrm_ne, own_wrm_ne, mp_wrm_ne, rd_new_eq, own_new_eq, mp_newm_eq]
        refine (InvH.call ((dary_nest n1 hd1).insert h x key sq r.a) (methR0 (f := n_dary_Nest_Insert) (by kernel_rfl))).mono ?_
        rintro va HA hva
        obtain ⟨wn, ma, hna, hans⟩ : ∃ (wn : Nw) (ma : Int), Nx (fun H S st w => DaryAt H n1 S d1 st w) S1 st1 H5 HA wn ma ∧ ((¬ w.canPut h x ∧ va = .bool false ∧ wn = w) ∨ (w.canPut h x ∧ va = .bool true ∧ wn = w.put x (h, key, sq))) := by
          rcases hva with ⟨e1, e2, nx⟩ | ⟨e1, e2, nx⟩
          · exact ⟨_, _, nx, .inl ⟨e1, e2, rfl⟩⟩
          · exact ⟨_, _, nx, .inr ⟨e1, e2, rfl⟩⟩
        obtain ⟨S1', st1', r1⟩ := r.opA hna
        obtain ⟨bv, rfl⟩ : ∃ bv, va = .bool bv := by rcases hans with ⟨_, rfl, _⟩ | ⟨_, rfl, _⟩ <;> exact ⟨_, rfl⟩
        refine And.intro r1.act ?_
        simp (disch := (first | omega | (simp only [size_new, size_newm, size_wr, size_wrm] <;> omega) | fail)) only [go_sem, Nat.reduceBEq, Nat.reduceAdd, Nat.reduceMul, Nat.reduceLeDiff, ↓reduceIte, rd_new_lt, own_new_lt, mp_new_lt, rd_newm_lt, own_newm_lt, mp_newm_lt, rd_wr_ne, own_wr_ne, mp_wr_ne, rd_wrm_ne, own_wrm_ne, mp_wrm_ne, rd_new_eq, own_new_eq, mp_newm_eq]
        refine (InvH.call ((dary_nest n2 hd2).insert h x key sq r1.b) (methR0 (f := n_dary_Nest_Insert) (by kernel_rfl))).mono ?_
        rintro vb HB hvb
        obtain ⟨rfl, mb, hnb⟩ : vb = .bool bv ∧ ∃ mb, Nx (fun H S st w => DaryAt H n2 S d2 st w) S2 st2 HA HB wn mb := by
          rcases hans with ⟨e1, e2, rfl⟩ | ⟨e1, e2, rfl⟩ <;> rcases hvb with ⟨g1, g2, nx⟩ | ⟨g1, g2, nx⟩
          · exact ⟨g2.trans e2.symm, _, nx⟩
          · first | exact absurd g1 e1 | exact absurd e1 g1
          · first | exact absurd g1 e1 | exact absurd e1 g1
          · exact ⟨g2.trans e2.symm, _, nx⟩
        obtain ⟨S2', st2', r2⟩ := r1.opB hnb
        refine And.intro r2.act ?_
        simp (disch := (first | omega | (simp only [size_new, size_newm, size_wr, size_wrm] <;> omega) | fail)) only [go_sem, Nat.reduceBEq, Nat.reduceAdd, Nat.reduceMul, Nat.reduceLeDiff, ↓reduceIte, rd_new_lt, own_new_lt, mp_new_lt, rd_newm_lt, own_newm_lt, mp_newm_lt, rd_wr_ne, own_wr_ne, mp_wr_ne, rd_wrm_ne, own_wrm_ne, mp_wrm_ne, rd_new_eq, own_new_eq, mp_newm_eq]
        exact ⟨trivial, trivial, trivial, trivial, trivial, trivial, 0, bv, _, _, _, _, _, (by first | rfl | trivial), (by first | rfl | trivial), (by first | rfl | trivial), (by first | rfl | trivial), r2⟩
      simp (disch := (first | omega | (simp only [size_new, size_newm, size_wr, size_wrm] <;> omega) | fail)) only [go_sem, Nat.reduceBEq, Nat.reduceAdd, Nat.reduceMul, Nat.reduceLeDiff, ↓reduceIte, rd_new_lt, own_new_lt, mp_new_lt, rd_newm_lt, own_newm_lt, mp_newm_lt, rd_wr_ne, own_wr_ne, mp_wr_ne, rd_wrm_ne, own_wrm_ne, mp_wrm_ne, rd_new_eq, own_new_eq, mp_newm_eq]
      refine Both.dec (fun hk2 => ?_) (fun hk2 => ?_)
      · simp (disch := (first | omega | (simp only [size_new, size_newm, size_wr, size_wrm] <;> omega) | fail)) only [go_sem, Nat.reduceBEq, Nat.reduceAdd, Nat.reduceMul, Nat.reduceLeDiff, ↓reduceIte, rd_new_lt, own_new_lt, mp_new_lt, rd_newm_lt, own_newm_lt, mp_newm_lt, rd_wr_ne, own_wr_ne, mp_wr_ne, rd_wrm_ne, own_wrm_ne, mp_wrm_ne, rd_new_eq, own_new_eq, mp_newm_eq, rd_of_own r.act]
        refine (InvH.call ((dary_nest n1 hd1).min h r.a) (methR0 (f := n_dary_Nest_Min) (by kernel_rfl))).mono ?_
        rintro va HA hva
        obtain ⟨wn, ma, hna, hans⟩ : ∃ (wn : Nw) (ma : Int), Nx (fun H S st w => DaryAt H n1 S d1 st w) S1 st1 H5 HA wn ma ∧ ((w.len h = 0 ∧ va = .tuple [i64 0, .bool false].toArray ∧ wn = w) ∨ (∃ y, w.first h y ∧ va = .tuple [i64 y, .bool true].toArray ∧ wn = w)) := by
          rcases hva with ⟨e1, e2, nx⟩ | ⟨y, e1, e2, nx⟩
          · exact ⟨_, _, nx, .inl ⟨e1, e2, rfl⟩⟩
          · exact ⟨_, _, nx, .inr ⟨y, e1, e2, rfl⟩⟩
        obtain ⟨S1', st1', r1⟩ := r.opA hna
        obtain ⟨sv, tv, rfl⟩ : ∃ (sv : Int) (tv : Bool), va = .tuple [i64 sv, .bool tv].toArray := by rcases hans with ⟨_, rfl, _⟩ | ⟨_, _, rfl, _⟩ <;> exact ⟨_, _, rfl⟩
        simp (disch := (first | omega | (simp only [size_new, size_newm, size_wr, size_wrm] <;> omega) | fail)) only [go_sem, Nat.reduceBEq, Nat.reduceAdd, Nat.reduceMul, Nat.reduceLeDiff, ↓reduceIte, rd_new_lt, own_new_lt, mp_new_lt, rd_newm_lt, own_newm_lt, mp_newm_lt, rd_wr_ne, own_wr_ne, mp_wr_ne, rd_wrm_ne, own_wrm_ne, mp_wrm_ne, rd_new_eq, own_new_eq, mp_newm_eq, rd_of_own r1.act]
        refine (InvH.call ((dary_nest n2 hd2).min h r1.b) (methR0 (f := n_dary_Nest_Min) (by kernel_rfl))).mono ?_
        rintro vb HB hvb
        obtain ⟨rfl, mb, hnb⟩ : vb = .tuple [i64 sv, .bool tv].toArray ∧ ∃ mb, Nx (fun H S st w => DaryAt H n2 S d2 st w) S2 st2 HA HB wn mb := by
          rcases hans with ⟨e1, e2, rfl⟩ | ⟨y, e1, e2, rfl⟩ <;> rcases hvb with ⟨g1, g2, nx⟩ | ⟨y', g1, g2, nx⟩
          · exact ⟨g2.trans e2.symm, _, nx⟩
          · have := g1.pos; omega
          · have := e1.pos; omega
          · obtain rfl := e1.uniq g1
            exact ⟨g2.trans e2.symm, _, nx⟩
        obtain ⟨S2', st2', r2⟩ := r1.opB hnb
        simp (disch := (first | omega | (simp only [size_new, size_newm, size_wr, size_wrm] <;> omega) | fail)) only [go_sem, Nat.reduceBEq, Nat.reduceAdd, Nat.reduceMul, Nat.reduceLeDiff, ↓reduceIte, rd_new_lt, own_new_lt, mp_new_lt, rd_newm_lt, own_newm_lt, mp_newm_lt, rd_wr_ne, own_wr_ne, mp_wr_ne, rd_wrm_ne, own_wrm_ne, mp_wrm_ne, rd_new_eq, own_new_eq, mp_newm_eq]
        exact ⟨trivial, trivial, trivial, trivial, trivial, trivial, sv, tv, _, _, _, _, _, rfl, rfl, rfl, rfl, r2⟩
      simp (disch := (first | omega | (simp only [size_new, size_newm, size_wr, size_wrm] <;> omega) | fail)) only [go_sem, Nat.reduceBEq, Nat.reduceAdd, Nat.reduceMul, Nat.reduceLeDiff, ↓reduceIte, rd_new_lt, own_new_lt, mp_new_lt, rd_newm_lt, own_newm_lt, mp_newm_lt, rd_wr_ne, own_wr_ne, mp_wr_ne, rd_wrm_ne, own_wrm_ne, mp_wrm_ne, rd_new_eq, own_new_eq, mp_newm_eq]
      refine Both.dec (fun hk3 => ?_) (fun hk3 => ?_)
      · simp (disch := (first | omega | (simp only [size_new, size_newm, size_wr, size_wrm] <;> omega) | fail)) only [go_sem, Nat.reduceBEq, Nat.reduceAdd, Nat.reduceMul, Nat.reduceLeDiff, ↓reduceIte, rd_new_lt, own_new_lt, mp_new_lt, rd_newm_lt, own_newm_lt, mp_newm_lt, rd_wr_ne, own_wr_ne, mp_wr_ne, rd_wrm_ne, own_wrm_ne, mp_wrm_ne, rd_new_eq, own_new_eq, mp_newm_eq, rd_of_own r.act]
        refine (InvH.call ((dary_nest n1 hd1).extract h r.a) (methR0 (f := n_dary_Nest_Extract) (by kernel_rfl))).mono ?_
        rintro va HA hva
        obtain ⟨wn, ma, hna, hans⟩ : ∃ (wn : Nw) (ma : Int), Nx (fun H S st w => DaryAt H n1 S d1 st w) S1 st1 H5 HA wn ma ∧ ((w.len h = 0 ∧ va = .tuple [i64 0, .bool false].toArray ∧ wn = w) ∨ (∃ y, w.first h y ∧ va = .tuple [i64 y, .bool true].toArray ∧ wn = w.put y (0, 0, 0))) := by
          rcases hva with ⟨e1, e2, nx⟩ | ⟨y, e1, e2, nx⟩
          · exact ⟨_, _, nx, .inl ⟨e1, e2, rfl⟩⟩
          · exact ⟨_, _, nx, .inr ⟨y, e1, e2, rfl⟩⟩
        obtain ⟨S1', st1', r1⟩ := r.opA hna
        obtain ⟨sv, tv, rfl⟩ : ∃ (sv : Int) (tv : Bool), va = .tuple [i64 sv, .bool tv].toArray := by rcases hans with ⟨_, rfl, _⟩ | ⟨_, _, rfl, _⟩ <;> exact ⟨_, _, rfl⟩
        simp (disch := (first | omega | (simp only [size_new, size_newm, size_wr, size_wrm] <;> omega) | fail)) only [go_sem, Nat.reduceBEq, Nat.reduceAdd, Nat.reduceMul, Nat.reduceLeDiff, ↓reduceIte, rd_new_lt, own_new_lt, mp_new_lt, rd_newm_lt, own_newm_lt, mp_newm_lt, rd_wr_ne, own_wr_ne, mp_wr_ne, rd_wrm_ne, own_wrm_ne, mp_wrm_ne, rd_new_eq, own_new_eq, mp_newm_eq, rd_of_own r1.act]
        refine (InvH.call ((dary_nest n2 hd2).extract h r1.b) (methR0 (f := n_dary_Nest_Extract) (by kernel_rfl))).mono ?_
        rintro vb HB hvb
        obtain ⟨rfl, mb, hnb⟩ : vb = .tuple [i64 sv, .bool tv].toArray ∧ ∃ mb, Nx (fun H S st w => DaryAt H n2 S d2 st w) S2 st2 HA HB wn mb := by
          rcases hans with ⟨e1, e2, rfl⟩ | ⟨y, e1, e2, rfl⟩ <;> rcases hvb with ⟨g1, g2, nx⟩ | ⟨y', g1, g2, nx⟩
          · exact ⟨g2.trans e2.symm, _, nx⟩
          · have := g1.pos; omega
          · have := e1.pos; omega
          · obtain rfl := e1.uniq g1
            exact ⟨g2.trans e2.symm, _, nx⟩
        obtain ⟨S2', st2', r2⟩ := r1.opB hnb
        simp (disch := (first | omega | (simp only [size_new, size_newm, size_wr, size_wrm] <;> omega) | fail)) only [go_sem, Nat.reduceBEq, Nat.reduceAdd, Nat.reduceMul, Nat.reduceLeDiff, ↓reduceIte, rd_new_lt, own_new_lt, mp_new_lt, rd_newm_lt, own_newm_lt, mp_newm_lt, rd_wr_ne, own_wr_ne, mp_wr_ne, rd_wrm_ne, own_wrm_ne, mp_wrm_ne, rd_new_eq, own_new_eq, mp_newm_eq]
        exact ⟨trivial, trivial, trivial, trivial, trivial, trivial, sv, tv, _, _, _, _, _, rfl, rfl, rfl, rfl, r2⟩
      simp (disch := (first | omega | (simp only [size_new, size_newm, size_wr, size_wrm] <;> omega) | fail)) only [go_sem, Nat.reduceBEq, Nat.reduceAdd, Nat.reduceMul, Nat.reduceLeDiff, ↓reduceIte, rd_new_lt, own_new_lt, mp_new_lt, rd_newm_lt, own_newm_lt, mp_newm_lt, rd_wr_ne, own_wr_ne, mp_wr_ne, rd_wrm_ne, own_wrm_ne, mp_wrm_ne, rd_new_eq, own_new_eq, mp_newm_eq]
      refine Both.dec (fun hk4 => ?_) (fun hk4 => ?_)
      · simp (disch := (first | omega | (simp only [size_new, size_newm, size_wr, size_wrm] <;> omega) | fail)) only [go_sem, Nat.reduceBEq, Nat.reduceAdd, Nat.reduceMul, Nat.reduceLeDiff, ↓reduceIte, rd_new_lt, own_new_lt, mp_new_lt, rd_newm_lt, own_newm_lt, mp_newm_lt, rd_wr_ne, own_wr_ne, mp_wr_ne, rd_wrm_ne, own_wrm_ne, mp_wrm_ne, rd_new_eq, own_new_eq, mp_newm_eq]
        refine InvV.intro (fun H' => H'.own bb = some [i64 kind, i64 h, i64 x, i64 key, u64 sq]) r.act ?_
        simp (disch := (first | omega | (simp only [size_new, size_newm, size_wr, size_wrm] <;> omega) | fail)) only [go_sem, Nat.reduceBEq, Nat.reduceAdd, Nat.reduceMul, Nat.reduceLeDiff, ↓reduceIte, rd_new_lt, own_new_lt, mp_new_lt, rd_newm_lt, own_newm_lt, mp_newm_lt, rd_wr_ne, own_wr_ne, mp_wr_ne, rd_wrm_ne, own_wrm_ne, mp_wrm_ne, rd_new_eq, own_new_eq, mp_newm_eq]
        refine StbV.intro (i64 x) (fun H' hI => ?_) ?_
        · simp (disch := (first | omega | (simp only [size_new, size_newm, size_wr, size_wrm] <;> omega) | fail)) only [go_sem, Nat.reduceBEq, Nat.reduceAdd, Nat.reduceMul, Nat.reduceLeDiff, ↓reduceIte, rd_new_lt, own_new_lt, mp_new_lt, rd_newm_lt, own_newm_lt, mp_newm_lt, rd_wr_ne, own_wr_ne, mp_wr_ne, rd_wrm_ne, own_wrm_ne, mp_wrm_ne, rd_new_eq, own_new_eq, mp_newm_eq, rd_of_own hI]
          exact ⟨trivial, trivial⟩
        simp (disch := (first | omega | (simp only [size_new, size_newm, size_wr, size_wrm] <;> omega) | fail)) only [go_sem, Nat.reduceBEq, Nat.reduceAdd, Nat.reduceMul, Nat.reduceLeDiff, ↓reduceIte, rd_new_lt, own_new_lt, mp_new_lt, rd_newm_lt, own_newm_lt, mp_newm_lt, rd_wr_ne, own_wr_ne, mp_wr_ne, rd_wrm_ne, own_wrm_ne, mp_wrm_ne, rd_new_eq, own_new_eq, mp_newm_eq]
        refine StbV.intro (ent key sq) (fun H' hI => ?_) ?_
        · simp (disch := (first | omega | (simp only [size_new, size_newm, size_wr, size_wrm] <;> omega) | fail)) only [go_sem, Nat.reduceBEq, Nat.reduceAdd, Nat.reduceMul, Nat.reduceLeDiff, ↓reduceIte, rd_new_lt, own_new_lt, mp_new_lt, rd_newm_lt, own_newm_lt, mp_newm_lt, rd_wr_ne, own_wr_ne, mp_wr_ne, rd_wrm_ne, own_wrm_ne, mp_wrm_ne, rd_new_eq, own_new_eq, mp_newm_eq, rd_of_own hI]
          exact ⟨trivial, trivial⟩
        simp (disch := (first | omega | (simp only [size_new, size_newm, size_wr, size_wrm] <;> omega) | fail)) only [go_sem, Nat.reduceBEq, Nat.reduceAdd, Nat.reduceMul, Nat.reduceLeDiff, ↓reduceIte, rd_new_lt, own_new_lt, mp_new_lt, rd_newm_lt, own_newm_lt, mp_newm_lt, rd_wr_ne, own_wr_ne, mp_wr_ne, rd_wrm_ne, own_wrm_ne, mp_wrm_ne, rd_new_eq, own_new_eq, mp_newm_eq]
        refine StbV.intro (i64 x) (fun H' hI => ?_) ?_
        · simp (disch := (first | omega | (simp only [size_new, size_newm, size_wr, size_wrm] <;> omega) | fail)) only [go_sem, Nat.reduceBEq, Nat.reduceAdd, Nat.reduceMul, Nat.reduceLeDiff, ↓reduceIte, rd_new_lt, own_new_lt, mp_new_lt, rd_newm_lt, own_newm_lt, mp_newm_lt, rd_wr_ne, own_wr_ne, mp_wr_ne, rd_wrm_ne, own_wrm_ne, mp_wrm_ne, rd_new_eq, own_new_eq, mp_newm_eq, rd_of_own hI]
          exact ⟨trivial, trivial⟩
        simp (disch := (first | omega | (simp only [size_new, size_newm, size_wr, size_wrm] <;> omega) | fail)) only [go_sem, Nat.reduceBEq, Nat.reduceAdd, Nat.reduceMul, Nat.reduceLeDiff, ↓reduceIte, rd_new_lt, own_new_lt, mp_new_lt, rd_newm_lt, own_newm_lt, mp_newm_lt, rd_wr_ne, own_wr_ne, mp_wr_ne, rd_wrm_ne, own_wrm_ne, mp_wrm_ne, rd_new_eq, own_new_eq, mp_newm_eq]
        refine StbV.intro (ent key sq) (fun H' hI => ?_) ?_
        · simp (disch := (first | omega | (simp only [size_new, size_newm, size_wr, size_wrm] <;> omega) | fail)) only [go_sem, Nat.reduceBEq, Nat.reduceAdd, Nat.reduceMul, Nat.reduceLeDiff, ↓reduceIte, rd_new_lt, own_new_lt, mp_new_lt, rd_newm_lt, own_newm_lt, mp_newm_lt, rd_wr_ne, own_wr_ne, mp_wr_ne, rd_wrm_ne, own_wrm_ne, mp_wrm_ne, rd_new_eq, own_new_eq, mp_newm_eq, rd_of_own hI]
          exact ⟨trivial, trivial⟩
        simp (disch := (first | omega | (simp only [size_new, size_newm, size_wr, size_wrm] <;> omega) | fail)) only [go_sem, Nat.reduceBEq, Nat.reduceAdd, Nat.reduceMul, Nat.reduceLeDiff, ↓reduceIte, rd_new_lt, own_new_lt, mp_new_lt, rd_newm_lt, own_newm_lt, mp_newm_lt, rd_wr_ne, own_wr_ne, mp_wr_ne, rd_wrm_ne, own_wrm_ne, mp_wrm_ne, rd_new_eq, own_new_eq, mp_newm_eq]
        refine (InvH.call ((dary_nest n1 hd1).decrease x key sq r.a) (methR0 (f := n_dary_Nest_Decrease) (by kernel_rfl))).mono ?_
        rintro va HA hva
        obtain ⟨wn, ma, hna, hans⟩ : ∃ (wn : Nw) (ma : Int), Nx (fun H S st w => DaryAt H n1 S d1 st w) S1 st1 H5 HA wn ma ∧ ((¬ w.canLower x key sq ∧ va = .bool false ∧ wn = w) ∨ (w.canLower x key sq ∧ va = .bool true ∧ ∃ y, w.cs[x.toNat]? = some y ∧ wn = w.put x (y.1, key, sq))) := by
          rcases hva with ⟨e1, e2, nx⟩ | ⟨e1, e2, y, hy, nx⟩
          · exact ⟨_, _, nx, .inl ⟨e1, e2, rfl⟩⟩
          · exact ⟨_, _, nx, .inr ⟨e1, e2, y, hy, rfl⟩⟩
        obtain ⟨S1', st1', r1⟩ := r.opA hna
        obtain ⟨bv, rfl⟩ : ∃ bv, va = .bool bv := by rcases hans with ⟨_, rfl, _⟩ | ⟨_, rfl, _⟩ <;> exact ⟨_, rfl⟩
        refine And.intro r1.act ?_
        simp (disch := (first | omega | (simp only [size_new, size_newm, size_wr, size_wrm] <;> omega) | fail)) only [go_sem, Nat.reduceBEq, Nat.reduceAdd, Nat.reduceMul, Nat.reduceLeDiff, ↓reduceIte, rd_new_lt, own_new_lt, mp_new_lt, rd_newm_lt, own_newm_lt, mp_newm_lt, rd_wr_ne, own_wr_ne, mp_wr_ne, rd_wrm_ne, own_wrm_ne, mp_wrm_ne, rd_new_eq, own_new_eq, mp_newm_eq]
        refine (InvH.call ((dary_nest n2 hd2).decrease x key sq r1.b) (methR0 (f := n_dary_Nest_Decrease) (by kernel_rfl))).mono ?_
        rintro vb HB hvb
        obtain ⟨rfl, mb, hnb⟩ : vb = .bool bv ∧ ∃ mb, Nx (fun H S st w => DaryAt H n2 S d2 st w) S2 st2 HA HB wn mb := by
          rcases hans with ⟨e1, e2, rfl⟩ | ⟨e1, e2, y, hy, rfl⟩ <;> rcases hvb with ⟨g1, g2, nx⟩ | ⟨g1, g2, y', hy', nx⟩
          · exact ⟨g2.trans e2.symm, _, nx⟩
          · exact absurd g1 e1
          · exact absurd e1 g1
          · rw [hy] at hy'
            injection hy' with hy'
            subst hy'
            exact ⟨g2.trans e2.symm, _, nx⟩
        obtain ⟨S2', st2', r2⟩ := r1.opB hnb
        refine And.intro r2.act ?_
        simp (disch := (first | omega | (simp only [size_new, size_newm, size_wr, size_wrm] <;> omega) | fail)) only [go_sem, Nat.reduceBEq, Nat.reduceAdd, Nat.reduceMul, Nat.reduceLeDiff, ↓reduceIte, rd_new_lt, own_new_lt, mp_new_lt, rd_newm_lt, own_newm_lt, mp_newm_lt, rd_wr_ne, own_wr_ne, mp_wr_ne, rd_wrm_ne, own_wrm_ne, mp_wrm_ne, rd_new_eq, own_new_eq, mp_newm_eq]
        exact ⟨trivial, trivial, trivial, trivial, trivial, trivial, 0, bv, _, _, _, _, _, (by first | rfl | trivial), (by first | rfl | trivial), (by first | rfl | trivial), (by first | rfl | trivial), r2⟩
      simp (disch := (first | omega | (simp only [size_new, size_newm, size_wr, size_wrm] <;> omega) | fail)) only [go_sem, Nat.reduceBEq, Nat.reduceAdd, Nat.reduceMul, Nat.reduceLeDiff, ↓reduceIte, rd_new_lt, own_new_lt, mp_new_lt, rd_newm_lt, own_newm_lt, mp_newm_lt, rd_wr_ne, own_wr_ne, mp_wr_ne, rd_wrm_ne, own_wrm_ne, mp_wrm_ne, rd_new_eq, own_new_eq, mp_newm_eq]
      refine Both.dec (fun hk5 => ?_) (fun hk5 => ?_)
      · simp (disch := (first | omega | (simp only [size_new, size_newm, size_wr, size_wrm] <;> omega) | fail)) only [go_sem, Nat.reduceBEq, Nat.reduceAdd, Nat.reduceMul, Nat.reduceLeDiff, ↓reduceIte, rd_new_lt, own_new_lt, mp_new_lt, rd_newm_lt, own_newm_lt, mp_newm_lt, rd_wr_ne, own_wr_ne, mp_wr_ne, rd_wrm_ne, own_wrm_ne, mp_wrm_ne, rd_new_eq, own_new_eq, mp_newm_eq]
        refine InvV.intro (fun H' => H'.own bb = some [i64 kind, i64 h, i64 x, i64 key, u64 sq]) r.act ?_
        simp (disch := (first | omega | (simp only [size_new, size_newm, size_wr, size_wrm] <;> omega) | fail)) only [go_sem, Nat.reduceBEq, Nat.reduceAdd, Nat.reduceMul, Nat.reduceLeDiff, ↓reduceIte, rd_new_lt, own_new_lt, mp_new_lt, rd_newm_lt, own_newm_lt, mp_newm_lt, rd_wr_ne, own_wr_ne, mp_wr_ne, rd_wrm_ne, own_wrm_ne, mp_wrm_ne, rd_new_eq, own_new_eq, mp_newm_eq]
        refine StbV.intro (i64 x) (fun H' hI => ?_) ?_
        · simp (disch := (first | omega | (simp only [size_new, size_newm, size_wr, size_wrm] <;> omega) | fail)) only [go_sem, Nat.reduceBEq, Nat.reduceAdd, Nat.reduceMul, Nat.reduceLeDiff, ↓reduceIte, rd_new_lt, own_new_lt, mp_new_lt, rd_newm_lt, own_newm_lt, mp_newm_lt, rd_wr_ne, own_wr_ne, mp_wr_ne, rd_wrm_ne, own_wrm_ne, mp_wrm_ne, rd_new_eq, own_new_eq, mp_newm_eq, rd_of_own hI]
          exact ⟨trivial, trivial⟩
        simp (disch := (first | omega | (simp only [size_new, size_newm, size_wr, size_wrm] <;> omega) | fail)) only [go_sem, Nat.reduceBEq, Nat.reduceAdd, Nat.reduceMul, Nat.reduceLeDiff, ↓reduceIte, rd_new_lt, own_new_lt, mp_new_lt, rd_newm_lt, own_newm_lt, mp_newm_lt, rd_wr_ne, own_wr_ne, mp_wr_ne, rd_wrm_ne, own_wrm_ne, mp_wrm_ne, rd_new_eq, own_new_eq, mp_newm_eq]
        refine StbV.intro (i64 x) (fun H' hI => ?_) ?_
        · simp (disch := (first | omega | (simp only [size_new, size_newm, size_wr, size_wrm] <;> omega) | fail)) only [go_sem, Nat.reduceBEq, Nat.reduceAdd, Nat.reduceMul, Nat.reduceLeDiff, ↓reduceIte, rd_new_lt, own_new_lt, mp_new_lt, rd_newm_lt, own_newm_lt, mp_newm_lt, rd_wr_ne, own_wr_ne, mp_wr_ne, rd_wrm_ne, own_wrm_ne, mp_wrm_ne, rd_new_eq, own_new_eq, mp_newm_eq, rd_of_own hI]
          exact ⟨trivial, trivial⟩
        simp (disch := (first | omega | (simp only [size_new, size_newm, size_wr, size_wrm] <;> omega) | fail)) only [go_sem, Nat.reduceBEq, Nat.reduceAdd, Nat.reduceMul, Nat.reduceLeDiff, ↓reduceIte, rd_new_lt, own_new_lt, mp_new_lt, rd_newm_lt, own_newm_lt, mp_newm_lt, rd_wr_ne, own_wr_ne, mp_wr_ne, rd_wrm_ne, own_wrm_ne, mp_wrm_ne, rd_new_eq, own_new_eq, mp_newm_eq]
        refine (InvH.call ((dary_nest n1 hd1).delete x r.a) (methR0 (f := n_dary_Nest_Delete) (by kernel_rfl))).mono ?_
        rintro va HA hva
        obtain ⟨wn, ma, hna, hans⟩ : ∃ (wn : Nw) (ma : Int), Nx (fun H S st w => DaryAt H n1 S d1 st w) S1 st1 H5 HA wn ma ∧ ((¬ InC w.cs x ∧ va = .bool false ∧ wn = w) ∨ (InC w.cs x ∧ va = .bool true ∧ wn = w.put x (0, 0, 0))) := by
          rcases hva with ⟨e1, e2, nx⟩ | ⟨e1, e2, y, hy, nx⟩
          · exact ⟨_, _, nx, .inl ⟨e1, e2, rfl⟩⟩
          · exact ⟨_, _, nx, .inr ⟨e1, e2, rfl⟩⟩
        obtain ⟨S1', st1', r1⟩ := r.opA hna
        obtain ⟨bv, rfl⟩ : ∃ bv, va = .bool bv := by rcases hans with ⟨_, rfl, _⟩ | ⟨_, rfl, _⟩ <;> exact ⟨_, rfl⟩
        refine And.intro r1.act ?_
        simp (disch := (first | omega | (simp only [size_new, size_newm, size_wr, size_wrm] <;> omega) | fail)) only [go_sem, Nat.reduceBEq, Nat.reduceAdd, Nat.reduceMul, Nat.reduceLeDiff, ↓reduceIte, rd_new_lt, own_new_lt, mp_new_lt, rd_newm_lt, own_newm_lt, mp_newm_lt, rd_wr_ne, own_wr_ne, mp_wr_ne, rd_wrm_ne, own_wrm_ne, mp_wrm_ne, rd_new_eq, own_new_eq, mp_newm_eq]
        refine (InvH.call ((dary_nest n2 hd2).delete x r1.b) (methR0 (f := n_dary_Nest_Delete) (by kernel_rfl))).mono ?_
        rintro vb HB hvb
        obtain ⟨rfl, mb, hnb⟩ : vb = .bool bv ∧ ∃ mb, Nx (fun H S st w => DaryAt H n2 S d2 st w) S2 st2 HA HB wn mb := by
          rcases hans with ⟨e1, e2, rfl⟩ | ⟨e1, e2, rfl⟩ <;> rcases hvb with ⟨g1, g2, nx⟩ | ⟨g1, g2, y', hy', nx⟩
          · exact ⟨g2.trans e2.symm, _, nx⟩
          · exact absurd g1 e1
          · exact absurd e1 g1
          · exact ⟨g2.trans e2.symm, _, nx⟩
        obtain ⟨S2', st2', r2⟩ := r1.opB hnb
        refine And.intro r2.act ?_
        simp (disch := (first | omega | (simp only [size_new, size_newm, size_wr, size_wrm] <;> omega) | fail)) only [go_sem, Nat.reduceBEq, Nat.reduceAdd, Nat.reduceMul, Nat.reduceLeDiff, ↓reduceIte, rd_new_lt, own_new_lt, mp_new_lt, rd_newm_lt, own_newm_lt, mp_newm_lt, rd_wr_ne, own_wr_ne, mp_wr_ne, rd_wrm_ne, own_wrm_ne, mp_wrm_ne, rd_new_eq, own_new_eq, mp_newm_eq]
        exact ⟨trivial, trivial, trivial, trivial, trivial, trivial, 0, bv, _, _, _, _, _, (by first | rfl | trivial), (by first | rfl | trivial), (by first | rfl | trivial), (by first | rfl | trivial), r2⟩
      simp (disch := (first | omega | (simp only [size_new, size_newm, size_wr, size_wrm] <;> omega) | fail)) only [go_sem, Nat.reduceBEq, Nat.reduceAdd, Nat.reduceMul, Nat.reduceLeDiff, ↓reduceIte, rd_new_lt, own_new_lt, mp_new_lt, rd_newm_lt, own_newm_lt, mp_newm_lt, rd_wr_ne, own_wr_ne, mp_wr_ne, rd_wrm_ne, own_wrm_ne, mp_wrm_ne, rd_new_eq, own_new_eq, mp_newm_eq]
      refine Both.dec (fun hk6 => ?_) (fun hk6 => ?_)
      · simp (disch := (first | omega | (simp only [size_new, size_newm, size_wr, size_wrm] <;> omega) | fail)) only [go_sem, Nat.reduceBEq, Nat.reduceAdd, Nat.reduceMul, Nat.reduceLeDiff, ↓reduceIte, rd_new_lt, own_new_lt, mp_new_lt, rd_newm_lt, own_newm_lt, mp_newm_lt, rd_wr_ne, own_wr_ne, mp_wr_ne, rd_wrm_ne, own_wrm_ne, mp_wrm_ne, rd_new_eq, own_new_eq, mp_newm_eq]
        refine InvV.intro (fun H' => H'.own bb = some [i64 kind, i64 h, i64 x, i64 key, u64 sq]) r.act ?_
        simp (disch := (first | omega | (simp only [size_new, size_newm, size_wr, size_wrm] <;> omega) | fail)) only [go_sem, Nat.reduceBEq, Nat.reduceAdd, Nat.reduceMul, Nat.reduceLeDiff, ↓reduceIte, rd_new_lt, own_new_lt, mp_new_lt, rd_newm_lt, own_newm_lt, mp_newm_lt, rd_wr_ne, own_wr_ne, mp_wr_ne, rd_wrm_ne, own_wrm_ne, mp_wrm_ne, rd_new_eq, own_new_eq, mp_newm_eq]
        refine StbV.intro (i64 h) (fun H' hI => ?_) ?_
        · simp (disch := (first | omega | (simp only [size_new, size_newm, size_wr, size_wrm] <;> omega) | fail)) only [go_sem, Nat.reduceBEq, Nat.reduceAdd, Nat.reduceMul, Nat.reduceLeDiff, ↓reduceIte, rd_new_lt, own_new_lt, mp_new_lt, rd_newm_lt, own_newm_lt, mp_newm_lt, rd_wr_ne, own_wr_ne, mp_wr_ne, rd_wrm_ne, own_wrm_ne, mp_wrm_ne, rd_new_eq, own_new_eq, mp_newm_eq, rd_of_own hI]
          exact ⟨trivial, trivial⟩
        simp (disch := (first | omega | (simp only [size_new, size_newm, size_wr, size_wrm] <;> omega) | fail)) only [go_sem, Nat.reduceBEq, Nat.reduceAdd, Nat.reduceMul, Nat.reduceLeDiff, ↓reduceIte, rd_new_lt, own_new_lt, mp_new_lt, rd_newm_lt, own_newm_lt, mp_newm_lt, rd_wr_ne, own_wr_ne, mp_wr_ne, rd_wrm_ne, own_wrm_ne, mp_wrm_ne, rd_new_eq, own_new_eq, mp_newm_eq]
        refine StbV.intro (i64 x) (fun H' hI => ?_) ?_
        · simp (disch := (first | omega | (simp only [size_new, size_newm, size_wr, size_wrm] <;> omega) | fail)) only [go_sem, Nat.reduceBEq, Nat.reduceAdd, Nat.reduceMul, Nat.reduceLeDiff, ↓reduceIte, rd_new_lt, own_new_lt, mp_new_lt, rd_newm_lt, own_newm_lt, mp_newm_lt, rd_wr_ne, own_wr_ne, mp_wr_ne, rd_wrm_ne, own_wrm_ne, mp_wrm_ne, rd_new_eq, own_new_eq, mp_newm_eq, rd_of_own hI]
          exact ⟨trivial, trivial⟩
        simp (disch := (first | omega | (simp only [size_new, size_newm, size_wr, size_wrm] <;> omega) | fail)) only [go_sem, Nat.reduceBEq, Nat.reduceAdd, Nat.reduceMul, Nat.reduceLeDiff, ↓reduceIte, rd_new_lt, own_new_lt, mp_new_lt, rd_newm_lt, own_newm_lt, mp_newm_lt, rd_wr_ne, own_wr_ne, mp_wr_ne, rd_wrm_ne, own_wrm_ne, mp_wrm_ne, rd_new_eq, own_new_eq, mp_newm_eq]
        refine StbV.intro (i64 h) (fun H' hI => ?_) ?_
        · simp (disch := (first | omega | (simp only [size_new, size_newm, size_wr, size_wrm] <;> omega) | fail)) only [go_sem, Nat.reduceBEq, Nat.reduceAdd, Nat.reduceMul, Nat.reduceLeDiff, ↓reduceIte, rd_new_lt, own_new_lt, mp_new_lt, rd_newm_lt, own_newm_lt, mp_newm_lt, rd_wr_ne, own_wr_ne, mp_wr_ne, rd_wrm_ne, own_wrm_ne, mp_wrm_ne, rd_new_eq, own_new_eq, mp_newm_eq, rd_of_own hI]
          exact ⟨trivial, trivial⟩
        simp (disch := (first | omega | (simp only [size_new, size_newm, size_wr, size_wrm] <;> omega) | fail)) only [go_sem, Nat.reduceBEq, Nat.reduceAdd, Nat.reduceMul, Nat.reduceLeDiff, ↓reduceIte, rd_new_lt, own_new_lt, mp_new_lt, rd_newm_lt, own_newm_lt, mp_newm_lt, rd_wr_ne, own_wr_ne, mp_wr_ne, rd_wrm_ne, own_wrm_ne, mp_wrm_ne, rd_new_eq, own_new_eq, mp_newm_eq]
        refine StbV.intro (i64 x) (fun H' hI => ?_) ?_
        · simp (disch := (first | omega | (simp only [size_new, size_newm, size_wr, size_wrm] <;> omega) | fail)) only [go_sem, Nat.reduceBEq, Nat.reduceAdd, Nat.reduceMul, Nat.reduceLeDiff, ↓reduceIte, rd_new_lt, own_new_lt, mp_new_lt, rd_newm_lt, own_newm_lt, mp_newm_lt, rd_wr_ne, own_wr_ne, mp_wr_ne, rd_wrm_ne, own_wrm_ne, mp_wrm_ne, rd_new_eq, own_new_eq, mp_newm_eq, rd_of_own hI]
          exact ⟨trivial, trivial⟩
        simp (disch := (first | omega | (simp only [size_new, size_newm, size_wr, size_wrm] <;> omega) | fail)) only [go_sem, Nat.reduceBEq, Nat.reduceAdd, Nat.reduceMul, Nat.reduceLeDiff, ↓reduceIte, rd_new_lt, own_new_lt, mp_new_lt, rd_newm_lt, own_newm_lt, mp_newm_lt, rd_wr_ne, own_wr_ne, mp_wr_ne, rd_wrm_ne, own_wrm_ne, mp_wrm_ne, rd_new_eq, own_new_eq, mp_newm_eq]
        refine (InvH.call ((dary_nest n1 hd1).meld h x r.a) (methR0 (f := n_dary_Nest_Meld) (by kernel_rfl))).mono ?_
        rintro va HA hva
        obtain ⟨wn, ma, hna, hans⟩ : ∃ (wn : Nw) (ma : Int), Nx (fun H S st w => DaryAt H n1 S d1 st w) S1 st1 H5 HA wn ma ∧ ((¬ (w.has h ∧ w.has x ∧ h ≠ x) ∧ va = .bool false ∧ wn = w) ∨ ((w.has h ∧ w.has x ∧ h ≠ x) ∧ va = .bool true ∧ wn = w.join h x)) := by
          rcases hva with ⟨e1, e2, nx⟩ | ⟨e1, e2, nx⟩
          · exact ⟨_, _, nx, .inl ⟨e1, e2, rfl⟩⟩
          · exact ⟨_, _, nx, .inr ⟨e1, e2, rfl⟩⟩
        obtain ⟨S1', st1', r1⟩ := r.opA hna
        obtain ⟨bv, rfl⟩ : ∃ bv, va = .bool bv := by rcases hans with ⟨_, rfl, _⟩ | ⟨_, rfl, _⟩ <;> exact ⟨_, rfl⟩
        refine And.intro r1.act ?_
        simp (disch := (first | omega | (simp only [size_new, size_newm, size_wr, size_wrm] <;> omega) | fail)) only [go_sem, Nat.reduceBEq, Nat.reduceAdd, Nat.reduceMul, Nat.reduceLeDiff, ↓reduceIte, rd_new_lt, own_new_lt, mp_new_lt, rd_newm_lt, own_newm_lt, mp_newm_lt, rd_wr_ne, own_wr_ne, mp_wr_ne, rd_wrm_ne, own_wrm_ne, mp_wrm_ne, rd_new_eq, own_new_eq, mp_newm_eq]
        refine (InvH.call ((dary_nest n2 hd2).meld h x r1.b) (methR0 (f := n_dary_Nest_Meld) (by kernel_rfl))).mono ?_
        rintro vb HB hvb
        obtain ⟨rfl, mb, hnb⟩ : vb = .bool bv ∧ ∃ mb, Nx (fun H S st w => DaryAt H n2 S d2 st w) S2 st2 HA HB wn mb := by
          rcases hans with ⟨e1, e2, rfl⟩ | ⟨e1, e2, rfl⟩ <;> rcases hvb with ⟨g1, g2, nx⟩ | ⟨g1, g2, nx⟩
          · exact ⟨g2.trans e2.symm, _, nx⟩
          · first | exact absurd g1 e1 | exact absurd e1 g1
          · first | exact absurd g1 e1 | exact absurd e1 g1
          · exact ⟨g2.trans e2.symm, _, nx⟩
        obtain ⟨S2', st2', r2⟩ := r1.opB hnb
        refine And.intro r2.act ?_
        simp (disch := (first | omega | (simp only [size_new, size_newm, size_wr, size_wrm] <;> omega) | fail)) only [go_sem, Nat.reduceBEq, Nat.reduceAdd, Nat.reduceMul, Nat.reduceLeDiff, ↓reduceIte, rd_new_lt, own_new_lt, mp_new_lt, rd_newm_lt, own_newm_lt, mp_newm_lt, rd_wr_ne, own_wr_ne, mp_wr_ne, rd_wrm_ne, own_wrm_ne, mp_wrm_ne, rd_new_eq, own_new_eq, mp_newm_eq]
        exact ⟨trivial, trivial, trivial, trivial, trivial, trivial, 0, bv, _, _, _, _, _, (by first | rfl | trivial), (by first | rfl | trivial), (by first | rfl | trivial), (by first | rfl | trivial), r2⟩
      · simp (disch := (first | omega | (simp only [size_new, size_newm, size_wr, size_wrm] <;> omega) | fail)) only [go_sem, Nat.reduceBEq, Nat.reduceAdd, Nat.reduceMul, Nat.reduceLeDiff, ↓reduceIte, rd_new_lt, own_new_lt, mp_new_lt, rd_newm_lt, own_newm_lt, mp_newm_lt, rd_wr_ne, own_wr_ne, mp_wr_ne, rd_wrm_ne, own_wrm_ne, mp_wrm_ne, rd_new_eq, own_new_eq, mp_newm_eq]
        exact ⟨trivial, trivial, trivial, trivial, trivial, trivial, 0, false, _, _, _, _, _, (by first | rfl | trivial), (by first | rfl | trivial), (by first | rfl | trivial), (by first | rfl | trivial), r⟩
    rintro e H6 ⟨e8, e10, e13, e60, e61, e62, s, t, S1', S2', st1', st2', w6, e14, e15, e16, e17, r6⟩
    simp (disch := (first | omega | (simp only [size_new, size_newm, size_wr, size_wrm] <;> omega) | fail)) only [go_sem, Nat.reduceBEq, Nat.reduceAdd, Nat.reduceMul, Nat.reduceLeDiff, ↓reduceIte, rd_new_lt, own_new_lt, mp_new_lt, rd_newm_lt, own_newm_lt, mp_newm_lt, rd_wr_ne, own_wr_ne, mp_wr_ne, rd_wrm_ne, own_wrm_ne, mp_wrm_ne, rd_new_eq, own_new_eq, mp_newm_eq, e8, e10, e13, e60, e61, e62, e14, e15, e16, e17, beq_self_eq_true, decide_true]
    obtain ⟨c1, C1, q1, q2, ow1, cn1⟩ := r6.a.opened
    obtain ⟨c2, C2, p1, p2, ow2, cn2⟩ := r6.b.opened
    simp (disch := (first | omega | (simp only [size_new, size_newm, size_wr, size_wrm] <;> omega) | fail)) only [go_sem, Nat.reduceBEq, Nat.reduceAdd, Nat.reduceMul, Nat.reduceLeDiff, ↓reduceIte, rd_new_lt, own_new_lt, mp_new_lt, rd_newm_lt, own_newm_lt, mp_newm_lt, rd_wr_ne, own_wr_ne, mp_wr_ne, rd_wrm_ne, own_wrm_ne, mp_wrm_ne, rd_new_eq, own_new_eq, mp_newm_eq, e8, e10, e13, e60, e61, e62, rd_of_own r6.act, rd_of_own ow1, rd_of_own ow2]
    refine ⟨i64 (w6.len h), (cellsN_Len_spec cn1 h).mono fun _ _ hp => ⟨hp.1, hp.2.symm⟩, ?_⟩
    refine (cellsN_Len_spec cn2 h).mono ?_
    rintro _ _ ⟨rfl, rfl⟩
    simp (disch := (first | omega | (simp only [size_new, size_newm, size_wr, size_wrm] <;> omega) | fail)) only [go_sem, Nat.reduceBEq, Nat.reduceAdd, Nat.reduceMul, Nat.reduceLeDiff, ↓reduceIte, rd_new_lt, own_new_lt, mp_new_lt, rd_newm_lt, own_newm_lt, mp_newm_lt, rd_wr_ne, own_wr_ne, mp_wr_ne, rd_wrm_ne, own_wrm_ne, mp_wrm_ne, rd_new_eq, own_new_eq, mp_newm_eq, e8, e10, e13, e60, e61, e62, decide_true]
    rw [wrap64 (n := (i : Int) + 1) (by omega) (by omega)]
    exact ⟨n - (i + 1), by omega, i + 1, S1', S2', st1', st2', w6, bb, _, rfl, rfl, by omega, r6⟩
  · exact ⟨rfl, r4.fr⟩

end Go.Proofs.Yteicchpglnamcaa
