/-
  Whatever is done to a nest: each answer is the document's, and at last heap by heap comes out in order.
-/
import Derived.Test.YteicchpglnamcaaRunS
set_option linter.unusedVariables false
set_option linter.unusedSimpArgs false
namespace Go.Proofs.Yteicchpglnamcaa
open Go Go.Vc

set_option maxHeartbeats 4000000 in
theorem law05_runs_spec {ov : Value} {I : Hp → (Nat → Prop) → Int → Nw → Prop} {lim : Int → Int} {rows : Bool} (ho : NestS ov I lim rows) {Hh H : Hp} {k : Int} (hk : 0 ≤ k ∧ k ≤ 65536) {rs : List (List Value)} {av : Value} {n : Nat} (hrd : RdS Hh 5 av n rs.flatten) (hn : rs.length = n) (hmax : n ≤ 60000)
    (hrows : ∀ r ∈ rs, fitL fitK [.i .i64, .i .i64, .i .i64, .i .i64, .i .u64] r)
    (h : AtN I Hh H ⟨[false], List.replicate k.toNat (0, 0, 0)⟩) : CallH Try.prog n_law05_runs [ov, i64 k, av] H fun v H' => Post (v = .bool true ∧ Fresh Hh H') := by
  have hrlen : ∀ r ∈ rs, r.length = 5 := fun r hr => fitL_length (hrows r hr)
  obtain ⟨a, c, rfl⟩ := RdS.val2 hrd
  refine c_law05_runs ⟨rfl, ?_⟩
  simp (disch := (first | omega | (simp only [size_new, size_newm, size_wr, size_wrm] <;> omega) | fail)) only [go_sem, Nat.reduceBEq, Nat.reduceAdd, Nat.reduceMul, Nat.reduceLeDiff, ↓reduceIte, rd_new_lt, own_new_lt, mp_new_lt, rd_newm_lt, own_newm_lt, mp_newm_lt, rd_wr_ne, own_wr_ne, mp_wr_ne, rd_wrm_ne, own_wrm_ne, mp_wrm_ne, rd_new_eq, own_new_eq, mp_newm_eq, s_law05_runs]
  refine (ref05_New_spec k H hk).mono ?_
  rintro wv H1 ⟨n1, f1⟩
  have t1 := ho.keepA h f1
  have hw0 : (⟨[false], List.replicate k.toNat (0, 0, 0)⟩ : Nw).cs.length = k := by simp; omega
  generalize (⟨[false], List.replicate k.toNat (0, 0, 0)⟩ : Nw) = w0 at *
  obtain ⟨ha, hc, ca, cc, rfl, g1, g2, g3, g4, a1, a2⟩ := id n1
  simp (disch := (first | omega | (simp only [size_new, size_newm, size_wr, size_wrm] <;> omega) | fail)) only [go_sem, Nat.reduceBEq, Nat.reduceAdd, Nat.reduceMul, Nat.reduceLeDiff, ↓reduceIte, rd_new_lt, own_new_lt, mp_new_lt, rd_newm_lt, own_newm_lt, mp_newm_lt, rd_wr_ne, own_wr_ne, mp_wr_ne, rd_wrm_ne, own_wrm_ne, mp_wrm_ne, rd_new_eq, own_new_eq, mp_newm_eq]
  have f2 : Fresh H1 ((H1.new 108 [.slice none 0 0, .slice none 0 0]).wr H1.size [.slice ha w0.hs.length hc, .slice ca w0.cs.length cc]) := ((Ext.refl _ _).new _ _).wr (fun h => absurd h (Nat.lt_irrefl _)) _
  have o2 : ((H1.new 108 [.slice none 0 0, .slice none 0 0]).wr H1.size [.slice ha w0.hs.length hc, .slice ca w0.cs.length cc]).own H1.size = some [.slice ha w0.hs.length hc, .slice ca w0.cs.length cc] := own_wr_same (own_new _ _ _)
  obtain ⟨S, st, hI, hf, hs⟩ := h
  have hult := (ho.teller S st w0).ult H hI
  have z1 := f1.size
  have z2 := f2.size
  have zf := hf.size
  have r2 : RunS I Hh ((H1.new 108 [.slice none 0 0, .slice none 0 0]).wr H1.size [.slice ha w0.hs.length hc, .slice ca w0.cs.length cc]) H1.size S (Grow (fun _ => False) H H1) st (.slice ha w0.hs.length hc) (.slice ca w0.cs.length cc) w0 w0 := by
    refine ⟨(ho.teller S st w0).keep _ _ _ hI (f1.trans f2) (fun _ _ h => h), o2, n1.fresh f2, (hf.trans f1).trans f2, fun z hz => ⟨hs z hz, by have := hult z hz; omega⟩, fun b hb => ?_, by omega⟩
    rcases hb with hb | hb
    · exact hb.elim
    · exact ⟨by omega, fun h => by have := hult b h; omega, by omega⟩
  generalize (H1.new 108 [.slice none 0 0, .slice none 0 0]).wr H1.size [.slice ha w0.hs.length hc, .slice ca w0.cs.length cc] = H2 at *
  generalize H1.size = nb at *
  clear t1 n1 o2
  refine LoopV.intro (fun m env H' => ∃ (i : Nat) (S A : Nat → Prop) (st : Int) (x0 x1 : Value) (w : Nw), env = [(0, ov), (1, i64 k), (7, ptr nb), (21, .slice a n c), (22, i64 n), (23, i64 i)] ∧ m = n - i ∧ i ≤ n ∧ RunS I Hh H' nb S A st x0 x1 w w ∧ w.cs.length = k) n
    ⟨0, S, _, st, _, _, w0, rfl, by omega, by omega, r2, hw0⟩ ?_
  clear r2 hult hs hI
  rintro m env H3 ⟨i, S, A, st, x0, x1, w, rfl, rfl, hi, r3, hcl⟩
  simp (disch := (first | omega | (simp only [size_new, size_newm, size_wr, size_wrm] <;> omega) | fail)) only [go_sem, Nat.reduceBEq, Nat.reduceAdd, Nat.reduceMul, Nat.reduceLeDiff, ↓reduceIte, rd_new_lt, own_new_lt, mp_new_lt, rd_newm_lt, own_newm_lt, mp_newm_lt, rd_wr_ne, own_wr_ne, mp_wr_ne, rd_wrm_ne, own_wrm_ne, mp_wrm_ne, rd_new_eq, own_new_eq, mp_newm_eq]
  refine Both.dec (fun hin => ?_) (fun hin => ?_) <;> simp (disch := (first | omega | (simp only [size_new, size_newm, size_wr, size_wrm] <;> omega) | fail)) only [go_sem, Nat.reduceBEq, Nat.reduceAdd, Nat.reduceMul, Nat.reduceLeDiff, ↓reduceIte, rd_new_lt, own_new_lt, mp_new_lt, rd_newm_lt, own_newm_lt, mp_newm_lt, rd_wr_ne, own_wr_ne, mp_wr_ne, rd_wrm_ne, own_wrm_ne, mp_wrm_ne, rd_new_eq, own_new_eq, mp_newm_eq]
  · obtain ⟨row, hrow⟩ : ∃ row, rs[i]? = some row := ⟨_, List.getElem?_eq_getElem (by omega)⟩
    obtain ⟨_, _, rfl, ⟨kind, rfl, hk1⟩, _, _, rfl, ⟨h, rfl, hh1⟩, _, _, rfl, ⟨x, rfl, hx1⟩, _, _, rfl, ⟨key, rfl, hkey1⟩, _, _, rfl, ⟨sq, rfl, hsq1⟩, rfl⟩ := hrows row (List.mem_of_getElem? hrow)
    obtain ⟨ab, ao, al, rfl, ar1, ar2, ar3, ar4⟩ := RdS.row (hrd.fresh r3.fr) (by omega) hrlen hrow
    refine ⟨by omega, ?_⟩
    simp (disch := (first | omega | (simp only [size_new, size_newm, size_wr, size_wrm] <;> omega) | fail)) only [go_sem, Nat.reduceBEq, Nat.reduceAdd, Nat.reduceMul, Nat.reduceLeDiff, ↓reduceIte, rd_new_lt, own_new_lt, mp_new_lt, rd_newm_lt, own_newm_lt, mp_newm_lt, rd_wr_ne, own_wr_ne, mp_wr_ne, rd_wrm_ne, own_wrm_ne, mp_wrm_ne, rd_new_eq, own_new_eq, mp_newm_eq, ar1, Int.toNat_natCast]
    refine ⟨by omega, ?_⟩
    simp (disch := (first | omega | (simp only [size_new, size_newm, size_wr, size_wrm] <;> omega) | fail)) only [go_sem, Nat.reduceBEq, Nat.reduceAdd, Nat.reduceMul, Nat.reduceLeDiff, ↓reduceIte, rd_new_lt, own_new_lt, mp_new_lt, rd_newm_lt, own_newm_lt, mp_newm_lt, rd_wr_ne, own_wr_ne, mp_wr_ne, rd_wrm_ne, own_wrm_ne, mp_wrm_ne, rd_new_eq, own_new_eq, mp_newm_eq, ar4]
    have e4 : Fresh H3 ((H3.new 72 [.int .i64 0, .int .i64 0, .int .i64 0, .int .i64 0, .int .u64 0]).wr H3.size [i64 kind, i64 h, i64 x, i64 key, u64 sq]) := ((Ext.refl _ _).new _ _).wr (fun h => absurd h (Nat.lt_irrefl _)) _
    have bx : ((H3.new 72 [.int .i64 0, .int .i64 0, .int .i64 0, .int .i64 0, .int .u64 0]).wr H3.size [i64 kind, i64 h, i64 x, i64 key, u64 sq]).own H3.size = some [i64 kind, i64 h, i64 x, i64 key, u64 sq] := own_wr_same (own_new _ _ _)
    have hS3 := r3.ult ho
    have hnb3 := own_lt r3.own
    have r4 := r3.fresh ho e4
    generalize (H3.new 72 [.int .i64 0, .int .i64 0, .int .i64 0, .int .i64 0, .int .u64 0]).wr H3.size [i64 kind, i64 h, i64 x, i64 key, u64 sq] = H4 at *
    have hab3 : ¬ S H3.size := fun h => by have := hS3 _ h; omega
    have hne : H3.size ≠ nb := by omega
    generalize H3.size = ab1 at *
    simp (disch := (first | omega | (simp only [size_new, size_newm, size_wr, size_wrm] <;> omega) | fail)) only [go_sem, Nat.reduceBEq, Nat.reduceAdd, Nat.reduceMul, Nat.reduceLeDiff, ↓reduceIte, rd_new_lt, own_new_lt, mp_new_lt, rd_newm_lt, own_newm_lt, mp_newm_lt, rd_wr_ne, own_wr_ne, mp_wr_ne, rd_wrm_ne, own_wrm_ne, mp_wrm_ne, rd_new_eq, own_new_eq, mp_newm_eq, rd_of_own r4.own, rd_of_own bx]
    refine (law05_Do_spec ho r4.nest r4.ref (fun b hb => ⟨(r4.ab b hb).1, (r4.ab b hb).2.1⟩) kind h x key sq).mono ?_
    rintro v H5 hd
    obtain ⟨ya, yb, yc, yd, w5, S5, A5, q, rfl, _, _, o5, hcl5, hne5, hkeep, o6, o6', r6, _⟩ := r4.done ho (T := 108) hd
    have b6 := hkeep _ _ bx hab3 hne
    simp (disch := (first | omega | (simp only [size_new, size_newm, size_wr, size_wrm] <;> omega) | fail)) only [go_sem, Nat.reduceBEq, Nat.reduceAdd, Nat.reduceMul, Nat.reduceLeDiff, ↓reduceIte, rd_new_lt, own_new_lt, mp_new_lt, rd_newm_lt, own_newm_lt, mp_newm_lt, rd_wr_ne, own_wr_ne, mp_wr_ne, rd_wrm_ne, own_wrm_ne, mp_wrm_ne, rd_new_eq, own_new_eq, mp_newm_eq, rd_of_own o6, o6', own_wr_same o6']
    generalize ((H5.new 108 [.slice none 0 0, .slice none 0 0]).wr H5.size [.slice ya w5.hs.length yb, .slice yc w5.cs.length yd]).wr nb [.slice ya w5.hs.length yb, .slice yc w5.cs.length yd] = H6 at *
    simp (disch := (first | omega | (simp only [size_new, size_newm, size_wr, size_wrm] <;> omega) | fail)) only [go_sem, Nat.reduceBEq, Nat.reduceAdd, Nat.reduceMul, Nat.reduceLeDiff, ↓reduceIte, rd_new_lt, own_new_lt, mp_new_lt, rd_newm_lt, own_newm_lt, mp_newm_lt, rd_wr_ne, own_wr_ne, mp_wr_ne, rd_wrm_ne, own_wrm_ne, mp_wrm_ne, rd_new_eq, own_new_eq, mp_newm_eq, rd_of_own r6.own, rd_of_own b6]
    refine (law05_looks_spec (ho.teller S5 _ w5) r6.nest r6.ref (fun b hb => (r6.ab b hb).2.1) kind h x key sq).mono ?_
    rintro _ H7 ⟨rfl, i7, e7⟩
    have r7 := r6.op ho i7 e7 (fun z hz => .inl hz)
    simp (disch := (first | omega | (simp only [size_new, size_newm, size_wr, size_wrm] <;> omega) | fail)) only [go_sem, Nat.reduceBEq, Nat.reduceAdd, Nat.reduceMul, Nat.reduceLeDiff, ↓reduceIte, rd_new_lt, own_new_lt, mp_new_lt, rd_newm_lt, own_newm_lt, mp_newm_lt, rd_wr_ne, own_wr_ne, mp_wr_ne, rd_wrm_ne, own_wrm_ne, mp_wrm_ne, rd_new_eq, own_new_eq, mp_newm_eq]
    rw [wrap64 (n := (i : Int) + 1) (by omega) (by omega)]
    exact ⟨n - (i + 1), by omega, i + 1, S5, A5, _, _, _, w5, rfl, rfl, by omega, r7, by rw [hcl5]; exact hcl⟩
  · -- heap by heap
    have hhl : w.hs.length ≤ 65537 := by obtain ⟨_, _, _, _, _, _, _, h, _⟩ := r3.ref; exact h
    obtain ⟨ha3, hc3, ca3, cc3, hx01, g31, g32, -⟩ := id r3.ref
    simp at hx01
    obtain ⟨rfl, rfl⟩ := hx01
    refine LoopV.intro (fun m env H' => ∃ (h : Nat) (S : Nat → Prop) (st : Int) (wn : Nw), env = [(0, ov), (1, i64 k), (7, ptr nb), (12, i64 h)] ∧ m = w.hs.length + 1 - h ∧ 1 ≤ h ∧ RunS I Hh H' nb S A st (.slice ha3 w.hs.length hc3) (.slice ca3 w.cs.length cc3) wn w ∧ wn.hs = w.hs ∧ wn.cs.length = w.cs.length ∧
        ∀ g : Int, h ≤ g → SameH w wn g) w.hs.length
      ⟨1, S, st, w, rfl, by omega, by omega, r3, rfl, rfl, fun g _ i e => Iff.rfl⟩ ?_
    clear r3 hin
    rintro m env H4 ⟨h, S, st, wn, rfl, rfl, hh1, r4, hhs, hcl4, hsame⟩
    simp (disch := (first | omega | (simp only [size_new, size_newm, size_wr, size_wrm] <;> omega) | fail)) only [go_sem, Nat.reduceBEq, Nat.reduceAdd, Nat.reduceMul, Nat.reduceLeDiff, ↓reduceIte, rd_new_lt, own_new_lt, mp_new_lt, rd_newm_lt, own_newm_lt, mp_newm_lt, rd_wr_ne, own_wr_ne, mp_wr_ne, rd_wrm_ne, own_wrm_ne, mp_wrm_ne, rd_new_eq, own_new_eq, mp_newm_eq, rd_of_own r4.own]
    refine Both.dec (fun hin => ?_) (fun hin => ?_) <;> simp (disch := (first | omega | (simp only [size_new, size_newm, size_wr, size_wrm] <;> omega) | fail)) only [go_sem, Nat.reduceBEq, Nat.reduceAdd, Nat.reduceMul, Nat.reduceLeDiff, ↓reduceIte, rd_new_lt, own_new_lt, mp_new_lt, rd_newm_lt, own_newm_lt, mp_newm_lt, rd_wr_ne, own_wr_ne, mp_wr_ne, rd_wrm_ne, own_wrm_ne, mp_wrm_ne, rd_new_eq, own_new_eq, mp_newm_eq, rd_of_own r4.own]
    · refine (ref05_Order_spec r4.ref (fun b hb => (r4.ab b hb).1) (h : Int)).mono ?_
      rintro sv H5 ⟨f5, l, fp, hord, s5, hll, hfp⟩
      have hS4 := r4.ult ho
      have hnb4 := own_lt r4.own
      have r5 := r4.fresh ho f5
      obtain ⟨sa, sc, rfl⟩ := RdS.val2 s5.rd
      obtain ⟨bh, hbh⟩ : ∃ bh, w.hs[h]? = some bh := ⟨_, List.getElem?_eq_getElem (by omega)⟩
      simp (disch := (first | omega | (simp only [size_new, size_newm, size_wr, size_wrm] <;> omega) | fail)) only [go_sem, Nat.reduceBEq, Nat.reduceAdd, Nat.reduceMul, Nat.reduceLeDiff, ↓reduceIte, rd_new_lt, own_new_lt, mp_new_lt, rd_newm_lt, own_newm_lt, mp_newm_lt, rd_wr_ne, own_wr_ne, mp_wr_ne, rd_wrm_ne, own_wrm_ne, mp_wrm_ne, rd_new_eq, own_new_eq, mp_newm_eq]
      refine LoopV.intro (fun m env H' => ∃ (j : Nat) (l2 : List Int) (S : Nat → Prop) (st : Int) (wj : Nw), env = [(0, ov), (1, i64 k), (7, ptr nb), (12, i64 h), (54, .slice sa l.length sc), (55, i64 l.length), (56, i64 j)] ∧ m = l.length - j ∧ j ≤ l.length ∧ l2 = l.drop j ∧ OrdOf wj h l2 ∧
          RunS I Hh H' nb S A st (.slice ha3 w.hs.length hc3) (.slice ca3 w.cs.length cc3) wj w ∧ wj.hs = w.hs ∧ wj.cs.length = w.cs.length ∧ (∀ g : Int, h + 1 ≤ g → SameH w wj g) ∧ Sl H' 1 (.slice sa l.length sc) l.length (l.map i64) fp ∧ ∀ b, fp = some b → ¬ S b) l.length
        ⟨0, l, S, st, wn, rfl, by omega, by omega, rfl, hord.congr (hsame h (by omega)) hcl4.symm, r5, hhs, hcl4, fun g hg => hsame g (by omega), s5, fun b hb hs => by have := hfp b hb; have := hS4 b hs; omega⟩ ?_
      clear hord r5 r4 hsame hhs hcl4
      rintro m env H6 ⟨j, l2, S, st, wj, rfl, rfl, hj, hl2, hord, r6, hhs, hcl6, hsame, s6, hfp6⟩
      simp (disch := (first | omega | (simp only [size_new, size_newm, size_wr, size_wrm] <;> omega) | fail)) only [go_sem, Nat.reduceBEq, Nat.reduceAdd, Nat.reduceMul, Nat.reduceLeDiff, ↓reduceIte, rd_new_lt, own_new_lt, mp_new_lt, rd_newm_lt, own_newm_lt, mp_newm_lt, rd_wr_ne, own_wr_ne, mp_wr_ne, rd_wrm_ne, own_wrm_ne, mp_wrm_ne, rd_new_eq, own_new_eq, mp_newm_eq]
      refine Both.dec (fun hjl => ?_) (fun hjl => ?_) <;> simp (disch := (first | omega | (simp only [size_new, size_newm, size_wr, size_wrm] <;> omega) | fail)) only [go_sem, Nat.reduceBEq, Nat.reduceAdd, Nat.reduceMul, Nat.reduceLeDiff, ↓reduceIte, rd_new_lt, own_new_lt, mp_new_lt, rd_newm_lt, own_newm_lt, mp_newm_lt, rd_wr_ne, own_wr_ne, mp_wr_ne, rd_wrm_ne, own_wrm_ne, mp_wrm_ne, rd_new_eq, own_new_eq, mp_newm_eq]
      · obtain ⟨s, hs⟩ : ∃ s, l[j]? = some s := ⟨_, List.getElem?_eq_getElem (by omega)⟩
        have hl3 : l2 = s :: l.drop (j + 1) := by
          rw [hl2, List.drop_eq_getElem_cons (by omega)]
          rw [List.getElem?_eq_getElem (by omega)] at hs
          injection hs with hs
          rw [hs]
        obtain ⟨bb, bo, bc, bl, q1, q2, q3, q4⟩ := RdS.get s6.rd (i := j) (j := 0) (x := i64 s) (by omega) (by simp [hs])
        injection q1 with q1 _ q1'
        subst q1 q1'
        refine ⟨by omega, ?_⟩
        simp (disch := (first | omega | (simp only [size_new, size_newm, size_wr, size_wrm] <;> omega) | fail)) only [go_sem, Nat.reduceBEq, Nat.reduceAdd, Nat.reduceMul, Nat.reduceLeDiff, ↓reduceIte, rd_new_lt, own_new_lt, mp_new_lt, rd_newm_lt, own_newm_lt, mp_newm_lt, rd_wr_ne, own_wr_ne, mp_wr_ne, rd_wrm_ne, own_wrm_ne, mp_wrm_ne, rd_new_eq, own_new_eq, mp_newm_eq, q2, Int.toNat_natCast, show bl[bo + j * 1]? = some (i64 s) from q4]
        rw [hl3] at hord
        obtain ⟨hf, hord'⟩ : wj.first h s ∧ OrdOf (wj.put s (0, 0, 0)) h (l.drop (j + 1)) := by
          cases hord with
          | cons h1 h2 => exact ⟨h1, h2⟩
        refine InvH.mono (ho.extract (h : Int) r6.nest) ?_
        rintro v7 H7 (⟨h7, _⟩ | ⟨x, hx, rfl, nx⟩)
        · have := hf.pos; omega
        obtain rfl := hf.uniq hx
        obtain ⟨S7, st7, r7, e7, hS7⟩ := r6.nx ho nx
        have s7 := s6.ext e7 (fun b hb => hfp6 b hb)
        have hfp7 : ∀ b, fp = some b → ¬ S7 b := fun b hb hs => by
          rcases hS7 b hs with h | h
          · exact hfp6 b hb h
          · have : b < H6.size := Sl.lt (hb ▸ s6)
            omega
        simp (disch := (first | omega | (simp only [size_new, size_newm, size_wr, size_wrm] <;> omega) | fail)) only [go_sem, Nat.reduceBEq, Nat.reduceAdd, Nat.reduceMul, Nat.reduceLeDiff, ↓reduceIte, rd_new_lt, own_new_lt, mp_new_lt, rd_newm_lt, own_newm_lt, mp_newm_lt, rd_wr_ne, own_wr_ne, mp_wr_ne, rd_wrm_ne, own_wrm_ne, mp_wrm_ne, rd_new_eq, own_new_eq, mp_newm_eq]
        refine InvV.intro (fun H' => H'.own nb = some [.slice ha3 w.hs.length hc3, .slice ca3 w.cs.length cc3] ∧ NestR H' (.agg [.slice ha3 w.hs.length hc3, .slice ca3 w.cs.length cc3].toArray) w A) ⟨r7.own, r7.ref⟩ ?_
        simp (disch := (first | omega | (simp only [size_new, size_newm, size_wr, size_wrm] <;> omega) | fail)) only [go_sem, Nat.reduceBEq, Nat.reduceAdd, Nat.reduceMul, Nat.reduceLeDiff, ↓reduceIte, rd_new_lt, own_new_lt, mp_new_lt, rd_newm_lt, own_newm_lt, mp_newm_lt, rd_wr_ne, own_wr_ne, mp_wr_ne, rd_wrm_ne, own_wrm_ne, mp_wrm_ne, rd_new_eq, own_new_eq, mp_newm_eq]
        refine Both.of_true (by simp) ?_
        simp (disch := (first | omega | (simp only [size_new, size_newm, size_wr, size_wrm] <;> omega) | fail)) only [go_sem, Nat.reduceBEq, Nat.reduceAdd, Nat.reduceMul, Nat.reduceLeDiff, ↓reduceIte, rd_new_lt, own_new_lt, mp_new_lt, rd_newm_lt, own_newm_lt, mp_newm_lt, rd_wr_ne, own_wr_ne, mp_wr_ne, rd_wrm_ne, own_wrm_ne, mp_wrm_ne, rd_new_eq, own_new_eq, mp_newm_eq]
        refine StbV.intro (.slice ha3 w.hs.length hc3) (fun H' hI => ?_) ?_
        · simp (disch := (first | omega | (simp only [size_new, size_newm, size_wr, size_wrm] <;> omega) | fail)) only [go_sem, Nat.reduceBEq, Nat.reduceAdd, Nat.reduceMul, Nat.reduceLeDiff, ↓reduceIte, rd_new_lt, own_new_lt, mp_new_lt, rd_newm_lt, own_newm_lt, mp_newm_lt, rd_wr_ne, own_wr_ne, mp_wr_ne, rd_wrm_ne, own_wrm_ne, mp_wrm_ne, rd_new_eq, own_new_eq, mp_newm_eq, rd_of_own hI.1]
          exact ⟨trivial, trivial⟩
        simp (disch := (first | omega | (simp only [size_new, size_newm, size_wr, size_wrm] <;> omega) | fail)) only [go_sem, Nat.reduceBEq, Nat.reduceAdd, Nat.reduceMul, Nat.reduceLeDiff, ↓reduceIte, rd_new_lt, own_new_lt, mp_new_lt, rd_newm_lt, own_newm_lt, mp_newm_lt, rd_wr_ne, own_wr_ne, mp_wr_ne, rd_wrm_ne, own_wrm_ne, mp_wrm_ne, rd_new_eq, own_new_eq, mp_newm_eq]
        have hbz : 0 < w.hs.length := by omega
        obtain ⟨_, _, _, _, e01, g71, -⟩ := id r7.ref
        simp at e01
        obtain ⟨⟨rfl, rfl⟩, rfl, rfl⟩ := e01
        obtain ⟨hb1, ho1, hcc, hlb, p1, p2, p3, p4⟩ := RdS.get g71 (i := h) (j := 0) (x := .bool bh) (by omega) (by simp [hbh])
        injection p1 with p1 _ p1'
        subst p1 p1'
        refine ⟨by omega, ?_⟩
        simp (disch := (first | omega | (simp only [size_new, size_newm, size_wr, size_wrm] <;> omega) | fail)) only [go_sem, Nat.reduceBEq, Nat.reduceAdd, Nat.reduceMul, Nat.reduceLeDiff, ↓reduceIte, rd_new_lt, own_new_lt, mp_new_lt, rd_newm_lt, own_newm_lt, mp_newm_lt, rd_wr_ne, own_wr_ne, mp_wr_ne, rd_wrm_ne, own_wrm_ne, mp_wrm_ne, rd_new_eq, own_new_eq, mp_newm_eq, Int.toNat_natCast]
        refine StbV.intro (.bool bh) (fun H' hI => ?_) ?_
        · obtain ⟨_, _, _, _, e01, g71, -⟩ := id hI.2
          simp at e01
          obtain ⟨⟨rfl, rfl⟩, rfl, rfl⟩ := e01
          obtain ⟨hb1', ho1', hcc', hlb', p1, p2, p3, p4⟩ := RdS.get g71 (i := h) (j := 0) (x := .bool bh) (by omega) (by simp [hbh])
          injection p1 with p1 _ _
          injection p1 with p1
          injection p1 with p1 p1b _
          subst p1 p1b
          simp (disch := (first | omega | (simp only [size_new, size_newm, size_wr, size_wrm] <;> omega) | fail)) only [go_sem, Nat.reduceBEq, Nat.reduceAdd, Nat.reduceMul, Nat.reduceLeDiff, ↓reduceIte, rd_new_lt, own_new_lt, mp_new_lt, rd_newm_lt, own_newm_lt, mp_newm_lt, rd_wr_ne, own_wr_ne, mp_wr_ne, rd_wrm_ne, own_wrm_ne, mp_wrm_ne, rd_new_eq, own_new_eq, mp_newm_eq, p2, show hlb'[ho1 + h * 1]? = some (.bool bh) from p4]
          exact ⟨trivial, trivial⟩
        simp (disch := (first | omega | (simp only [size_new, size_newm, size_wr, size_wrm] <;> omega) | fail)) only [go_sem, Nat.reduceBEq, Nat.reduceAdd, Nat.reduceMul, Nat.reduceLeDiff, ↓reduceIte, rd_new_lt, own_new_lt, mp_new_lt, rd_newm_lt, own_newm_lt, mp_newm_lt, rd_wr_ne, own_wr_ne, mp_wr_ne, rd_wrm_ne, own_wrm_ne, mp_wrm_ne, rd_new_eq, own_new_eq, mp_newm_eq]
        refine InvH.mono ((ho.teller S7 st7 _).has H7 (h : Int) r7.nest) ?_
        rintro _ _ ⟨rfl, rfl⟩
        refine And.intro ⟨r7.own, r7.ref⟩ ?_
        have hhas : decide ((wj.put s (0, 0, 0)).has h) = bh := by
          have : (wj.put s (0, 0, 0)).has h ↔ bh = true := by
            show (1 ≤ (h : Int) ∧ wj.hs[(h : Int).toNat]? = some true) ↔ _
            rw [hhs, Int.toNat_natCast, hbh]
            simp only [Option.some.injEq]
            exact ⟨fun h => h.2, fun h => ⟨by omega, h⟩⟩
          cases bh
          · exact decide_eq_false (by rw [this]; simp)
          · exact decide_eq_true (this.2 rfl)
        rw [hhas]
        simp (disch := (first | omega | (simp only [size_new, size_newm, size_wr, size_wrm] <;> omega) | fail)) only [go_sem, Nat.reduceBEq, Nat.reduceAdd, Nat.reduceMul, Nat.reduceLeDiff, ↓reduceIte, rd_new_lt, own_new_lt, mp_new_lt, rd_newm_lt, own_newm_lt, mp_newm_lt, rd_wr_ne, own_wr_ne, mp_wr_ne, rd_wrm_ne, own_wrm_ne, mp_wrm_ne, rd_new_eq, own_new_eq, mp_newm_eq, beq_self_eq_true]
        rw [wrap64 (n := (j : Int) + 1) (by omega) (by omega)]
        refine ⟨l.length - (j + 1), by omega, j + 1, _, S7, st7, _, rfl, rfl, by omega, rfl, hord', r7, hhs, by simpa [Nw.put] using hcl6, fun g hg i e => ?_, s7, hfp7⟩
        rw [hsame g hg i e]
        exact SameH.other (by omega) hf.2.2.1 (by omega) i e
      · have hjL : j = l.length := by omega
        subst hjL
        rw [List.drop_length] at hl2
        subst hl2
        have hl0 : wj.len h = 0 := by cases hord with | nil h => exact h
        refine InvH.mono (ho.extract (h : Int) r6.nest) ?_
        rintro v7 H7 (⟨_, rfl, nx⟩ | ⟨x, hx, _⟩)
        · obtain ⟨S7, st7, r7, e7, hS7⟩ := r6.nx ho nx
          simp (disch := (first | omega | (simp only [size_new, size_newm, size_wr, size_wrm] <;> omega) | fail)) only [go_sem, Nat.reduceBEq, Nat.reduceAdd, Nat.reduceMul, Nat.reduceLeDiff, ↓reduceIte, rd_new_lt, own_new_lt, mp_new_lt, rd_newm_lt, own_newm_lt, mp_newm_lt, rd_wr_ne, own_wr_ne, mp_wr_ne, rd_wrm_ne, own_wrm_ne, mp_wrm_ne, rd_new_eq, own_new_eq, mp_newm_eq]
          refine InvH.mono ((ho.teller S7 st7 _).len H7 (h : Int) r7.nest) ?_
          rintro _ _ ⟨rfl, rfl⟩
          rw [hl0]
          simp (disch := (first | omega | (simp only [size_new, size_newm, size_wr, size_wrm] <;> omega) | fail)) only [go_sem, Nat.reduceBEq, Nat.reduceAdd, Nat.reduceMul, Nat.reduceLeDiff, ↓reduceIte, rd_new_lt, own_new_lt, mp_new_lt, rd_newm_lt, own_newm_lt, mp_newm_lt, rd_wr_ne, own_wr_ne, mp_wr_ne, rd_wrm_ne, own_wrm_ne, mp_wrm_ne, rd_new_eq, own_new_eq, mp_newm_eq, decide_true]
          rw [wrap64 (n := (h : Int) + 1) (by omega) (by omega)]
          exact ⟨w.hs.length + 1 - (h + 1), by omega, h + 1, S7, st7, wj, rfl, rfl, by omega, r7, hhs, hcl6, hsame⟩
        · have := hx.pos; omega
    · refine InvH.mono (ho.cap r4.nest) ?_
      rintro _ _ ⟨rfl, rfl⟩
      rw [hcl4, hcl]
      exact ⟨congrArg Value.bool (decide_eq_true rfl), r4.fr⟩

theorem law05_Runs_spec {ov : Value} {I : Hp → (Nat → Prop) → Int → Nw → Prop} {lim : Int → Int} {rows : Bool} (ho : NestS ov I lim rows) {Hh H : Hp} {k : Int} (hk : 0 ≤ k ∧ k ≤ 65536) {rs : List (List Value)} {av : Value} {n : Nat} (hrd : RdS Hh 5 av n rs.flatten) (hn : rs.length = n) (hmax : n ≤ 60000)
    (hrows : ∀ r ∈ rs, fitL fitK [.i .i64, .i .i64, .i .i64, .i .i64, .i .u64] r)
    (h : AtN I Hh H ⟨[false], List.replicate k.toNat (0, 0, 0)⟩) : CallH Try.prog n_law05_Runs [ov, i64 k, av] H fun v H' => Post (v = i64 1 ∧ Fresh Hh H') := by
  refine c_law05_Runs ⟨rfl, ?_⟩
  simp (disch := (first | omega | (simp only [size_new, size_newm, size_wr, size_wrm] <;> omega) | fail)) only [go_sem, Nat.reduceBEq, Nat.reduceAdd, Nat.reduceMul, Nat.reduceLeDiff, ↓reduceIte, rd_new_lt, own_new_lt, mp_new_lt, rd_newm_lt, own_newm_lt, mp_newm_lt, rd_wr_ne, own_wr_ne, mp_wr_ne, rd_wrm_ne, own_wrm_ne, mp_wrm_ne, rd_new_eq, own_new_eq, mp_newm_eq, s_law05_Runs]
  refine (law05_runs_spec ho hk hrd hn hmax hrows h).mono ?_
  rintro _ H1 ⟨rfl, f1⟩
  simp (disch := (first | omega | (simp only [size_new, size_newm, size_wr, size_wrm] <;> omega) | fail)) only [go_sem, Nat.reduceBEq, Nat.reduceAdd, Nat.reduceMul, Nat.reduceLeDiff, ↓reduceIte, rd_new_lt, own_new_lt, mp_new_lt, rd_newm_lt, own_newm_lt, mp_newm_lt, rd_wr_ne, own_wr_ne, mp_wr_ne, rd_wrm_ne, own_wrm_ne, mp_wrm_ne, rd_new_eq, own_new_eq, mp_newm_eq]
  refine (law05_one_spec true H1).mono ?_
  rintro _ _ ⟨rfl, rfl⟩
  simp (disch := (first | omega | (simp only [size_new, size_newm, size_wr, size_wrm] <;> omega) | fail)) only [go_sem, Nat.reduceBEq, Nat.reduceAdd, Nat.reduceMul, Nat.reduceLeDiff, ↓reduceIte, rd_new_lt, own_new_lt, mp_new_lt, rd_newm_lt, own_newm_lt, mp_newm_lt, rd_wr_ne, own_wr_ne, mp_wr_ne, rd_wrm_ne, own_wrm_ne, mp_wrm_ne, rd_new_eq, own_new_eq, mp_newm_eq]
  exact ⟨rfl, f1⟩

end Go.Proofs.Yteicchpglnamcaa
