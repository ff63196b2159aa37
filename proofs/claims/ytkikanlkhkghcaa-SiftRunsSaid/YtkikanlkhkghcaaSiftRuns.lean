/-
  The law SiftRuns answers true.
-/
import Derived.Test.YtkikanlkhkghcaaRef07
set_option linter.unusedVariables false
set_option linter.unusedSimpArgs false
namespace Go.Proofs.Ytkikanlkhkghcaa
open Go Go.Vc

/-- Where a run stands: the row, the keys, the list of those that are there. -/
structure RunSt (Hh H : Hp) (r mb : Nat) (d : Int) (S : Nat → Prop) (f : Int → Option Int) (l : List Int) (pl : Int → Option Int) (q : Nat) (tv : Value) (th : List Int) (fp : Option Nat) : Prop where
  row : RowAt H r S d l pl
  ok : HeapOk f d l pl
  keys : KeysAt H (mb + 1) mb f q
  there : Sl H 1 tv th.length (th.map i64) fp
  mem : ∀ z, z ∈ l ↔ z ∈ th
  len : l.length = th.length
  fr : Fresh Hh H
  sb : ∀ x, S x → Hh.size ≤ x ∧ ¬ (x = mb + 1 ∨ x = mb) ∧ fp ≠ some x
  fb : ∀ b, fp = some b → Hh.size ≤ b ∧ b ≠ mb + 1 ∧ b ≠ mb
  mbb : Hh.size ≤ mb
  nd : th.Nodup

theorem RunSt.slt {Hh H : Hp} {r mb : Nat} {d : Int} {S : Nat → Prop} {f : Int → Option Int} {l : List Int} {pl : Int → Option Int} {q : Nat} {tv : Value} {th : List Int} {fp : Option Nat} (h : RunSt Hh H r mb d S f l pl q tv th fp) : ∀ x, S x → ¬ (x = mb + 1 ∨ x = mb) := fun x hx => (h.sb x hx).2.1

theorem RunSt.fresh {Hh H H' : Hp} {r mb : Nat} {d : Int} {S : Nat → Prop} {f : Int → Option Int} {l : List Int} {pl : Int → Option Int} {q : Nat} {tv : Value} {th : List Int} {fp : Option Nat} (h : RunSt Hh H r mb d S f l pl q tv th fp) (e : Fresh H H') : RunSt Hh H' r mb d S f l pl q tv th fp :=
  ⟨h.row.ext e (fun _ _ h => h), h.ok, ⟨e.own h.keys.1 (fun h => h), h.keys.2.1.ext e (fun h => h), h.keys.2.2⟩, h.there.ext e (fun _ _ h => h), h.mem, h.len, h.fr.trans e, h.sb, h.fb, h.mbb, h.nd⟩

/-- What a statement may touch. -/
def Own (S : Nat → Prop) (mb : Nat) (fp : Option Nat) (z : Nat) : Prop := S z ∨ z = mb + 1 ∨ z = mb ∨ fp = some z

/-- Behind a call of the row's. -/
theorem RunSt.rowop {Hh H H' : Hp} {r mb : Nat} {d : Int} {S S' : Nat → Prop} {f : Int → Option Int} {l l' : List Int} {pl pl' : Int → Option Int} {q q' : Nat} {tv : Value} {th : List Int} {fp : Option Nat} (st : RunSt Hh H r mb d S f l pl q tv th fp)
    (r' : RowAt H' r S' d l' pl') (ok' : HeapOk f d l' pl') (k' : KeysAt H' (mb + 1) mb f q') (e : Ext (fun z => S z ∨ (z = mb + 1 ∨ z = mb)) H H') (hS : ∀ z, S' z → S z ∨ H.size ≤ z) (hm : ∀ z, z ∈ l' ↔ z ∈ th) (hl : l'.length = th.length) :
    RunSt Hh H' r mb d S' f l' pl' q' tv th fp := by
  refine ⟨r', ok', k', st.there.ext e (fun b hb hc => ?_), hm, hl, st.fr.then e (fun z hz => ?_), fun x hx => ?_, st.fb, st.mbb, st.nd⟩
  · rcases hc with hc | hc | hc
    · exact (st.sb b hc).2.2 hb
    · exact (st.fb b hb).2.1 hc
    · exact (st.fb b hb).2.2 hc
  · have := st.mbb
    rcases hz with hz | rfl | rfl
    · exact (st.sb z hz).1
    · omega
    · omega
  · rcases hS x hx with h | h
    · exact st.sb x h
    · have h1 := own_lt st.keys.1
      have h2 := st.fr.size
      refine ⟨by omega, by omega, fun e => ?_⟩
      have := Sl.lt (e ▸ st.there)
      omega

theorem length_without {th : List Int} (h : th.Nodup) {x : Int} (hx : x ∈ th) : (th.filter (· ≠ x)).length = th.length - 1 := by
  have h1 := List.length_erase_of_mem hx
  rw [h.erase_eq_filter] at h1
  rw [← h1]
  congr 2
  funext z
  simp [bne, BEq.beq]

theorem depth_upN {d : Int} {n : Nat} (hn : n ≤ 1000) : depthF d n = (upN d ((n : Int) - 1) : Nat) := by
  unfold depthF upN
  rw [if_pos (by omega)]
  by_cases h : n = 0
  · subst h; rfl
  · rw [upF_more d ((n : Int)).toNat ((n : Int) - 1).toNat _ (by omega) (by omega)]

theorem upN_le {d i : Int} : upN d i ≤ i.toNat := upF_le d _ _

set_option maxHeartbeats 4000000 in
theorem law07_SiftRuns_args {Hh : Hp} {v0 v1 : Value} (h0 : fitA Hh (false, [.k (.i .i64)]) v0) (h1 : fitA Hh (false, [.sl [.i .i64, .i .i64, .i .i64]]) v1) :
    CallH Try.prog n_law07_SiftRuns [v0, v1] Hh fun v H' => Post (v = .bool true ∧ Fresh Hh H') := by
  obtain ⟨d, rfl, hd0, hd1⟩ := fitA_i64 h0
  obtain ⟨rows, hrd, hrows, hmax⟩ := fitA_sl h1
  have hrlen : ∀ r ∈ rows, r.length = 3 := fun r hr => fitL_length (hrows r hr)
  generalize hn : rows.length = n at *
  have hrd : RdS Hh 3 v1 n rows.flatten := hrd
  obtain ⟨a, c, rfl⟩ := RdS.val hrd
  refine c_law07_SiftRuns ⟨rfl, ?_⟩
  simp (disch := (first | omega | (simp only [size_new, size_newm, size_wr, size_wrm] <;> omega) | fail)) only [go_sem, Nat.reduceBEq, Nat.reduceAdd, Nat.reduceMul, Nat.reduceLeDiff, ↓reduceIte, rd_new_lt, own_new_lt, mp_new_lt, rd_newm_lt, own_newm_lt, mp_newm_lt, rd_wr_ne, own_wr_ne, mp_wr_ne, rd_wrm_ne, own_wrm_ne, mp_wrm_ne, rd_new_eq, own_new_eq, mp_newm_eq, s_law07_SiftRuns]
  refine (law07_siftAlive_spec Hh).mono ?_
  rintro _ H1 ⟨rfl, f1⟩
  simp (disch := (first | omega | (simp only [size_new, size_newm, size_wr, size_wrm] <;> omega) | fail)) only [go_sem, Nat.reduceBEq, Nat.reduceAdd, Nat.reduceMul, Nat.reduceLeDiff, ↓reduceIte, rd_new_lt, own_new_lt, mp_new_lt, rd_newm_lt, own_newm_lt, mp_newm_lt, rd_wr_ne, own_wr_ne, mp_wr_ne, rd_wrm_ne, own_wrm_ne, mp_wrm_ne, rd_new_eq, own_new_eq, mp_newm_eq]
  refine (sift_New_spec d H1).mono ?_
  rintro nv H2 ⟨f2, hnew⟩
  obtain ⟨pa, e, rfl, hpa⟩ : ∃ (pa : Option Addr) (e : Int), nv = .tuple [.pointer pa, i64 e].toArray ∧ ((¬ FineD d ∧ pa = none ∧ e = 22) ∨ (FineD d ∧ ∃ r S, pa = some ⟨r, 0, none⟩ ∧ e = 0 ∧ RowAt H2 r S d [] (fun _ => none) ∧ ∀ x, S x → H1.size ≤ x)) := by
    rcases hnew with ⟨h, rfl⟩ | ⟨h, r, S, rfl, h2⟩
    · exact ⟨_, _, rfl, .inl ⟨h, rfl, rfl⟩⟩
    · exact ⟨_, _, rfl, .inr ⟨h, r, S, rfl, rfl, h2⟩⟩
  have f12 := f1.trans f2
  simp (disch := (first | omega | (simp only [size_new, size_newm, size_wr, size_wrm] <;> omega) | fail)) only [go_sem, Nat.reduceBEq, Nat.reduceAdd, Nat.reduceMul, Nat.reduceLeDiff, ↓reduceIte, rd_new_lt, own_new_lt, mp_new_lt, rd_newm_lt, own_newm_lt, mp_newm_lt, rd_wr_ne, own_wr_ne, mp_wr_ne, rd_wrm_ne, own_wrm_ne, mp_wrm_ne, rd_new_eq, own_new_eq, mp_newm_eq]
  refine Both.dec (fun hl => ?_) (fun hl => ?_) <;> simp (disch := (first | omega | (simp only [size_new, size_newm, size_wr, size_wrm] <;> omega) | fail)) only [go_sem, Nat.reduceBEq, Nat.reduceAdd, Nat.reduceMul, Nat.reduceLeDiff, ↓reduceIte, rd_new_lt, own_new_lt, mp_new_lt, rd_newm_lt, own_newm_lt, mp_newm_lt, rd_wr_ne, own_wr_ne, mp_wr_ne, rd_wrm_ne, own_wrm_ne, mp_wrm_ne, rd_new_eq, own_new_eq, mp_newm_eq]
  · refine Both.of_true (decide_eq_true hl) ?_
    simp (disch := (first | omega | (simp only [size_new, size_newm, size_wr, size_wrm] <;> omega) | fail)) only [go_sem, Nat.reduceBEq, Nat.reduceAdd, Nat.reduceMul, Nat.reduceLeDiff, ↓reduceIte, rd_new_lt, own_new_lt, mp_new_lt, rd_newm_lt, own_newm_lt, mp_newm_lt, rd_wr_ne, own_wr_ne, mp_wr_ne, rd_wrm_ne, own_wrm_ne, mp_wrm_ne, rd_new_eq, own_new_eq, mp_newm_eq]
    exact ⟨rfl, f12⟩
  · refine (ref07_Right_spec d H2).mono ?_
    rintro _ _ ⟨rfl, rfl⟩
    simp (disch := (first | omega | (simp only [size_new, size_newm, size_wr, size_wrm] <;> omega) | fail)) only [go_sem, Nat.reduceBEq, Nat.reduceAdd, Nat.reduceMul, Nat.reduceLeDiff, ↓reduceIte, rd_new_lt, own_new_lt, mp_new_lt, rd_newm_lt, own_newm_lt, mp_newm_lt, rd_wr_ne, own_wr_ne, mp_wr_ne, rd_wrm_ne, own_wrm_ne, mp_wrm_ne, rd_new_eq, own_new_eq, mp_newm_eq]
    refine Both.dec (fun hf => ?_) (fun hf => ?_) <;> simp (disch := (first | omega | (simp only [size_new, size_newm, size_wr, size_wrm] <;> omega) | fail)) only [go_sem, Nat.reduceBEq, Nat.reduceAdd, Nat.reduceMul, Nat.reduceLeDiff, ↓reduceIte, rd_new_lt, own_new_lt, mp_new_lt, rd_newm_lt, own_newm_lt, mp_newm_lt, rd_wr_ne, own_wr_ne, mp_wr_ne, rd_wrm_ne, own_wrm_ne, mp_wrm_ne, rd_new_eq, own_new_eq, mp_newm_eq]
    · obtain ⟨_, r, S, rfl, rfl, r2, hS⟩ := hpa.resolve_left (fun h => h.1 hf)
      simp (disch := (first | omega | (simp only [size_new, size_newm, size_wr, size_wrm] <;> omega) | fail)) only [go_sem, Nat.reduceBEq, Nat.reduceAdd, Nat.reduceMul, Nat.reduceLeDiff, ↓reduceIte, rd_new_lt, own_new_lt, mp_new_lt, rd_newm_lt, own_newm_lt, mp_newm_lt, rd_wr_ne, own_wr_ne, mp_wr_ne, rd_wrm_ne, own_wrm_ne, mp_wrm_ne, rd_new_eq, own_new_eq, mp_newm_eq, Option.isNone_some]
      have f3 : Fresh H2 (H2.newm.new 78 [.map (some H2.size), .int .i64 0]) := ((Ext.refl _ _).newm).new _ _
      have ko : KeysAt (H2.newm.new 78 [.map (some H2.size), .int .i64 0]) (H2.size + 1) H2.size (fun _ => none) 0 :=
        ⟨own_new_eq (by simp only [size_newm]), (IMap.new H2).ext ((Ext.refl (fun _ => False) _).new _ _) (fun h => h), by omega⟩
      have r3 := r2.ext f3 (fun _ _ h => h)
      have hd : ∀ x, S x → ¬ (x = H2.size + 1 ∨ x = H2.size) := fun x hx hc => by have := r2.slt x hx; omega
      have fr := f12.trans f3
      have hb : Hh.size ≤ H2.size := f12.size
      have hS1 : ∀ x, S x → Hh.size ≤ x := fun x hx => Nat.le_trans f1.size (hS x hx)
      have hS2 : ∀ x, S x → x < H2.size := r2.slt
      have hsz3 : (H2.newm.new 78 [.map (some H2.size), .int .i64 0]).size = H2.size + 2 := by simp only [size_new, size_newm]
      generalize hH3 : H2.newm.new 78 [.map (some H2.size), .int .i64 0] = H3 at *
      generalize hmb : H2.size = mb at *
      have f4 : Fresh H3 (H3.new 3 []) := (Ext.refl _ _).new _ _
      have st0 : RunSt Hh (H3.new 3 []) r mb d S (fun _ => none) [] (fun _ => none) 0 (.slice (some ⟨H3.size, 0, none⟩) 0 0) [] (some H3.size) :=
        ⟨r3.ext f4 (fun _ _ h => h), HeapOk.nil _ _, ⟨f4.own ko.1 (fun h => h), ko.2.1.ext f4 (fun h => h), ko.2.2⟩, Sl.lit_at (size := 1) (n := 0) (xs := []) rfl rfl, fun z => Iff.rfl, rfl, fr.trans f4,
          fun x hx => ⟨hS1 x hx, hd x hx, fun e => by injection e with e; have := hS2 x hx; omega⟩, fun b e => by injection e with e; omega, hb, List.nodup_nil⟩
      generalize H3.new 3 [] = H4 at *
      generalize H3.size = fb at *
      have hfb : fb = mb + 1 + 1 := hsz3
      subst hfb
      refine LoopV.intro (fun m env H => ∃ (i : Nat) (S : Nat → Prop) (f : Int → Option Int) (l : List Int) (pl : Int → Option Int) (q : Nat) (tv : Value) (th : List Int) (fp : Option Nat),
        env = [(0, i64 d), (5, ptr r), (7, ptr (mb + 1)), (8, tv), (49, .slice a n c), (50, i64 n), (51, i64 i)] ∧ m = n - i ∧ i ≤ n ∧ RunSt Hh H r mb d S f l pl q tv th fp ∧ l.length ≤ i ∧ q ≤ i * 2000) n
        ⟨0, S, fun _ => none, [], fun _ => none, 0, _, [], some (mb + 1 + 1), rfl, by omega, by omega, st0, by simp, by omega⟩ ?_
      rintro m env H ⟨i, S, f, l, pl, q, tv, th, fp, rfl, rfl, hi, st, hli, hq⟩
      simp (disch := (first | omega | (simp only [size_new, size_newm, size_wr, size_wrm] <;> omega) | fail)) only [go_sem, Nat.reduceBEq, Nat.reduceAdd, Nat.reduceMul, Nat.reduceLeDiff, ↓reduceIte, rd_new_lt, own_new_lt, mp_new_lt, rd_newm_lt, own_newm_lt, mp_newm_lt, rd_wr_ne, own_wr_ne, mp_wr_ne, rd_wrm_ne, own_wrm_ne, mp_wrm_ne, rd_new_eq, own_new_eq, mp_newm_eq]
      refine Both.dec (fun hin => ?_) (fun hin => ?_) <;> simp (disch := (first | omega | (simp only [size_new, size_newm, size_wr, size_wrm] <;> omega) | fail)) only [go_sem, Nat.reduceBEq, Nat.reduceAdd, Nat.reduceMul, Nat.reduceLeDiff, ↓reduceIte, rd_new_lt, own_new_lt, mp_new_lt, rd_newm_lt, own_newm_lt, mp_newm_lt, rd_wr_ne, own_wr_ne, mp_wr_ne, rd_wrm_ne, own_wrm_ne, mp_wrm_ne, rd_new_eq, own_new_eq, mp_newm_eq]
      · obtain ⟨row, hrow⟩ : ∃ row, rows[i]? = some row := ⟨_, List.getElem?_eq_getElem (by omega)⟩
        obtain ⟨_, _, rfl, ⟨kind, rfl, hk1⟩, _, _, rfl, ⟨x, rfl, hx1⟩, _, _, rfl, ⟨key, rfl, hkey1⟩, rfl⟩ := hrows row (List.mem_of_getElem? hrow)
        obtain ⟨ab, ao, al, rfl, ar1, ar2, ar3, ar4⟩ := RdS.row (hrd.fresh st.fr) (by omega) hrlen hrow
        refine ⟨by omega, ?_⟩
        simp (disch := (first | omega | (simp only [size_new, size_newm, size_wr, size_wrm] <;> omega) | fail)) only [go_sem, Nat.reduceBEq, Nat.reduceAdd, Nat.reduceMul, Nat.reduceLeDiff, ↓reduceIte, rd_new_lt, own_new_lt, mp_new_lt, rd_newm_lt, own_newm_lt, mp_newm_lt, rd_wr_ne, own_wr_ne, mp_wr_ne, rd_wrm_ne, own_wrm_ne, mp_wrm_ne, rd_new_eq, own_new_eq, mp_newm_eq, ar1, Int.toNat_natCast]
        refine ⟨by omega, ?_⟩
        simp (disch := (first | omega | (simp only [size_new, size_newm, size_wr, size_wrm] <;> omega) | fail)) only [go_sem, Nat.reduceBEq, Nat.reduceAdd, Nat.reduceMul, Nat.reduceLeDiff, ↓reduceIte, rd_new_lt, own_new_lt, mp_new_lt, rd_newm_lt, own_newm_lt, mp_newm_lt, rd_wr_ne, own_wr_ne, mp_wr_ne, rd_wrm_ne, own_wrm_ne, mp_wrm_ne, rd_new_eq, own_new_eq, mp_newm_eq, ar4]
        have e5 : Fresh H ((H.new 85 [.int .i64 0, .int .i64 0, .int .i64 0]).wr H.size [i64 kind, i64 x, i64 key]) := ((Ext.refl _ _).new _ _).wr (fun h => absurd h (Nat.lt_irrefl _)) _
        have st5 := st.fresh e5
        have bx : ((H.new 85 [.int .i64 0, .int .i64 0, .int .i64 0]).wr H.size [i64 kind, i64 x, i64 key]).own H.size = some [i64 kind, i64 x, i64 key] := own_wr_same (own_new _ _ _)
        have bx2 : ∀ z, Own S mb fp z → z < H.size := fun z hz => by
          rcases hz with hz | rfl | rfl | hz
          · exact st.row.slt z hz
          · exact own_lt st.keys.1
          · exact st.keys.2.1.lt
          · exact Sl.lt (hz ▸ st.there)
        have hHs : Hh.size ≤ H.size := st.fr.size
        generalize (H.new 85 [.int .i64 0, .int .i64 0, .int .i64 0]).wr H.size [i64 kind, i64 x, i64 key] = H5 at *
        generalize H.size = ab1 at *
        have hwq : IntKind.i64.wrap (q : Int) = q := wrap64 (by omega) (by omega)
        obtain ⟨ta, tc, htv⟩ := RdS.val st5.there.rd
        subst htv
        have hthl := st5.len
        simp (disch := (first | omega | (simp only [size_new, size_newm, size_wr, size_wrm] <;> omega) | fail)) only [go_sem, Nat.reduceBEq, Nat.reduceAdd, Nat.reduceMul, Nat.reduceLeDiff, ↓reduceIte, rd_new_lt, own_new_lt, mp_new_lt, rd_newm_lt, own_newm_lt, mp_newm_lt, rd_wr_ne, own_wr_ne, mp_wr_ne, rd_wrm_ne, own_wrm_ne, mp_wrm_ne, rd_new_eq, own_new_eq, mp_newm_eq, rd_of_own bx, rd_of_own st5.keys.1, hwq]
        refine (ref07_Has_spec st5.there.rd (by omega) x).mono ?_
        rintro _ _ ⟨rfl, rfl⟩
        simp (disch := (first | omega | (simp only [size_new, size_newm, size_wr, size_wrm] <;> omega) | fail)) only [go_sem, Nat.reduceBEq, Nat.reduceAdd, Nat.reduceMul, Nat.reduceLeDiff, ↓reduceIte, rd_new_lt, own_new_lt, mp_new_lt, rd_newm_lt, own_newm_lt, mp_newm_lt, rd_wr_ne, own_wr_ne, mp_wr_ne, rd_wrm_ne, own_wrm_ne, mp_wrm_ne, rd_new_eq, own_new_eq, mp_newm_eq]
        have hab : ∀ z, Own S mb fp z → z ≠ ab1 := fun z hz e => by have := bx2 z hz; omega
        have hupl : (upN d l.length : Nat) ≤ 80 := by have := upN_le (d := d) (i := (l.length : Int)); omega
        have hupl2 : (upN d ((l.length : Int) - 1) : Nat) ≤ 80 := by have := upN_le (d := d) (i := (l.length : Int) - 1); omega
        have hdup : d * (upN d ((l.length : Int) - 1) : Nat) ≤ 16 * (upN d ((l.length : Int) - 1) : Nat) := Int.mul_le_mul_of_nonneg_right hf.2 (by omega)
        have hdup0 : 0 ≤ d * (upN d ((l.length : Int) - 1) : Nat) := Int.mul_nonneg (by have := hf.1; omega) (by omega)
        refine vc_cut (fun e H' => e.find 0 = some (i64 d) ∧ e.find 5 = some (ptr r) ∧ e.find 7 = some (ptr (mb + 1)) ∧ e.find 10 = some (ptr ab1) ∧ e.find 12 = some (i64 q) ∧ e.find 49 = some (.slice (some ⟨ab, ao, none⟩) n c) ∧ e.find 50 = some (i64 n) ∧ e.find 51 = some (i64 i) ∧
          ∃ (S' : Nat → Prop) (f' : Int → Option Int) (l' : List Int) (pl' : Int → Option Int) (q' : Nat) (tv' : Value) (th' : List Int) (fp' : Option Nat) (most : Int), e.find 8 = some tv' ∧ e.find 13 = some (i64 most) ∧ RunSt Hh H' r mb d S' f' l' pl' q' tv' th' fp' ∧
            H'.own ab1 = some [i64 kind, i64 x, i64 key] ∧ l'.length ≤ i + 1 ∧ q ≤ q' ∧ (q' : Int) - q ≤ most ∧ most ≤ 2000) ?_ ?_
        · cases hkd : decide (x ∈ th) with
          | true =>
            have hkn : x ∈ th := of_decide_eq_true hkd
            have hxl : x ∈ l := (st5.mem x).2 hkn
            obtain ⟨p, hp⟩ : ∃ p, pl x = some p := Option.ne_none_iff_exists'.1 ((st5.ok.mem x).1 hxl)
            have hlpos : 0 < l.length := List.length_pos_of_mem hxl
            have hdep : depthF d (th.length : Nat) = (upN d ((l.length : Int) - 1) : Nat) := by rw [depth_upN (by omega), st5.len]
            simp (disch := (first | omega | (simp only [size_new, size_newm, size_wr, size_wrm] <;> omega) | fail)) only [go_sem, Nat.reduceBEq, Nat.reduceAdd, Nat.reduceMul, Nat.reduceLeDiff, ↓reduceIte, rd_new_lt, own_new_lt, mp_new_lt, rd_newm_lt, own_newm_lt, mp_newm_lt, rd_wr_ne, own_wr_ne, mp_wr_ne, rd_wrm_ne, own_wrm_ne, mp_wrm_ne, rd_new_eq, own_new_eq, mp_newm_eq, rd_of_own bx]
            refine Both.dec (fun hk0 => ?_) (fun hk0 => ?_) <;> simp (disch := (first | omega | (simp only [size_new, size_newm, size_wr, size_wrm] <;> omega) | fail)) only [go_sem, Nat.reduceBEq, Nat.reduceAdd, Nat.reduceMul, Nat.reduceLeDiff, ↓reduceIte, rd_new_lt, own_new_lt, mp_new_lt, rd_newm_lt, own_newm_lt, mp_newm_lt, rd_wr_ne, own_wr_ne, mp_wr_ne, rd_wrm_ne, own_wrm_ne, mp_wrm_ne, rd_new_eq, own_new_eq, mp_newm_eq]
            · rw [vc_cutS]
              simp (disch := (first | omega | (simp only [size_new, size_newm, size_wr, size_wrm] <;> omega) | fail)) only [go_sem, Nat.reduceBEq, Nat.reduceAdd, Nat.reduceMul, Nat.reduceLeDiff, ↓reduceIte, rd_new_lt, own_new_lt, mp_new_lt, rd_newm_lt, own_newm_lt, mp_newm_lt, rd_wr_ne, own_wr_ne, mp_wr_ne, rd_wrm_ne, own_wrm_ne, mp_wrm_ne, rd_new_eq, own_new_eq, mp_newm_eq, rd_of_own bx]
              refine (sift_Add_spec (keys_ord _ _ _) st5.row st5.slt st5.keys x (by omega)).mono ?_
              rintro _ _ (⟨hx, rfl, rfl⟩ | ⟨hx, _⟩)
              · simp (disch := (first | omega | (simp only [size_new, size_newm, size_wr, size_wrm] <;> omega) | fail)) only [go_sem, Nat.reduceBEq, Nat.reduceAdd, Nat.reduceMul, Nat.reduceLeDiff, ↓reduceIte, rd_new_lt, own_new_lt, mp_new_lt, rd_newm_lt, own_newm_lt, mp_newm_lt, rd_wr_ne, own_wr_ne, mp_wr_ne, rd_wrm_ne, own_wrm_ne, mp_wrm_ne, rd_new_eq, own_new_eq, mp_newm_eq]
                exact ⟨trivial, trivial, trivial, trivial, trivial, trivial, trivial, trivial, S, f, l, pl, q, _, th, fp, 0, rfl, rfl, st5, bx, by omega, Nat.le_refl _, by omega, by omega⟩
              · rw [hp] at hx; cases hx
            · refine Both.dec (fun hk1 => ?_) (fun hk1 => ?_) <;> simp (disch := (first | omega | (simp only [size_new, size_newm, size_wr, size_wrm] <;> omega) | fail)) only [go_sem, Nat.reduceBEq, Nat.reduceAdd, Nat.reduceMul, Nat.reduceLeDiff, ↓reduceIte, rd_new_lt, own_new_lt, mp_new_lt, rd_newm_lt, own_newm_lt, mp_newm_lt, rd_wr_ne, own_wr_ne, mp_wr_ne, rd_wrm_ne, own_wrm_ne, mp_wrm_ne, rd_new_eq, own_new_eq, mp_newm_eq]
              · rw [vc_cutS]
                simp (disch := (first | omega | (simp only [size_new, size_newm, size_wr, size_wrm] <;> omega) | fail)) only [go_sem, Nat.reduceBEq, Nat.reduceAdd, Nat.reduceMul, Nat.reduceLeDiff, ↓reduceIte, rd_new_lt, own_new_lt, mp_new_lt, rd_newm_lt, own_newm_lt, mp_newm_lt, rd_wr_ne, own_wr_ne, mp_wr_ne, rd_wrm_ne, own_wrm_ne, mp_wrm_ne, rd_new_eq, own_new_eq, mp_newm_eq]
                refine (ref07_Depth_spec d _ (th.length : Nat) H5 (Nat.le_refl _)).mono ?_
                rintro _ _ ⟨rfl, rfl⟩
                rw [hdep]
                simp (disch := (first | omega | (simp only [size_new, size_newm, size_wr, size_wrm] <;> omega) | fail)) only [go_sem, Nat.reduceBEq, Nat.reduceAdd, Nat.reduceMul, Nat.reduceLeDiff, ↓reduceIte, rd_new_lt, own_new_lt, mp_new_lt, rd_newm_lt, own_newm_lt, mp_newm_lt, rd_wr_ne, own_wr_ne, mp_wr_ne, rd_wrm_ne, own_wrm_ne, mp_wrm_ne, rd_new_eq, own_new_eq, mp_newm_eq]
                rw [wrap64 (n := d * (upN d ((l.length : Int) - 1) : Nat)) (by omega) (by omega), wrap64 (by omega) (by omega)]
                simp (disch := (first | omega | (simp only [size_new, size_newm, size_wr, size_wrm] <;> omega) | fail)) only [go_sem, Nat.reduceBEq, Nat.reduceAdd, Nat.reduceMul, Nat.reduceLeDiff, ↓reduceIte, rd_new_lt, own_new_lt, mp_new_lt, rd_newm_lt, own_newm_lt, mp_newm_lt, rd_wr_ne, own_wr_ne, mp_wr_ne, rd_wrm_ne, own_wrm_ne, mp_wrm_ne, rd_new_eq, own_new_eq, mp_newm_eq, rd_of_own bx]
                refine (ref07_Without_spec st5.there.rd (by omega) x).mono ?_
                rintro tv6 H6 ⟨f6, m6, fp6, s6, rfl, b6⟩
                have st6 := st5.fresh f6
                have bx6 := f6.own bx (fun h => h)
                simp (disch := (first | omega | (simp only [size_new, size_newm, size_wr, size_wrm] <;> omega) | fail)) only [go_sem, Nat.reduceBEq, Nat.reduceAdd, Nat.reduceMul, Nat.reduceLeDiff, ↓reduceIte, rd_new_lt, own_new_lt, mp_new_lt, rd_newm_lt, own_newm_lt, mp_newm_lt, rd_wr_ne, own_wr_ne, mp_wr_ne, rd_wrm_ne, own_wrm_ne, mp_wrm_ne, rd_new_eq, own_new_eq, mp_newm_eq, rd_of_own bx6]
                refine (sift_Remove_spec (keys_ord _ _ _) st6.row st6.slt st6.keys hf x (by omega) st6.ok.pl).mono ?_
                rintro _ H7 (⟨hn, _, _⟩ | ⟨p', hp', rfl, r7, k7, e7⟩)
                · rw [hp] at hn; cases hn
                obtain ⟨b1, b2, b3, b4⟩ := st6.ok.remove hf hp'
                have bx7 := e7.own bx6 (fun hc => hab ab1 (by rcases hc with hc | hc | hc; exact .inl hc; exact .inr (.inl hc); exact .inr (.inr (.inl hc))) rfl)
                have hnot : ∀ b, fp6 = some b → ¬ (S b ∨ b = mb + 1 ∨ b = mb) := fun b hb hc => by
                  have h1 := b6 b hb
                  have h2 := own_lt st5.keys.1
                  rcases hc with hc | hc | hc
                  · have := st5.row.slt b hc; omega
                  · omega
                  · omega
                have st7 : RunSt Hh H7 r mb d S f (removeM (ltK f) d x l pl p').1 (removeM (ltK f) d x l pl p').2.1 (q + (removeM (ltK f) d x l pl p').2.2) tv6 (th.filter (· ≠ x)) fp6 := by
                  refine ⟨r7, b1, k7, s6.ext e7 (fun b hb => hnot b hb), fun z => by rw [b3 z, st5.mem z]; simp, by rw [b2, length_without st5.nd hkn, st5.len], st6.fr.then e7 (fun z hz => ?_), fun z hz => ⟨(st5.sb z hz).1, (st5.sb z hz).2.1, fun e => hnot z e (.inl hz)⟩, fun b hb => ?_, st5.mbb, st5.nd.filter _⟩
                  · have := st5.mbb
                    rcases hz with hz | rfl | rfl
                    · exact (st5.sb z hz).1
                    · omega
                    · omega
                  · have h1 := b6 b hb
                    have h2 := own_lt st5.keys.1
                    have h3 := st5.fr.size
                    exact ⟨by omega, by omega, by omega⟩
                simp (disch := (first | omega | (simp only [size_new, size_newm, size_wr, size_wrm] <;> omega) | fail)) only [go_sem, Nat.reduceBEq, Nat.reduceAdd, Nat.reduceMul, Nat.reduceLeDiff, ↓reduceIte, rd_new_lt, own_new_lt, mp_new_lt, rd_newm_lt, own_newm_lt, mp_newm_lt, rd_wr_ne, own_wr_ne, mp_wr_ne, rd_wrm_ne, own_wrm_ne, mp_wrm_ne, rd_new_eq, own_new_eq, mp_newm_eq]
                refine ⟨trivial, trivial, trivial, trivial, trivial, trivial, trivial, trivial, _, _, _, _, _, _, _, _, _, rfl, rfl, st7, bx7, by omega, by omega, ?_, by omega⟩
                omega
              · refine Both.dec (fun hk2 => ?_) (fun hk2 => ?_) <;> simp (disch := (first | omega | (simp only [size_new, size_newm, size_wr, size_wrm] <;> omega) | fail)) only [go_sem, Nat.reduceBEq, Nat.reduceAdd, Nat.reduceMul, Nat.reduceLeDiff, ↓reduceIte, rd_new_lt, own_new_lt, mp_new_lt, rd_newm_lt, own_newm_lt, mp_newm_lt, rd_wr_ne, own_wr_ne, mp_wr_ne, rd_wrm_ne, own_wrm_ne, mp_wrm_ne, rd_new_eq, own_new_eq, mp_newm_eq]
                · rw [vc_cutS]
                  simp (disch := (first | omega | (simp only [size_new, size_newm, size_wr, size_wrm] <;> omega) | fail)) only [go_sem, Nat.reduceBEq, Nat.reduceAdd, Nat.reduceMul, Nat.reduceLeDiff, ↓reduceIte, rd_new_lt, own_new_lt, mp_new_lt, rd_newm_lt, own_newm_lt, mp_newm_lt, rd_wr_ne, own_wr_ne, mp_wr_ne, rd_wrm_ne, own_wrm_ne, mp_wrm_ne, rd_new_eq, own_new_eq, mp_newm_eq, rd_of_own bx, rd_of_own st5.keys.1, st5.keys.2.1.look, many0_tuple]
                  refine st5.keys.2.1.upd fun H6 m6 e6 => ?_
                  have k6 := st5.keys.put m6 e6
                  have bx6 := e6.own bx (fun e => hab ab1 (.inr (.inr (.inl e))) rfl)
                  have row6 := st5.row.ext e6 (fun z hz e => (st5.sb z hz).2.1 (.inr e))
                  have th6 := st5.there.ext e6 (fun b hb e => (st5.fb b hb).2.2 e)
                  have fr6 := st5.fr.then e6 (fun z hz => by have := st5.mbb; omega)
                  simp (disch := (first | omega | (simp only [size_new, size_newm, size_wr, size_wrm] <;> omega) | fail)) only [go_sem, Nat.reduceBEq, Nat.reduceAdd, Nat.reduceMul, Nat.reduceLeDiff, ↓reduceIte, rd_new_lt, own_new_lt, mp_new_lt, rd_newm_lt, own_newm_lt, mp_newm_lt, rd_wr_ne, own_wr_ne, mp_wr_ne, rd_wrm_ne, own_wrm_ne, mp_wrm_ne, rd_new_eq, own_new_eq, mp_newm_eq]
                  refine (ref07_Depth_spec d _ (th.length : Nat) H6 (Nat.le_refl _)).mono ?_
                  rintro _ _ ⟨rfl, rfl⟩
                  rw [hdep]
                  simp (disch := (first | omega | (simp only [size_new, size_newm, size_wr, size_wrm] <;> omega) | fail)) only [go_sem, Nat.reduceBEq, Nat.reduceAdd, Nat.reduceMul, Nat.reduceLeDiff, ↓reduceIte, rd_new_lt, own_new_lt, mp_new_lt, rd_newm_lt, own_newm_lt, mp_newm_lt, rd_wr_ne, own_wr_ne, mp_wr_ne, rd_wrm_ne, own_wrm_ne, mp_wrm_ne, rd_new_eq, own_new_eq, mp_newm_eq, rd_of_own bx6]
                  refine (sift_Raise_spec (keys_ord _ _ _) row6 st5.slt k6 x (by omega) (fun i hi => by
                    obtain ⟨h1, h2⟩ := (st5.ok.pl x i).1 hi
                    have := (List.getElem?_eq_some_iff.1 h2).1
                    exact ⟨h1, by omega⟩)).mono ?_
                  rintro _ H7 (⟨hn, _, _⟩ | ⟨p', hp', rfl, r7, k7, e7⟩)
                  · rw [hp] at hn; cases hn
                  obtain ⟨b1, b2, b3, b4⟩ := st5.ok.raise (g := setM f x (if key < many0 f x then key else many0 f x)) hf hp' (fun z hz => by unfold many0 setM; rw [if_neg hz]) (by unfold many0 setM; simp only [if_true, Option.getD_some]; split <;> omega)
                  have bx7 := e7.own bx6 (fun hc => hab ab1 (by rcases hc with hc | hc | hc; exact .inl hc; exact .inr (.inl hc); exact .inr (.inr (.inl hc))) rfl)
                  have st7 : RunSt Hh H7 r mb d S (setM f x (if key < many0 f x then key else many0 f x)) (upM (ltK (setM f x (if key < many0 f x then key else many0 f x))) d x p'.toNat l pl p').l (upM (ltK (setM f x (if key < many0 f x then key else many0 f x))) d x p'.toNat l pl p').pl (q + (upM (ltK (setM f x (if key < many0 f x then key else many0 f x))) d x p'.toNat l pl p').asked) (.slice ta th.length tc) th fp := by
                    refine ⟨r7, b1, k7, th6.ext e7 (fun b hb hc => ?_), fun z => by rw [b2 z]; exact st5.mem z, by rw [b3]; exact st5.len, fr6.then e7 (fun z hz => ?_), st5.sb, st5.fb, st5.mbb, st5.nd⟩
                    · rcases hc with hc | hc | hc
                      · exact (st5.sb b hc).2.2 hb
                      · exact (st5.fb b hb).2.1 hc
                      · exact (st5.fb b hb).2.2 hc
                    · have := st5.mbb
                      rcases hz with hz | rfl | rfl
                      · exact (st5.sb z hz).1
                      · omega
                      · omega
                  simp (disch := (first | omega | (simp only [size_new, size_newm, size_wr, size_wrm] <;> omega) | fail)) only [go_sem, Nat.reduceBEq, Nat.reduceAdd, Nat.reduceMul, Nat.reduceLeDiff, ↓reduceIte, rd_new_lt, own_new_lt, mp_new_lt, rd_newm_lt, own_newm_lt, mp_newm_lt, rd_wr_ne, own_wr_ne, mp_wr_ne, rd_wrm_ne, own_wrm_ne, mp_wrm_ne, rd_new_eq, own_new_eq, mp_newm_eq]
                  refine ⟨trivial, trivial, trivial, trivial, trivial, trivial, trivial, trivial, _, _, _, _, _, _, _, _, _, rfl, rfl, st7, bx7, by omega, by omega, ?_, by omega⟩
                  omega
                · exact ⟨trivial, trivial, trivial, trivial, trivial, trivial, trivial, trivial, S, f, l, pl, q, _, th, fp, 0, rfl, rfl, st5, bx, by omega, Nat.le_refl _, by omega, by omega⟩
          | false =>
            have hkn : x ∉ th := of_decide_eq_false hkd
            have hxl : x ∉ l := fun h => hkn ((st5.mem x).1 h)
            have hpx : pl x = none := by
              cases hp : pl x with
              | none => rfl
              | some p => exact absurd ((st5.ok.mem x).2 (by rw [hp]; simp)) hxl
            simp (disch := (first | omega | (simp only [size_new, size_newm, size_wr, size_wrm] <;> omega) | fail)) only [go_sem, Nat.reduceBEq, Nat.reduceAdd, Nat.reduceMul, Nat.reduceLeDiff, ↓reduceIte, rd_new_lt, own_new_lt, mp_new_lt, rd_newm_lt, own_newm_lt, mp_newm_lt, rd_wr_ne, own_wr_ne, mp_wr_ne, rd_wrm_ne, own_wrm_ne, mp_wrm_ne, rd_new_eq, own_new_eq, mp_newm_eq, rd_of_own bx]
            refine Both.dec (fun hk0 => ?_) (fun hk0 => ?_) <;> simp (disch := (first | omega | (simp only [size_new, size_newm, size_wr, size_wrm] <;> omega) | fail)) only [go_sem, Nat.reduceBEq, Nat.reduceAdd, Nat.reduceMul, Nat.reduceLeDiff, ↓reduceIte, rd_new_lt, own_new_lt, mp_new_lt, rd_newm_lt, own_newm_lt, mp_newm_lt, rd_wr_ne, own_wr_ne, mp_wr_ne, rd_wrm_ne, own_wrm_ne, mp_wrm_ne, rd_new_eq, own_new_eq, mp_newm_eq]
            · rw [vc_cutS]
              simp (disch := (first | omega | (simp only [size_new, size_newm, size_wr, size_wrm] <;> omega) | fail)) only [go_sem, Nat.reduceBEq, Nat.reduceAdd, Nat.reduceMul, Nat.reduceLeDiff, ↓reduceIte, rd_new_lt, own_new_lt, mp_new_lt, rd_newm_lt, own_newm_lt, mp_newm_lt, rd_wr_ne, own_wr_ne, mp_wr_ne, rd_wrm_ne, own_wrm_ne, mp_wrm_ne, rd_new_eq, own_new_eq, mp_newm_eq, rd_of_own bx, rd_of_own st5.keys.1]
              refine st5.keys.2.1.upd fun H6 m6 e6 => ?_
              have k6 := st5.keys.put m6 e6
              have bx6 := e6.own bx (fun e => hab ab1 (.inr (.inr (.inl e))) rfl)
              have row6 := st5.row.ext e6 (fun z hz e => (st5.sb z hz).2.1 (.inr e))
              have ok6 : HeapOk (setM f x key) d l pl := st5.ok.congr hf (fun z hz => by
                unfold many0 setM
                rw [if_neg (fun e => by rw [e] at hz; exact hxl hz)])
              have th6 := st5.there.ext e6 (fun b hb e => (st5.fb b hb).2.2 e)
              have fr6 := st5.fr.then e6 (fun z hz => by have := st5.mbb; omega)
              simp (disch := (first | omega | (simp only [size_new, size_newm, size_wr, size_wrm] <;> omega) | fail)) only [go_sem, Nat.reduceBEq, Nat.reduceAdd, Nat.reduceMul, Nat.reduceLeDiff, ↓reduceIte, rd_new_lt, own_new_lt, mp_new_lt, rd_newm_lt, own_newm_lt, mp_newm_lt, rd_wr_ne, own_wr_ne, mp_wr_ne, rd_wrm_ne, own_wrm_ne, mp_wrm_ne, rd_new_eq, own_new_eq, mp_newm_eq, rd_of_own bx6]
              have e7 : Ext (fun _ => False) H6 (H6.new 3 [i64 x]) := (Ext.refl _ H6).new _ _
              refine Sl.append (th6.ext e7 (fun _ _ h => h)) (Sl.lit_at (size := 1) (xs := [i64 x]) rfl rfl).rd rfl (allOne_ints [x]) (by omega) ?_
              intro v8 H8 fp8 s8 hext8 hfp8
              have e68 : Ext (fun z => fp = some z) H6 H8 := (e7.mono fun _ _ h => h.elim).trans' hext8 (fun z _ h => h)
              have row8 := row6.ext e68 (fun z hz h => (st5.sb z hz).2.2 h)
              have k8 : KeysAt H8 (mb + 1) mb (setM f x key) q := ⟨e68.own k6.1 (fun h => (st5.fb _ h).2.1 rfl), k6.2.1.ext e68 (fun h => (st5.fb _ h).2.2 rfl), k6.2.2⟩
              have bx8 := e68.own bx6 (fun h => hab ab1 (.inr (.inr (.inr h))) rfl)
              have fr8 := fr6.then e68 (fun z hz => (st5.fb z hz).1)
              have hfb8 : ∀ b, fp8 = some b → fp = some b ∨ H6.size ≤ b := fun b hb => by
                rcases hfp8 with h | ⟨z, h, h5, h6⟩
                · exact .inl (h ▸ hb)
                · rw [h] at hb; injection hb with hb; subst hb; rw [size_new] at h5; exact .inr (by omega)
              have hsz56 := e6.size
              have hnot : ∀ b, fp8 = some b → ¬ (S b ∨ b = mb + 1 ∨ b = mb) := fun b hb hc => by
                have h2 := own_lt st5.keys.1
                rcases hfb8 b hb with h | h
                · rcases hc with hc | hc | hc
                  · exact (st5.sb b hc).2.2 h
                  · exact (st5.fb b h).2.1 hc
                  · exact (st5.fb b h).2.2 hc
                · rcases hc with hc | hc | hc
                  · have := st5.row.slt b hc; omega
                  · omega
                  · omega
              simp (disch := (first | omega | (simp only [size_new, size_newm, size_wr, size_wrm] <;> omega) | fail)) only [go_sem, Nat.reduceBEq, Nat.reduceAdd, Nat.reduceMul, Nat.reduceLeDiff, ↓reduceIte, rd_new_lt, own_new_lt, mp_new_lt, rd_newm_lt, own_newm_lt, mp_newm_lt, rd_wr_ne, own_wr_ne, mp_wr_ne, rd_wrm_ne, own_wrm_ne, mp_wrm_ne, rd_new_eq, own_new_eq, mp_newm_eq]
              rw [wrap64 (by omega) (by omega), show ((th.length : Nat) : Int) + 1 = ((th.length + 1 : Nat) : Int) by omega]
              refine (ref07_Depth_spec d _ ((th.length + 1 : Nat) : Int) H8 (Nat.le_refl _)).mono ?_
              rintro _ _ ⟨rfl, rfl⟩
              rw [show depthF d ((th.length + 1 : Nat) : Int) = (upN d l.length : Nat) by rw [depth_upN (by omega), st5.len, show ((th.length + 1 : Nat) : Int) - 1 = (th.length : Int) by omega]]
              simp (disch := (first | omega | (simp only [size_new, size_newm, size_wr, size_wrm] <;> omega) | fail)) only [go_sem, Nat.reduceBEq, Nat.reduceAdd, Nat.reduceMul, Nat.reduceLeDiff, ↓reduceIte, rd_new_lt, own_new_lt, mp_new_lt, rd_newm_lt, own_newm_lt, mp_newm_lt, rd_wr_ne, own_wr_ne, mp_wr_ne, rd_wrm_ne, own_wrm_ne, mp_wrm_ne, rd_new_eq, own_new_eq, mp_newm_eq, rd_of_own bx8]
              refine (sift_Add_spec (keys_ord _ _ _) row8 st5.slt k8 x (by omega)).mono ?_
              rintro _ H9 (⟨hx, _, _⟩ | ⟨hx, rfl, S9, r9, k9, e9, s9⟩)
              · exact absurd hpx hx
              obtain ⟨b1, b2, b3, b4⟩ := ok6.add hf hpx
              have bx9 := e9.own bx8 (fun hc => hab ab1 (by rcases hc with hc | hc | hc; exact .inl hc; exact .inr (.inl hc); exact .inr (.inr (.inl hc))) rfl)
              have st9 : RunSt Hh H9 r mb d S9 (setM f x key) (upM (ltK (setM f x key)) d x l.length (l ++ [x]) pl l.length).l (upM (ltK (setM f x key)) d x l.length (l ++ [x]) pl l.length).pl (q + (upM (ltK (setM f x key)) d x l.length (l ++ [x]) pl l.length).asked) v8 (th ++ [x]) fp8 := by
                refine ⟨r9, b1, k9, ?_, fun z => by rw [b2 z, st5.mem z]; simp [or_comm], by rw [b3, st5.len]; simp, fr8.then e9 (fun z hz => ?_), fun z hz => ?_, fun b hb => ?_, st5.mbb, ?_⟩
                · have := s8.ext e9 (fun b hb => hnot b hb)
                  simpa using this
                · have := st5.mbb
                  rcases hz with hz | rfl | rfl
                  · exact (st5.sb z hz).1
                  · omega
                  · omega
                · rcases s9 z hz with h | h
                  · exact ⟨(st5.sb z h).1, (st5.sb z h).2.1, fun e => hnot z e (.inl h)⟩
                  · have h1 := own_lt k8.1
                    have h2 := fr8.size
                    exact ⟨by omega, by omega, fun e => by have := Sl.lt (e ▸ s8); omega⟩
                · rcases hfb8 b hb with h | h
                  · exact st5.fb b h
                  · have h2 := own_lt st5.keys.1
                    have h3 := st5.fr.size
                    exact ⟨by omega, by omega, by omega⟩
                · rw [List.nodup_append]
                  exact ⟨st5.nd, by simp, fun a ha b hb e => hkn (by simp at hb; rw [← hb, ← e]; exact ha)⟩
              simp (disch := (first | omega | (simp only [size_new, size_newm, size_wr, size_wrm] <;> omega) | fail)) only [go_sem, Nat.reduceBEq, Nat.reduceAdd, Nat.reduceMul, Nat.reduceLeDiff, ↓reduceIte, rd_new_lt, own_new_lt, mp_new_lt, rd_newm_lt, own_newm_lt, mp_newm_lt, rd_wr_ne, own_wr_ne, mp_wr_ne, rd_wrm_ne, own_wrm_ne, mp_wrm_ne, rd_new_eq, own_new_eq, mp_newm_eq]
              refine ⟨trivial, trivial, trivial, trivial, trivial, trivial, trivial, trivial, _, _, _, _, _, _, _, _, _, rfl, rfl, st9, bx9, by omega, by omega, ?_, by omega⟩
              omega
            · refine Both.dec (fun hk1 => ?_) (fun hk1 => ?_) <;> simp (disch := (first | omega | (simp only [size_new, size_newm, size_wr, size_wrm] <;> omega) | fail)) only [go_sem, Nat.reduceBEq, Nat.reduceAdd, Nat.reduceMul, Nat.reduceLeDiff, ↓reduceIte, rd_new_lt, own_new_lt, mp_new_lt, rd_newm_lt, own_newm_lt, mp_newm_lt, rd_wr_ne, own_wr_ne, mp_wr_ne, rd_wrm_ne, own_wrm_ne, mp_wrm_ne, rd_new_eq, own_new_eq, mp_newm_eq]
              · rw [vc_cutS]
                simp (disch := (first | omega | (simp only [size_new, size_newm, size_wr, size_wrm] <;> omega) | fail)) only [go_sem, Nat.reduceBEq, Nat.reduceAdd, Nat.reduceMul, Nat.reduceLeDiff, ↓reduceIte, rd_new_lt, own_new_lt, mp_new_lt, rd_newm_lt, own_newm_lt, mp_newm_lt, rd_wr_ne, own_wr_ne, mp_wr_ne, rd_wrm_ne, own_wrm_ne, mp_wrm_ne, rd_new_eq, own_new_eq, mp_newm_eq, rd_of_own bx]
                refine (sift_Remove_spec (keys_ord _ _ _) st5.row st5.slt st5.keys hf x (by omega) st5.ok.pl).mono ?_
                rintro _ _ (⟨hn, rfl, rfl⟩ | ⟨p', hp', _⟩)
                · simp (disch := (first | omega | (simp only [size_new, size_newm, size_wr, size_wrm] <;> omega) | fail)) only [go_sem, Nat.reduceBEq, Nat.reduceAdd, Nat.reduceMul, Nat.reduceLeDiff, ↓reduceIte, rd_new_lt, own_new_lt, mp_new_lt, rd_newm_lt, own_newm_lt, mp_newm_lt, rd_wr_ne, own_wr_ne, mp_wr_ne, rd_wrm_ne, own_wrm_ne, mp_wrm_ne, rd_new_eq, own_new_eq, mp_newm_eq]
                  exact ⟨trivial, trivial, trivial, trivial, trivial, trivial, trivial, trivial, S, f, l, pl, q, _, th, fp, 0, rfl, rfl, st5, bx, by omega, Nat.le_refl _, by omega, by omega⟩
                · rw [hpx] at hp'; cases hp'
              · refine Both.dec (fun hk2 => ?_) (fun hk2 => ?_) <;> simp (disch := (first | omega | (simp only [size_new, size_newm, size_wr, size_wrm] <;> omega) | fail)) only [go_sem, Nat.reduceBEq, Nat.reduceAdd, Nat.reduceMul, Nat.reduceLeDiff, ↓reduceIte, rd_new_lt, own_new_lt, mp_new_lt, rd_newm_lt, own_newm_lt, mp_newm_lt, rd_wr_ne, own_wr_ne, mp_wr_ne, rd_wrm_ne, own_wrm_ne, mp_wrm_ne, rd_new_eq, own_new_eq, mp_newm_eq]
                · rw [vc_cutS]
                  simp (disch := (first | omega | (simp only [size_new, size_newm, size_wr, size_wrm] <;> omega) | fail)) only [go_sem, Nat.reduceBEq, Nat.reduceAdd, Nat.reduceMul, Nat.reduceLeDiff, ↓reduceIte, rd_new_lt, own_new_lt, mp_new_lt, rd_newm_lt, own_newm_lt, mp_newm_lt, rd_wr_ne, own_wr_ne, mp_wr_ne, rd_wrm_ne, own_wrm_ne, mp_wrm_ne, rd_new_eq, own_new_eq, mp_newm_eq, rd_of_own bx]
                  refine (sift_Raise_spec (keys_ord _ _ _) st5.row st5.slt st5.keys x (by omega) (fun i hi => by rw [hpx] at hi; cases hi)).mono ?_
                  rintro _ _ (⟨hn, rfl, rfl⟩ | ⟨p', hp', _⟩)
                  · simp (disch := (first | omega | (simp only [size_new, size_newm, size_wr, size_wrm] <;> omega) | fail)) only [go_sem, Nat.reduceBEq, Nat.reduceAdd, Nat.reduceMul, Nat.reduceLeDiff, ↓reduceIte, rd_new_lt, own_new_lt, mp_new_lt, rd_newm_lt, own_newm_lt, mp_newm_lt, rd_wr_ne, own_wr_ne, mp_wr_ne, rd_wrm_ne, own_wrm_ne, mp_wrm_ne, rd_new_eq, own_new_eq, mp_newm_eq]
                    exact ⟨trivial, trivial, trivial, trivial, trivial, trivial, trivial, trivial, S, f, l, pl, q, _, th, fp, 0, rfl, rfl, st5, bx, by omega, Nat.le_refl _, by omega, by omega⟩
                  · rw [hpx] at hp'; cases hp'
                · exact ⟨trivial, trivial, trivial, trivial, trivial, trivial, trivial, trivial, S, f, l, pl, q, _, th, fp, 0, rfl, rfl, st5, bx, by omega, Nat.le_refl _, by omega, by omega⟩
        · rintro e H' ⟨e0, e1, e2, e3, e4, e5', e6, e7, S', f', l', pl', q', tv', th', fp', most, e8, e13, st', bx', hl', hq1, hq2, hm⟩
          have hwq' : IntKind.i64.wrap (q' : Int) = q' := wrap64 (by omega) (by omega)
          have hwd : IntKind.i64.wrap ((q' : Int) - q) = (q' : Int) - q := wrap64 (by omega) (by omega)
          simp (disch := (first | omega | (simp only [size_new, size_newm, size_wr, size_wrm] <;> omega) | fail)) only [go_sem, Nat.reduceBEq, Nat.reduceAdd, Nat.reduceMul, Nat.reduceLeDiff, ↓reduceIte, rd_new_lt, own_new_lt, mp_new_lt, rd_newm_lt, own_newm_lt, mp_newm_lt, rd_wr_ne, own_wr_ne, mp_wr_ne, rd_wrm_ne, own_wrm_ne, mp_wrm_ne, rd_new_eq, own_new_eq, mp_newm_eq, e0, e1, e2, e3, e4, e5', e6, e7, e8, e13, rd_of_own bx']
          refine (sift_Place_spec st'.row x).mono ?_
          rintro _ _ ⟨rfl, rfl⟩
          rw [twoF_eq]
          simp (disch := (first | omega | (simp only [size_new, size_newm, size_wr, size_wrm] <;> omega) | fail)) only [go_sem, Nat.reduceBEq, Nat.reduceAdd, Nat.reduceMul, Nat.reduceLeDiff, ↓reduceIte, rd_new_lt, own_new_lt, mp_new_lt, rd_newm_lt, own_newm_lt, mp_newm_lt, rd_wr_ne, own_wr_ne, mp_wr_ne, rd_wrm_ne, own_wrm_ne, mp_wrm_ne, rd_new_eq, own_new_eq, mp_newm_eq, e0, e1, e2, e3, e4, e5', e6, e7, e8, e13, rd_of_own st'.keys.1, hwq', hwd]
          refine Both.of_false (decide_eq_false (by omega)) ?_
          simp (disch := (first | omega | (simp only [size_new, size_newm, size_wr, size_wrm] <;> omega) | fail)) only [go_sem, Nat.reduceBEq, Nat.reduceAdd, Nat.reduceMul, Nat.reduceLeDiff, ↓reduceIte, rd_new_lt, own_new_lt, mp_new_lt, rd_newm_lt, own_newm_lt, mp_newm_lt, rd_wr_ne, own_wr_ne, mp_wr_ne, rd_wrm_ne, own_wrm_ne, mp_wrm_ne, rd_new_eq, own_new_eq, mp_newm_eq, rd_of_own bx']
          have hl'2 := st'.len
          refine (ref07_Has_spec st'.there.rd (by omega) x).mono ?_
          rintro _ _ ⟨rfl, rfl⟩
          have hsame : decide (x ∈ th') = (pl' x).isSome := by
            cases hpx : pl' x with
            | none =>
              exact decide_eq_false (fun h => ((st'.ok.mem x).1 ((st'.mem x).2 h)) hpx)
            | some p => exact decide_eq_true ((st'.mem x).1 ((st'.ok.mem x).2 (by rw [hpx]; simp)))
          rw [hsame]
          simp (disch := (first | omega | (simp only [size_new, size_newm, size_wr, size_wrm] <;> omega) | fail)) only [go_sem, Nat.reduceBEq, Nat.reduceAdd, Nat.reduceMul, Nat.reduceLeDiff, ↓reduceIte, rd_new_lt, own_new_lt, mp_new_lt, rd_newm_lt, own_newm_lt, mp_newm_lt, rd_wr_ne, own_wr_ne, mp_wr_ne, rd_wrm_ne, own_wrm_ne, mp_wrm_ne, rd_new_eq, own_new_eq, mp_newm_eq]
          refine Both.of_true (by simp) ?_
          simp (disch := (first | omega | (simp only [size_new, size_newm, size_wr, size_wrm] <;> omega) | fail)) only [go_sem, Nat.reduceBEq, Nat.reduceAdd, Nat.reduceMul, Nat.reduceLeDiff, ↓reduceIte, rd_new_lt, own_new_lt, mp_new_lt, rd_newm_lt, own_newm_lt, mp_newm_lt, rd_wr_ne, own_wr_ne, mp_wr_ne, rd_wrm_ne, own_wrm_ne, mp_wrm_ne, rd_new_eq, own_new_eq, mp_newm_eq]
          refine (law07_heap_spec st'.row st'.ok hf st'.keys st'.there.rd (fun z hz => (st'.mem z).1 hz) st'.len (by omega)).mono ?_
          rintro _ H6 ⟨rfl, f6⟩
          simp (disch := (first | omega | (simp only [size_new, size_newm, size_wr, size_wrm] <;> omega) | fail)) only [go_sem, Nat.reduceBEq, Nat.reduceAdd, Nat.reduceMul, Nat.reduceLeDiff, ↓reduceIte, rd_new_lt, own_new_lt, mp_new_lt, rd_newm_lt, own_newm_lt, mp_newm_lt, rd_wr_ne, own_wr_ne, mp_wr_ne, rd_wrm_ne, own_wrm_ne, mp_wrm_ne, rd_new_eq, own_new_eq, mp_newm_eq]
          rw [wrap64 (by omega) (by omega)]
          exact ⟨n - (i + 1), by omega, i + 1, S', f', l', pl', q', tv', th', fp', rfl, rfl, by omega, st'.fresh f6, by omega, by omega⟩
      · exact ⟨rfl, st.fr⟩
    · obtain ⟨_, rfl, rfl⟩ := hpa.resolve_right (fun h => hf h.1)
      refine Both.of_false (decide_eq_false hl) ?_
      simp (disch := (first | omega | (simp only [size_new, size_newm, size_wr, size_wrm] <;> omega) | fail)) only [go_sem, Nat.reduceBEq, Nat.reduceAdd, Nat.reduceMul, Nat.reduceLeDiff, ↓reduceIte, rd_new_lt, own_new_lt, mp_new_lt, rd_newm_lt, own_newm_lt, mp_newm_lt, rd_wr_ne, own_wr_ne, mp_wr_ne, rd_wrm_ne, own_wrm_ne, mp_wrm_ne, rd_new_eq, own_new_eq, mp_newm_eq, Option.isNone_none]
      exact ⟨rfl, f12⟩

end Go.Proofs.Ytkikanlkhkghcaa
